/- The law 'texts': its walk. -/
import Derived.Test.YtckkmafppfcecaaGreatDoorZl
import Derived.Test.YtckkmafppfcecaaGreatDoorYm
import Derived.Test.YtckkmafppfcecaaGreatDoorYl
namespace Go.Proofs.YtckkmafppfcecaaGreatDoor
open Go.RowKit Go.Proofs
set_option linter.unusedVariables false
set_option linter.unusedSimpArgs false

theorem rep_any (k : Nat) (w : World) (hk : k ≤ 1000) : Calls Tryz.prog 26 #[.string ⟨#[32]⟩, .int .i64 (k : Int)] w fun e w' => e = .returned (.string (strB (List.replicate k 32))) ∧ Below w.heap.size w w' := by
  have h := Tryz.strings_Repeat ⟨#[32]⟩ k w (by omega) (by show 1 * k ≤ _; omega)
  rw [show Lib.repeatL (⟨#[32]⟩ : ByteArray).data.toList k = List.replicate k 32 from repeat32 k] at h
  exact h
theorem repl_any (s : List UInt8) (k : Nat) (w : World) (hs : s.length ≤ 1000) (hk : k ≤ 10) (hT : TabY w) : Calls Tryz.prog 27 #[.string (strB s), .string ⟨#[32]⟩, .string (strB (List.replicate k 32))] w fun e w' => e = .returned (.string (strB (wideP k s))) ∧ Below w.heap.size w w' := by
  obtain ⟨m0, hm0⟩ := hT.ml
  have hc := spl_count s
  have hsl := spl_length s
  have hr : (strB (List.replicate k 32)).size = k := by show (List.replicate k (32 : UInt8)).length = k; simp
  have h := Tryz.strings_ReplaceAll (strB s) ⟨#[32]⟩ (strB (List.replicate k 32)) m0 w (by show s.length < _; omega) hm0 (Nat.le_refl _) (by
    rw [hr]
    have h1 : Lib.countB (strB s) ⟨#[32]⟩ * k ≤ 1001 * 10 := Nat.mul_le_mul (by omega) hk
    show s.length + _ ≤ _
    omega)
  rw [show (strB s).data.toList = s from rfl, show (strB (List.replicate k (32 : UInt8))).data.toList = List.replicate k 32 from rfl, show (⟨#[32]⟩ : ByteArray).data.toList = [32] from rfl, replace_wide] at h
  exact h
set_option maxRecDepth 100000 in
set_option maxHeartbeats 4000000 in
theorem pipelineTexts_any (A : Option Addr) (n c : Nat) (l : List Stg) (z : Int) (w : World) (hx : Stgs w A n c l) (hn : n ≤ maxLen) (hz : 0 ≤ z ∧ z < 256) (hT : TabY w) :
    Calls Tryz.prog 9 #[.slice A n c, .int .u8 z] w fun e w' => e = .returned (.bool true) ∧ Below w.heap.size w w' := by
  by_cases h20 : 20 < n
  · have d0 : decide ((20 : Int) < (n : Int)) = true := decide_eq_true (by omega)
    have d0' : decide (20 < n) = true := decide_eq_true h20
    have HA := Lib.hid (awake_any w hT)
    clear hx hT h20
    go_enter Tryz.func9, Tryz.ntmps9
    go_wp2_with fail
    refine HA.out.mono ?_
    rintro e w1 ⟨rfl, hb1⟩
    have HB1 := Lib.hid hb1
    clear hb1
    go_wp2_with fail
    go_ret
    exact ⟨rfl, HB1.out⟩
  have d0 : decide ((20 : Int) < (n : Int)) = false := decide_eq_false (by omega)
  have d0' : decide (20 < n) = false := decide_eq_false h20
  have hn8 : n ≤ 1000000000000 := by omega
  have HP := print_any A n c l w hx hn8 hT
  have HX := Lib.hid hx
  have HT := Lib.hid hT
  clear hx hT h20
  by_cases he : (typE l (0, 0)).1 = 0
  · have hpr : printP l = (joinP (wordsOf l), 0) := by unfold printP; rw [if_pos he]
    rw [hpr] at HP
    obtain ⟨hl1, hp1⟩ := parse_print he
    obtain ⟨m, rfl⟩ : ∃ m : Nat, z = (m : Int) := ⟨z.toNat, by omega⟩
    obtain ⟨hl2, hp2⟩ := parse_wide he (p := m % 5) (k := 1 + m % 3) (by omega) (by omega) (by omega)
    obtain ⟨s, hs⟩ : ∃ s, s = joinP (wordsOf l) := ⟨_, rfl⟩
    rw [← hs] at HP hl1 hp1 hl2 hp2
    have HPR : Hid (printP l = (s, 0)) := by show _ = _; rw [hpr, hs]
    have HP1 := Lib.hid hp1
    have HP2 := Lib.hid hp2
    have HL2 := Lib.hid hl2
    have HPP := Lib.hid HP
    clear hpr hp1 hp2 hs he HP
    go_enter Tryz.func9, Tryz.ntmps9
    go_wp2_with fail
    refine HPP.out.mono ?_
    rintro e w1 ⟨rfl, hb1⟩
    have HB1 := Lib.hid hb1
    have HT1 := Lib.hid (HT.out.below hb1)
    clear hb1
    go_wp2_with fail
    rw [show (m : Int) % 5 = ((m % 5 : Nat) : Int) by omega]
    refine (rep_any (m % 5) w1 (by omega)).mono ?_
    rintro e w2 ⟨rfl, hb2⟩
    have HB2 := Lib.hid (HB1.out.trans (hb2.mono HB1.out.size))
    have HT2 := Lib.hid (HT1.out.below hb2)
    clear hb2
    go_wp2_with fail
    rw [show (1 : Int) + (m : Int) % 3 = ((1 + m % 3 : Nat) : Int) by omega]
    refine (rep_any (1 + m % 3) w2 (by omega)).mono ?_
    rintro e w3 ⟨rfl, hb3⟩
    have HB3 := Lib.hid (HB2.out.trans (hb3.mono HB2.out.size))
    have HT3 := Lib.hid (HT2.out.below hb3)
    clear hb3
    go_wp2_with fail
    refine (repl_any s (1 + m % 3) w3 (by omega) (by omega) HT3.out).mono ?_
    rintro e w4 ⟨rfl, hb4⟩
    have HB4 := Lib.hid (HB3.out.trans (hb4.mono HB3.out.size))
    have HT4 := Lib.hid (HT3.out.below hb4)
    clear hb4
    obtain ⟨xp, hxp⟩ : ∃ xp, xp = List.replicate (m % 5) (32 : UInt8) := ⟨_, rfl⟩
    obtain ⟨xw, hxw⟩ : ∃ xw, xw = wideP (1 + m % 3) s := ⟨_, rfl⟩
    rw [← hxp, ← hxw] at hl2 HP2 HL2
    rw [List.append_assoc] at HP2
    rw [← hxp, ← hxw]
    clear hxp hxw
    have hlx : xp.length + xw.length + 1 ≤ 400 := by rw [List.length_append, List.length_append] at hl2; exact hl2
    have a1 : strB xp ++ strB xw = strB (xp ++ xw) := strB_append xp xw
    have a2 : strB (xp ++ xw) ++ (⟨#[32]⟩ : ByteArray) = strB (xp ++ (xw ++ [32])) := by rw [← List.append_assoc]; exact strB_append (xp ++ xw) [32]
    have b1 : ¬ 9223372036854775807 < (strB xp).size + (strB xw).size := by show ¬ 9223372036854775807 < xp.length + xw.length; omega
    have b2 : ¬ 9223372036854775807 < (strB (xp ++ xw)).size + (⟨#[32]⟩ : ByteArray).size := by show ¬ 9223372036854775807 < (xp ++ xw).length + 1; rw [List.length_append]; omega
    have b2' : ¬ 9223372036854775807 < (strB (xp ++ xw)).size + 1 := b2
    have HP1' := parse_any s w4 (by omega) HT4.out
    unfold ParsePost at HP1'
    rw [HP1.out] at HP1'
    replace HP1' := Lib.hid HP1'
    clear hl1 hl2 hlx
    go_wp2_with fail
    refine HP1'.out.mono ?_
    rintro e w5 ⟨A5, n5, c5, rfl, -, hs5, hb5⟩
    obtain rfl : n5 = n := by rw [← hs5.1]; exact HX.out.1
    have HB5 := Lib.hid (HB4.out.trans (hb5.mono HB4.out.size))
    have HS5 := Lib.hid hs5
    have HP2' := parse_any (xp ++ (xw ++ [32])) w5 (by have := HL2.out; simp [List.length_append] at this ⊢; omega) (HT4.out.below hb5)
    unfold ParsePost at HP2'
    rw [HP2.out] at HP2'
    replace HP2' := Lib.hid HP2'
    have HT5 := Lib.hid (HT4.out.below hb5)
    clear hb5 hs5 HP1'
    go_wp2_with fail
    refine HP2'.out.mono ?_
    rintro e w6 ⟨A6, n6, c6, rfl, -, hs6, hb6⟩
    obtain rfl : n6 = n5 := by rw [← hs6.1]; exact HX.out.1
    have HB6 := Lib.hid (HB5.out.trans (hb6.mono HB5.out.size))
    have HS5' := Lib.hid (HS5.out.below hb6)
    have HS6 := Lib.hid hs6
    have HT6 := Lib.hid (HT5.out.below hb6)
    clear hb6 hs6 HP2' a1 a2 b1 b2 b2'
    have HPA := print_any A5 n6 c5 l w6 HS5'.out hn8 HT6.out
    rw [HPR.out] at HPA
    replace HPA := Lib.hid HPA
    go_wp2_with fail
    refine HPA.out.mono ?_
    rintro e w7 ⟨rfl, hb7⟩
    have HB7 := Lib.hid (HB6.out.trans (hb7.mono HB6.out.size))
    have HS7 := Lib.hid (HS5'.out.below hb7)
    have HS8 := Lib.hid (HS6.out.below hb7)
    have HT7 := Lib.hid (HT6.out.below hb7)
    clear hb7 HPA
    go_wp2_with fail
    refine (awake_any w7 HT7.out).mono ?_
    rintro e w8 ⟨rfl, hb8⟩
    have HB8 := Lib.hid (HB7.out.trans (hb8.mono HB7.out.size))
    have HSA := Lib.hid (HS7.out.below hb8)
    have HSB := Lib.hid (HS8.out.below hb8)
    clear hb8
    go_wp2_with fail
    have HQ1 := refSame_any A A5 n6 c n6 c5 l l w8 (HX.out.below HB8.out) HSA.out hn8
    simp only [decide_true] at HQ1
    replace HQ1 := Lib.hid HQ1
    refine HQ1.out.mono ?_
    rintro e w9 ⟨rfl, hb9⟩
    have HB9 := Lib.hid (HB8.out.trans (hb9.mono HB8.out.size))
    have HSC := Lib.hid (HSB.out.below hb9)
    clear hb9 HQ1
    go_wp2_with fail
    have HQ2 := refSame_any A A6 n6 c n6 c6 l l w9 (HX.out.below HB9.out) HSC.out hn8
    simp only [decide_true] at HQ2
    replace HQ2 := Lib.hid HQ2
    refine HQ2.out.mono ?_
    rintro e w10 ⟨rfl, hb10⟩
    have HB10 := Lib.hid (HB9.out.trans (hb10.mono HB9.out.size))
    have q9 : ((strB s).toList == (strB s).toList) = true := beq_self_eq_true _
    clear hb10 HQ2
    go_wp2_with fail
    go_ret
    exact ⟨rfl, HB10.out⟩
  · have hpr : printP l = ([], (typE l (0, 0)).1) := by unfold printP; rw [if_neg he]
    rw [hpr] at HP
    have q0 : ((typE l (0, 0)).1 == 0) = false := by simpa using he
    have HC := fun W hW => check_any A n c l W hW hn8
    obtain ⟨er, her⟩ : ∃ er, er = (typE l (0, 0)).1 := ⟨_, rfl⟩
    rw [← her] at HP q0 HC
    replace HC := Lib.hid HC
    replace HP := Lib.hid HP
    have q1 : (er == er) = true := beq_self_eq_true _
    have q2 : (strB []).toList.isEmpty = true := by rw [strB_toList]; rfl
    clear hpr he her
    go_enter Tryz.func9, Tryz.ntmps9
    go_wp2_with fail
    refine HP.out.mono ?_
    rintro e w1 ⟨rfl, hb1⟩
    have HB1 := Lib.hid hb1
    have HT1 := Lib.hid (HT.out.below hb1)
    have HX1 := Lib.hid (HX.out.below hb1)
    clear hb1
    go_wp2_with fail
    refine (awake_any w1 HT1.out).mono ?_
    rintro e w2 ⟨rfl, hb2⟩
    have HB2 := Lib.hid (HB1.out.trans (hb2.mono HB1.out.size))
    have HX2 := Lib.hid (HX1.out.below hb2)
    clear hb2
    go_wp2_with fail
    refine (HC.out _ HX2.out).mono ?_
    rintro e w3 ⟨rfl, hb3⟩
    have HB3 := Lib.hid (HB2.out.trans (hb3.mono HB2.out.size))
    clear hb3
    go_wp2_with fail
    go_ret
    exact ⟨rfl, HB3.out⟩
end Go.Proofs.YtckkmafppfcecaaGreatDoor

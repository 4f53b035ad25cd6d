/- The reference: Print. -/
import Derived.Test.YtckkmafppfcecaaGreatDoorYm
namespace Go.Proofs.YtckkmafppfcecaaGreatDoor
open Go.RowKit Go.Proofs
set_option linter.unusedVariables false
set_option linter.unusedSimpArgs false

theorem cat_ok (x y : List UInt8) (hx : x.length ≤ 1000000) (hy : y.length ≤ 1000000) : ¬ 9223372036854775807 < (strB x).size + (strB y).size := by
  have h1 : (strB x).size = x.length := rfl
  have h2 : (strB y).size = y.length := rfl
  omega
theorem sp32 : (⟨#[32]⟩ : ByteArray) = strB [32] := rfl

set_option maxRecDepth 100000 in
set_option maxHeartbeats 4000000 in
theorem refPrint_any (A : Option Addr) (n c : Nat) (l : List Stg) (w : World) (hx : Stgs w A n c l) (hn : n ≤ 1000000000000) :
    Calls Tryz.prog 24 #[.slice A n c] w fun e w' => e = .returned (.tuple #[.string (strB (printP l).1), .int .i64 (printP l).2]) ∧ Below w.heap.size w w' := by
  have HC := Lib.hid (refCheck_any A n c l w hx hn)
  have hP : printP l = if (typE l (0, 0)).1 = 0 then (joinP (wordsOf l), 0) else ([], (typE l (0, 0)).1) := rfl
  have hok := fun h => typE_ok (l := l) (t := (0, 0)) h
  obtain ⟨er, her⟩ : ∃ er, er = (typE l (0, 0)).1 := ⟨_, rfl⟩
  rw [← her] at HC hP hok
  clear her
  by_cases he : er = 0
  · rw [if_pos he] at hP
    obtain ⟨h8, -, -, hso⟩ := hok he
    rw [hP]
    subst he
    have hl := hx.1
    have HX := Lib.hid hx
    have HSO := Lib.hid hso
    clear hok hP hx hso
    go_enter Tryz.func24, Tryz.ntmps24
    go_wp2_with fail
    refine HC.out.mono ?_
    rintro e w0 ⟨rfl, hb0⟩
    have HB0 := Lib.hid hb0
    have HX0 := Lib.hid (HX.out.below hb0)
    clear hb0 HX HC
    go_wp2_with fail
    go_loopw [5, 6] (fun o i wr => ∃ k : Nat, k ≤ n ∧ i = .int .i64 (k : Int) ∧ o = .string (strB (joinP (wordsOf (l.take k)))) ∧ Hid (Below w0.heap.size w0 wr)) (fun _ i _ => n - (intOf i).toNat)
    case atStart => exact ⟨0, Nat.zero_le _, rfl, rfl, Lib.hid (Below.refl _ _)⟩
    case round =>
      obtain ⟨k, hk, rfl, rfl, HB⟩ := hrel
      by_cases hlt : k < n
      · have d0 : decide ((k : Int) < (n : Int)) = true := decide_eq_true (by omega)
        have d0' : decide (k < n) = true := decide_eq_true (by omega)
        obtain ⟨sb, so, rfl, hsb, hs1, hs2⟩ := HX0.out.cell hlt
        have y1 : wr.cell? ⟨sb, so + k * 2, none⟩ = some (.int .i64 (sG l k).1) := (HB.out.cell (p := ⟨sb, so + k * 2, none⟩) hsb).trans hs1
        have y2 : wr.cell? ⟨sb, so + k * 2 + 1, none⟩ = some (.int .i64 (sG l k).2) := (HB.out.cell (p := ⟨sb, so + k * 2 + 1, none⟩) hsb).trans hs2
        have hkl : k < l.length := by omega
        have hjn := join_next hkl
        have hsok := HSO.out (sG l k) (by unfold sG; rw [List.getD_eq_getElem?_getD, List.getElem?_eq_getElem hkl]; exact List.getElem_mem hkl)
        have hXl := (words_ok (l.take k) (fun s hs => HSO.out s (List.mem_of_mem_take hs))).2
        rw [List.length_take] at hXl
        obtain ⟨⟨kd, ar⟩, hs⟩ : ∃ s, s = sG l k := ⟨_, rfl⟩
        rw [← hs] at y1 y2 hjn hsok
        clear hs hs1 hs2
        dsimp only at y1 y2 hjn
        obtain ⟨hk0, hk1, hk2, hk3⟩ := hsok
        dsimp only at hk0 hk1 hk2 hk3
        have hnl := (name_word kd hk0 hk1).2
        have HNm := Lib.hid (fun W => refName_any kd W)
        obtain ⟨nm, hnm⟩ : ∃ nm, nm = nameP kd := ⟨_, rfl⟩
        rw [← hnm] at HNm hnl hjn
        obtain ⟨X, hX⟩ : ∃ X, X = joinP (wordsOf (l.take k)) := ⟨_, rfl⟩
        rw [← hX] at hjn hXl ⊢
        have hXl2 : X.length ≤ 200 := by omega
        have Hjn := Lib.hid hjn
        clear hnm hX hjn hXl
        by_cases hz : k = 0
        · by_cases hz2 : kd = 0
          · have e0 : decide ((0 : Int) < (k : Int)) = false := decide_eq_false (by omega)
            have e0' : decide (0 < k) = false := decide_eq_false (by omega)
            have hz' := Hjn.out
            rw [if_pos hz, List.nil_append] at hz'
            have a2 : strB X ++ strB nm = strB (X ++ nm) := by rw [strB_append]
            have b2 : ¬ 9223372036854775807 < (strB X).size + (strB nm).size := cat_ok _ _ (by omega) (by omega)
            have ha := hk2 hz2
            obtain ⟨a, rfl⟩ : ∃ a : Nat, ar = (a : Int) := ⟨ar.toNat, by omega⟩
            rw [if_pos hz2, Int.toNat_natCast] at hz'
            have q1 : (kd == 0) = true := by rw [hz2]; rfl
            have HD := Lib.hid (fun W => refDecimal_any a W (by omega))
            have hdl := decS_len 9 a (by omega)
            have a3 : (⟨#[32]⟩ : ByteArray) ++ strB (decS a) = strB (32 :: decS a) := strB_append [32] (decS a)
            have b3 : ¬ 9223372036854775807 < (⟨#[32]⟩ : ByteArray).size + (strB (decS a)).size := cat_ok [32] _ (by simp) (by omega)
            have b3' : ¬ 9223372036854775807 < 1 + (strB (decS a)).size := cat_ok [32] _ (by simp) (by omega)
            have a4 : strB (X ++ nm) ++ strB (32 :: decS a) = strB (X ++ (nm ++ 32 :: decS a)) := by rw [strB_append]; simp
            have b4 : ¬ 9223372036854775807 < (strB (X ++ nm)).size + (strB (32 :: decS a)).size := cat_ok _ _ (by simp; omega) (by simp; omega)
            have HF : Hid (joinP (wordsOf (l.take (k + 1))) = X ++ (nm ++ 32 :: decS a)) := by show _ = _; simp [hz']
            clear hz' hk2 hk3 hz hz2
            go_wp2_with fail
            refine (HNm.out _).mono ?_
            rintro e w1 ⟨rfl, hw1⟩
            obtain rfl : wr = w1 := hw1.symm
            go_wp2_with fail
            refine (HD.out _).mono ?_
            rintro e w2 ⟨rfl, hb2⟩
            have HB2 := Lib.hid (HB.out.trans (hb2.mono HB.out.size))
            clear hb2
            go_wp2_with fail
            go_roundw
            case rel => exact ⟨k + 1, by omega, by go_num, by rw [HF.out], HB2⟩
            case measure => (simp [intOf]) <;> omega
          · have e0 : decide ((0 : Int) < (k : Int)) = false := decide_eq_false (by omega)
            have e0' : decide (0 < k) = false := decide_eq_false (by omega)
            have hz' := Hjn.out
            rw [if_pos hz, List.nil_append] at hz'
            have a2 : strB X ++ strB nm = strB (X ++ nm) := by rw [strB_append]
            have b2 : ¬ 9223372036854775807 < (strB X).size + (strB nm).size := cat_ok _ _ (by omega) (by omega)
            rw [if_neg hz2, List.append_nil] at hz'
            have q1 : (kd == 0) = false := by simpa using hz2
            have HF : Hid (joinP (wordsOf (l.take (k + 1))) = X ++ nm) := by show _ = _; simp [hz']
            clear hz' hk2 hk3 hz hz2
            go_wp2_with fail
            refine (HNm.out _).mono ?_
            rintro e w1 ⟨rfl, hw1⟩
            obtain rfl : wr = w1 := hw1.symm
            go_wp2_with fail
            go_roundw
            case rel => exact ⟨k + 1, by omega, by go_num, by rw [HF.out], HB⟩
            case measure => (simp [intOf]) <;> omega
        · by_cases hz2 : kd = 0
          · have e0 : decide ((0 : Int) < (k : Int)) = true := decide_eq_true (by omega)
            have e0' : decide (0 < k) = true := decide_eq_true (by omega)
            have hz' := Hjn.out
            rw [if_neg hz] at hz'
            have a1 : strB X ++ (⟨#[32]⟩ : ByteArray) = strB (X ++ [32]) := strB_append X [32]
            have b1 : ¬ 9223372036854775807 < (strB X).size + (⟨#[32]⟩ : ByteArray).size := cat_ok X [32] (by omega) (by simp)
            have b1' : ¬ 9223372036854775807 < (strB X).size + 1 := cat_ok X [32] (by omega) (by simp)
            have a2 : strB (X ++ [32]) ++ strB nm = strB (X ++ 32 :: nm) := by rw [strB_append]; simp
            have b2 : ¬ 9223372036854775807 < (strB (X ++ [32])).size + (strB nm).size := cat_ok _ _ (by simp; omega) (by omega)
            have ha := hk2 hz2
            obtain ⟨a, rfl⟩ : ∃ a : Nat, ar = (a : Int) := ⟨ar.toNat, by omega⟩
            rw [if_pos hz2, Int.toNat_natCast] at hz'
            have q1 : (kd == 0) = true := by rw [hz2]; rfl
            have HD := Lib.hid (fun W => refDecimal_any a W (by omega))
            have hdl := decS_len 9 a (by omega)
            have a3 : (⟨#[32]⟩ : ByteArray) ++ strB (decS a) = strB (32 :: decS a) := strB_append [32] (decS a)
            have b3 : ¬ 9223372036854775807 < (⟨#[32]⟩ : ByteArray).size + (strB (decS a)).size := cat_ok [32] _ (by simp) (by omega)
            have b3' : ¬ 9223372036854775807 < 1 + (strB (decS a)).size := cat_ok [32] _ (by simp) (by omega)
            have a4 : strB (X ++ 32 :: nm) ++ strB (32 :: decS a) = strB (X ++ 32 :: (nm ++ 32 :: decS a)) := by rw [strB_append]; simp
            have b4 : ¬ 9223372036854775807 < (strB (X ++ 32 :: nm)).size + (strB (32 :: decS a)).size := cat_ok _ _ (by simp; omega) (by simp; omega)
            have HF : Hid (joinP (wordsOf (l.take (k + 1))) = X ++ 32 :: (nm ++ 32 :: decS a)) := by show _ = _; simp [hz']
            clear hz' hk2 hk3 hz hz2
            go_wp2_with fail
            refine (HNm.out _).mono ?_
            rintro e w1 ⟨rfl, hw1⟩
            obtain rfl : wr = w1 := hw1.symm
            go_wp2_with fail
            refine (HD.out _).mono ?_
            rintro e w2 ⟨rfl, hb2⟩
            have HB2 := Lib.hid (HB.out.trans (hb2.mono HB.out.size))
            clear hb2
            go_wp2_with fail
            go_roundw
            case rel => exact ⟨k + 1, by omega, by go_num, by rw [HF.out], HB2⟩
            case measure => (simp [intOf]) <;> omega
          · have e0 : decide ((0 : Int) < (k : Int)) = true := decide_eq_true (by omega)
            have e0' : decide (0 < k) = true := decide_eq_true (by omega)
            have hz' := Hjn.out
            rw [if_neg hz] at hz'
            have a1 : strB X ++ (⟨#[32]⟩ : ByteArray) = strB (X ++ [32]) := strB_append X [32]
            have b1 : ¬ 9223372036854775807 < (strB X).size + (⟨#[32]⟩ : ByteArray).size := cat_ok X [32] (by omega) (by simp)
            have b1' : ¬ 9223372036854775807 < (strB X).size + 1 := cat_ok X [32] (by omega) (by simp)
            have a2 : strB (X ++ [32]) ++ strB nm = strB (X ++ 32 :: nm) := by rw [strB_append]; simp
            have b2 : ¬ 9223372036854775807 < (strB (X ++ [32])).size + (strB nm).size := cat_ok _ _ (by simp; omega) (by omega)
            rw [if_neg hz2, List.append_nil] at hz'
            have q1 : (kd == 0) = false := by simpa using hz2
            have HF : Hid (joinP (wordsOf (l.take (k + 1))) = X ++ 32 :: nm) := by show _ = _; simp [hz']
            clear hz' hk2 hk3 hz hz2
            go_wp2_with fail
            refine (HNm.out _).mono ?_
            rintro e w1 ⟨rfl, hw1⟩
            obtain rfl : wr = w1 := hw1.symm
            go_wp2_with fail
            go_roundw
            case rel => exact ⟨k + 1, by omega, by go_num, by rw [HF.out], HB⟩
            case measure => (simp [intOf]) <;> omega
      · obtain rfl : k = n := by omega
        have d0 : decide ((k : Int) < (k : Int)) = false := by simp
        have HT := Lib.hid (show l.take k = l from List.take_of_length_le (by omega))
        go_wp2_with fail
        rw [HT.out]
        go_ret2
        exact ⟨rfl, HB0.out.trans (HB.out.mono HB0.out.size)⟩
  · rw [if_neg he] at hP
    rw [hP]
    have q0 : (er == 0) = false := by simpa using he
    clear hok hP he
    go_enter Tryz.func24, Tryz.ntmps24
    go_wp2_with fail
    refine HC.out.mono ?_
    rintro e w0 ⟨rfl, hb0⟩
    go_wp2_with fail
    go_ret2
    exact ⟨rfl, hb0⟩
end Go.Proofs.YtckkmafppfcecaaGreatDoor

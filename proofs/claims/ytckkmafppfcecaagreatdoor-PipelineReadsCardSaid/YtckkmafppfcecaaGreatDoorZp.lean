/- PipelineReads: both parse the text alike, both print the stages alike. -/
import Derived.Test.YtckkmafppfcecaaGreatDoorZn
import Derived.Test.YtckkmafppfcecaaGreatDoorZo
import Derived.Test.YtckkmafppfcecaaGreatDoorYn
namespace Go.Proofs.YtckkmafppfcecaaGreatDoor
open Go.RowKit Go.Proofs
set_option linter.unusedVariables false
set_option linter.unusedSimpArgs false

theorem parseP_len (s : List UInt8) : (parseP s).1.length ≤ 8 := by
  unfold parseP
  by_cases h : 8192 < s.length
  · rw [if_pos h]; simp
  · rw [if_neg h]
    cases readP s.length (wordsP s) with
    | error x => obtain ⟨i, e⟩ := x; simp
    | ok o =>
      dsimp only
      by_cases h0 : (typE (o.map (·.1)) (0, 0)).1 = 0
      · rw [if_pos h0]
        show (o.map (·.1)).length ≤ 8
        by_cases h8 : 8 < (o.map (·.1)).length
        · unfold typE at h0; rw [if_pos h8] at h0; exact absurd h0 (by decide)
        · omega
      · rw [if_neg h0]; split <;> simp
set_option maxRecDepth 100000 in
set_option maxHeartbeats 4000000 in
theorem pipelineReads_any (s : List UInt8) (A : Option Addr) (n c : Nat) (l : List Stg) (w : World) (hs : s.length < 9223372036854775808) (hx : Stgs w A n c l) (hn : n ≤ maxLen) (hT : TabY w) :
    Calls Tryz.prog 8 #[.string (strB s), .slice A n c] w fun e w' => e = .returned (.bool true) ∧ Below w.heap.size w w' := by
  have hsz : (strB s).size = s.length := rfl
  rcases (show (300 < s.length ∧ s.length ≤ 8192) ∨ (s.length ≤ 300 ∧ 20 < n) ∨ (8192 < s.length ∧ 20 < n) ∨ (s.length ≤ 300 ∧ n ≤ 20) ∨ (8192 < s.length ∧ n ≤ 20) by omega) with ⟨g1, g2⟩ | ⟨g1, g2⟩ | ⟨g1, g2⟩ | ⟨g1, g2⟩ | ⟨g1, g2⟩
  · have hr := True.intro
    have d0 : decide ((300 : Int) < (s.length : Int)) = true := decide_eq_true (by omega)
    have e0 : decide (300 < s.length) = true := decide_eq_true (by omega)
    have d1 : decide ((s.length : Int) ≤ 8192) = true := decide_eq_true (by omega)
    have e1 : decide (s.length ≤ 8192) = true := decide_eq_true (by omega)
    have HA := Lib.hid (awake_any w hT)
    clear hx hT hr
    go_enter Tryz.func8, Tryz.ntmps8
    go_wp2_with fail
    refine HA.out.mono ?_
    rintro e w1 ⟨rfl, hb1⟩
    have HB1 := Lib.hid hb1
    clear hb1
    go_wp2_with fail
    go_ret
    exact ⟨rfl, HB1.out⟩
  · have hr := True.intro
    have d0 : decide ((300 : Int) < (s.length : Int)) = false := decide_eq_false (by omega)
    have e0 : decide (300 < s.length) = false := decide_eq_false (by omega)
    have d2 : decide ((20 : Int) < (n : Int)) = true := decide_eq_true (by omega)
    have e2 : decide (20 < n) = true := decide_eq_true (by omega)
    have HA := Lib.hid (awake_any w hT)
    clear hx hT hr
    go_enter Tryz.func8, Tryz.ntmps8
    go_wp2_with fail
    refine HA.out.mono ?_
    rintro e w1 ⟨rfl, hb1⟩
    have HB1 := Lib.hid hb1
    clear hb1
    go_wp2_with fail
    go_ret
    exact ⟨rfl, HB1.out⟩
  · have hr := True.intro
    have d0 : decide ((300 : Int) < (s.length : Int)) = true := decide_eq_true (by omega)
    have e0 : decide (300 < s.length) = true := decide_eq_true (by omega)
    have d1 : decide ((s.length : Int) ≤ 8192) = false := decide_eq_false (by omega)
    have e1 : decide (s.length ≤ 8192) = false := decide_eq_false (by omega)
    have d2 : decide ((20 : Int) < (n : Int)) = true := decide_eq_true (by omega)
    have e2 : decide (20 < n) = true := decide_eq_true (by omega)
    have HA := Lib.hid (awake_any w hT)
    clear hx hT hr
    go_enter Tryz.func8, Tryz.ntmps8
    go_wp2_with fail
    refine HA.out.mono ?_
    rintro e w1 ⟨rfl, hb1⟩
    have HB1 := Lib.hid hb1
    clear hb1
    go_wp2_with fail
    go_ret
    exact ⟨rfl, HB1.out⟩
  · have hr := True.intro
    have d0 : decide ((300 : Int) < (s.length : Int)) = false := decide_eq_false (by omega)
    have e0 : decide (300 < s.length) = false := decide_eq_false (by omega)
    have d2 : decide ((20 : Int) < (n : Int)) = false := decide_eq_false (by omega)
    have e2 : decide (20 < n) = false := decide_eq_false (by omega)
    have hn8 : n ≤ 1000000000000 := by omega
    have HP := Lib.hid (parse_any s w hs hT)
    have HX := Lib.hid hx
    have HT := Lib.hid hT
    have HS3 := Lib.hid (show s.length ≤ 300 ∨ 8192 < s.length ∧ s.length < 9223372036854775808 by omega)
    have hl8 := parseP_len s
    obtain ⟨⟨L, px, pe⟩, hpp⟩ : ∃ p, p = parseP s := ⟨_, rfl⟩
    have HPP := Lib.hid hpp
    obtain ⟨⟨pt, pr⟩, hpr⟩ : ∃ p, p = printP l := ⟨_, rfl⟩
    have HPR := Lib.hid hpr
    rw [← hpp] at hl8
    clear hx hT hr hs hpp hpr
    go_enter Tryz.func8, Tryz.ntmps8
    go_wp2_with fail
    refine HP.out.mono ?_
    rintro e w1 hp1
    unfold ParsePost at hp1
    rw [← HPP.out] at hp1
    obtain ⟨A1, n1, c1, rfl, -, hs1, hb1⟩ := hp1
    have HB1 := Lib.hid hb1
    have HS1 := Lib.hid hs1
    have HT1 := Lib.hid (HT.out.below hb1)
    clear hb1 hs1 HP
    go_wp2_with fail
    refine (refParse_any s w1 HS3.out).mono ?_
    rintro e w2 hp2
    unfold ParsePost at hp2
    rw [← HPP.out] at hp2
    obtain ⟨A2, n2, c2, rfl, -, hs2, hb2⟩ := hp2
    have HB2 := Lib.hid (HB1.out.trans (hb2.mono HB1.out.size))
    have HS1b := Lib.hid (HS1.out.below hb2)
    have HS2 := Lib.hid hs2
    have HT2 := Lib.hid (HT1.out.below hb2)
    clear hb2 hs2
    have HPA := print_any A n c l w2 (HX.out.below HB2.out) hn8 HT2.out
    rw [← HPR.out] at HPA
    replace HPA := Lib.hid HPA
    go_wp2_with fail
    refine HPA.out.mono ?_
    rintro e w3 ⟨rfl, hb3⟩
    have HB3 := Lib.hid (HB2.out.trans (hb3.mono HB2.out.size))
    have HS1c := Lib.hid (HS1b.out.below hb3)
    have HS2c := Lib.hid (HS2.out.below hb3)
    have HT3 := Lib.hid (HT2.out.below hb3)
    clear hb3 HPA
    have HPB := refPrint_any A n c l w3 (HX.out.below HB3.out) hn8
    rw [← HPR.out] at HPB
    replace HPB := Lib.hid HPB
    go_wp2_with fail
    refine HPB.out.mono ?_
    rintro e w4 ⟨rfl, hb4⟩
    have HB4 := Lib.hid (HB3.out.trans (hb4.mono HB3.out.size))
    have HS1d := Lib.hid (HS1c.out.below hb4)
    have HS2d := Lib.hid (HS2c.out.below hb4)
    have HT4 := Lib.hid (HT3.out.below hb4)
    clear hb4 HPB
    go_wp2_with fail
    refine (awake_any w4 HT4.out).mono ?_
    rintro e w5 ⟨rfl, hb5⟩
    have HB5 := Lib.hid (HB4.out.trans (hb5.mono HB4.out.size))
    have HS1e := Lib.hid (HS1d.out.below hb5)
    have HS2e := Lib.hid (HS2d.out.below hb5)
    clear hb5
    have hn1 : n1 ≤ 1000000000000 := by have := HS1e.out.1; omega
    have HQ := refSame_any A1 A2 n1 c1 n2 c2 L L w5 HS1e.out HS2e.out hn1
    simp only [decide_true] at HQ
    replace HQ := Lib.hid HQ
    have q1 : (px == px) = true := beq_self_eq_true _
    have q2 : (pe == pe) = true := beq_self_eq_true _
    have q3 : (pr == pr) = true := beq_self_eq_true _
    have q4 : ((strB pt).toList == (strB pt).toList) = true := beq_self_eq_true _
    go_wp2_with fail
    refine HQ.out.mono ?_
    rintro e w6 ⟨rfl, hb6⟩
    have HB6 := Lib.hid (HB5.out.trans (hb6.mono HB5.out.size))
    clear hb6 HQ
    go_wp2_with fail
    go_ret
    exact ⟨rfl, HB6.out⟩
  · have hr := True.intro
    have d0 : decide ((300 : Int) < (s.length : Int)) = true := decide_eq_true (by omega)
    have e0 : decide (300 < s.length) = true := decide_eq_true (by omega)
    have d1 : decide ((s.length : Int) ≤ 8192) = false := decide_eq_false (by omega)
    have e1 : decide (s.length ≤ 8192) = false := decide_eq_false (by omega)
    have d2 : decide ((20 : Int) < (n : Int)) = false := decide_eq_false (by omega)
    have e2 : decide (20 < n) = false := decide_eq_false (by omega)
    have hn8 : n ≤ 1000000000000 := by omega
    have HP := Lib.hid (parse_any s w hs hT)
    have HX := Lib.hid hx
    have HT := Lib.hid hT
    have HS3 := Lib.hid (show s.length ≤ 300 ∨ 8192 < s.length ∧ s.length < 9223372036854775808 by omega)
    have hl8 := parseP_len s
    obtain ⟨⟨L, px, pe⟩, hpp⟩ : ∃ p, p = parseP s := ⟨_, rfl⟩
    have HPP := Lib.hid hpp
    obtain ⟨⟨pt, pr⟩, hpr⟩ : ∃ p, p = printP l := ⟨_, rfl⟩
    have HPR := Lib.hid hpr
    rw [← hpp] at hl8
    clear hx hT hr hs hpp hpr
    go_enter Tryz.func8, Tryz.ntmps8
    go_wp2_with fail
    refine HP.out.mono ?_
    rintro e w1 hp1
    unfold ParsePost at hp1
    rw [← HPP.out] at hp1
    obtain ⟨A1, n1, c1, rfl, -, hs1, hb1⟩ := hp1
    have HB1 := Lib.hid hb1
    have HS1 := Lib.hid hs1
    have HT1 := Lib.hid (HT.out.below hb1)
    clear hb1 hs1 HP
    go_wp2_with fail
    refine (refParse_any s w1 HS3.out).mono ?_
    rintro e w2 hp2
    unfold ParsePost at hp2
    rw [← HPP.out] at hp2
    obtain ⟨A2, n2, c2, rfl, -, hs2, hb2⟩ := hp2
    have HB2 := Lib.hid (HB1.out.trans (hb2.mono HB1.out.size))
    have HS1b := Lib.hid (HS1.out.below hb2)
    have HS2 := Lib.hid hs2
    have HT2 := Lib.hid (HT1.out.below hb2)
    clear hb2 hs2
    have HPA := print_any A n c l w2 (HX.out.below HB2.out) hn8 HT2.out
    rw [← HPR.out] at HPA
    replace HPA := Lib.hid HPA
    go_wp2_with fail
    refine HPA.out.mono ?_
    rintro e w3 ⟨rfl, hb3⟩
    have HB3 := Lib.hid (HB2.out.trans (hb3.mono HB2.out.size))
    have HS1c := Lib.hid (HS1b.out.below hb3)
    have HS2c := Lib.hid (HS2.out.below hb3)
    have HT3 := Lib.hid (HT2.out.below hb3)
    clear hb3 HPA
    have HPB := refPrint_any A n c l w3 (HX.out.below HB3.out) hn8
    rw [← HPR.out] at HPB
    replace HPB := Lib.hid HPB
    go_wp2_with fail
    refine HPB.out.mono ?_
    rintro e w4 ⟨rfl, hb4⟩
    have HB4 := Lib.hid (HB3.out.trans (hb4.mono HB3.out.size))
    have HS1d := Lib.hid (HS1c.out.below hb4)
    have HS2d := Lib.hid (HS2c.out.below hb4)
    have HT4 := Lib.hid (HT3.out.below hb4)
    clear hb4 HPB
    go_wp2_with fail
    refine (awake_any w4 HT4.out).mono ?_
    rintro e w5 ⟨rfl, hb5⟩
    have HB5 := Lib.hid (HB4.out.trans (hb5.mono HB4.out.size))
    have HS1e := Lib.hid (HS1d.out.below hb5)
    have HS2e := Lib.hid (HS2d.out.below hb5)
    clear hb5
    have hn1 : n1 ≤ 1000000000000 := by have := HS1e.out.1; omega
    have HQ := refSame_any A1 A2 n1 c1 n2 c2 L L w5 HS1e.out HS2e.out hn1
    simp only [decide_true] at HQ
    replace HQ := Lib.hid HQ
    have q1 : (px == px) = true := beq_self_eq_true _
    have q2 : (pe == pe) = true := beq_self_eq_true _
    have q3 : (pr == pr) = true := beq_self_eq_true _
    have q4 : ((strB pt).toList == (strB pt).toList) = true := beq_self_eq_true _
    go_wp2_with fail
    refine HQ.out.mono ?_
    rintro e w6 ⟨rfl, hb6⟩
    have HB6 := Lib.hid (HB5.out.trans (hb6.mono HB5.out.size))
    clear hb6 HQ
    go_wp2_with fail
    go_ret
    exact ⟨rfl, HB6.out⟩
end Go.Proofs.YtckkmafppfcecaaGreatDoor

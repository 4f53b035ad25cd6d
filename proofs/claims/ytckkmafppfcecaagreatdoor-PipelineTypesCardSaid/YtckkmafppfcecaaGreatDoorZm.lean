/- The law 'types': its walk. -/
import Derived.Test.YtckkmafppfcecaaGreatDoorZl
import Derived.Test.YtckkmafppfcecaaGreatDoorYu
namespace Go.Proofs.YtckkmafppfcecaaGreatDoor
open Go.RowKit Go.Proofs
set_option linter.unusedVariables false
set_option linter.unusedSimpArgs false

set_option maxRecDepth 100000 in
set_option maxHeartbeats 4000000 in
theorem pipelineTypes_any (A : Option Addr) (n c : Nat) (l : List Stg) (y z : Int) (w : World) (hx : Stgs w A n c l) (hn : n ≤ maxLen) (hT : TabY w) :
    Calls Tryz.prog 5 #[.slice A n c, .agg #[.int .i64 y, .int .i64 z]] w fun e w' => e = .returned (.bool true) ∧ Below w.heap.size w w' := by
  obtain ⟨w0, hw0⟩ : ∃ w0, w0 = w.alloc (.cells #[.int .i64 y, .int .i64 z] 33) := ⟨_, rfl⟩
  have hb0 : Below w.heap.size w w0 := by rw [hw0]; exact balloc (Below.refl _ _) _
  have r0 : rowV w0 w.heap.size 33 #[.int .i64 y, .int .i64 z] := by rw [hw0]; exact rowV.new w _ _
  have HW0 := Lib.hid hw0
  by_cases h20 : 20 < n
  · have d0 : decide ((20 : Int) < (n : Int)) = true := decide_eq_true (by omega)
    have d0' : decide (20 < n) = true := decide_eq_true h20
    have HA := Lib.hid (awake_any w0 (hT.below hb0))
    have HB := Lib.hid hb0
    clear hw0 r0 hb0 hx hT h20
    go_enter Tryz.func5, Tryz.ntmps5
    go_wp2_with fail
    rw [← HW0.out]
    refine HA.out.mono ?_
    rintro e w1 ⟨rfl, hb1⟩
    have HB1 := Lib.hid (HB.out.trans (hb1.mono HB.out.size))
    clear hb1
    go_wp2_with fail
    go_ret
    exact ⟨rfl, HB1.out⟩
  · have d0 : decide ((20 : Int) < (n : Int)) = false := decide_eq_false (by omega)
    have d0' : decide (20 < n) = false := decide_eq_false h20
    have hn8 : n ≤ 1000000000000 := by omega
    have HX := Lib.hid (hx.below hb0)
    have HT := Lib.hid (hT.below hb0)
    have HB := Lib.hid hb0
    have R0 := Lib.hid r0
    have k0 : w0.cell? ⟨w.heap.size, 0, none⟩ = some (.int .i64 y) := r0.cell rfl
    have k1 : w0.cell? ⟨w.heap.size, 1, none⟩ = some (.int .i64 z) := r0.cell rfl
    have HQ : Hid (∀ q : Int, (q == q) = true) := fun q => beq_self_eq_true q
    obtain ⟨⟨p1, p2⟩, hp⟩ : ∃ p, p = typeP l (y, z) := ⟨_, rfl⟩
    obtain ⟨er, her⟩ : ∃ er, er = (typE l (y, z)).1 := ⟨_, rfl⟩
    obtain ⟨ec, hec⟩ : ∃ ec, ec = (typE l (0, 0)).1 := ⟨_, rfl⟩
    have H1 := fun W hW => type_any A n c l y z W hW hn8
    have H2 := fun W hW => refType_any A n c l y z W hW hn8
    have H3 := fun W hW => check_any A n c l W hW hn8
    have H4 := fun W hW => refCheck_any A n c l W hW hn8
    rw [← hp, ← her] at H1 H2
    rw [← hec] at H3 H4
    replace H1 := Lib.hid H1
    replace H2 := Lib.hid H2
    replace H3 := Lib.hid H3
    replace H4 := Lib.hid H4
    have q1 := HQ.out p1
    have q2 := HQ.out p2
    have q3 := HQ.out er
    have q4 := HQ.out ec
    clear hw0 hb0 hx hT h20 r0 hp her hec
    go_enter Tryz.func5, Tryz.ntmps5
    go_wp2_with fail
    rw [← HW0.out]
    refine (H1.out _ HX.out).mono ?_
    rintro e w1 ⟨rfl, hb1⟩
    obtain ⟨w2, hw2⟩ : ∃ w2, w2 = w1.alloc (.cells #[.int .i64 p1, .int .i64 p2] 33) := ⟨_, rfl⟩
    have hb2 : Below w1.heap.size w1 w2 := by rw [hw2]; exact balloc (Below.refl _ _) _
    have hb02 : Below w0.heap.size w0 w2 := hb1.trans (hb2.mono hb1.size)
    have rA : rowV w2 w1.heap.size 33 #[.int .i64 p1, .int .i64 p2] := by rw [hw2]; exact rowV.new w1 _ _
    have r2 := R0.out.below hb02 R0.out.lt
    have k2 := r2.cell (j := 0) rfl
    have k3 := r2.cell (j := 1) rfl
    have HB2 := Lib.hid (HB.out.trans (hb02.mono HB.out.size))
    have HX2 := Lib.hid (HX.out.below hb02)
    have HT2 := Lib.hid (HT.out.below hb02)
    have HW2 := Lib.hid hw2
    have RA := Lib.hid rA
    rw [hw2] at k2 k3
    clear hb1 hb2 hb02 hw2 r2 rA k0 k1
    go_wp2_with fail
    rw [← HW2.out]
    refine (H2.out _ HX2.out).mono ?_
    rintro e w3 ⟨rfl, hb3⟩
    obtain ⟨w4, hw4⟩ : ∃ w4, w4 = w3.alloc (.cells #[.int .i64 p1, .int .i64 p2] 33) := ⟨_, rfl⟩
    have hb4 : Below w3.heap.size w3 w4 := by rw [hw4]; exact balloc (Below.refl _ _) _
    have hb24 : Below w2.heap.size w2 w4 := hb3.trans (hb4.mono hb3.size)
    have rB : rowV w4 w3.heap.size 33 #[.int .i64 p1, .int .i64 p2] := by rw [hw4]; exact rowV.new w3 _ _
    have RA4 := Lib.hid (RA.out.below hb24 RA.out.lt)
    have RB := Lib.hid rB
    have HB4 := Lib.hid (HB2.out.trans (hb24.mono HB2.out.size))
    have HX4 := Lib.hid (HX2.out.below hb24)
    have HT4 := Lib.hid (HT2.out.below hb24)
    have HW4 := Lib.hid hw4
    clear hb3 hb4 hb24 hw4 rB k2 k3
    go_wp2_with fail
    rw [← HW4.out]
    refine (awake_any w4 HT4.out).mono ?_
    rintro e w5 ⟨rfl, hb5⟩
    have rA5 := RA4.out.below hb5 RA4.out.lt
    have rB5 := RB.out.below hb5 RB.out.lt
    have j0 := rA5.cell (j := 0) rfl
    have j1 := rA5.cell (j := 1) rfl
    have j2 := rB5.cell (j := 0) rfl
    have j3 := rB5.cell (j := 1) rfl
    have HB5 := Lib.hid (HB4.out.trans (hb5.mono HB4.out.size))
    have HX5 := Lib.hid (HX4.out.below hb5)
    clear hb5 rA5 rB5
    go_wp2_with fail
    refine (H3.out _ HX5.out).mono ?_
    rintro e w6 ⟨rfl, hb6⟩
    have HB6 := Lib.hid (HB5.out.trans (hb6.mono HB5.out.size))
    have HX6 := Lib.hid (HX5.out.below hb6)
    clear hb6 j0 j1 j2 j3
    go_wp2_with fail
    refine (H4.out _ HX6.out).mono ?_
    rintro e w7 ⟨rfl, hb7⟩
    have HB7 := Lib.hid (HB6.out.trans (hb7.mono HB6.out.size))
    clear hb7
    go_wp2_with fail
    go_ret
    exact ⟨rfl, HB7.out⟩
end Go.Proofs.YtckkmafppfcecaaGreatDoor

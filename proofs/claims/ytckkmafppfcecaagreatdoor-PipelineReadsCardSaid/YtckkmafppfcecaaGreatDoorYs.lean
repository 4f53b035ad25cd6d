/- The reference: step. -/
import Derived.Test.YtckkmafppfcecaaGreatDoorYr
namespace Go.Proofs.YtckkmafppfcecaaGreatDoor
open Go.RowKit Go.Proofs
set_option linter.unusedVariables false
set_option linter.unusedSimpArgs false

theorem rowV.drewN {w : World} {g : Nat} {t : TypeId} {cs : Array Value} (h : rowV w g t cs) (q : Nat) : rowV (w.drewN q) g t cs := h
theorem name_nil {k : Int} (h : ¬ (0 ≤ k ∧ k < 10)) : nameP k = [] := by
  unfold nameP
  rw [if_neg (by omega), if_neg (by omega), if_neg (by omega), if_neg (by omega), if_neg (by omega), if_neg (by omega), if_neg (by omega), if_neg (by omega), if_neg (by omega), if_neg (by omega)]
theorem name_ne {k : Int} (h : 0 ≤ k ∧ k < 10) : (strB (nameP k)).toList.isEmpty = false := by
  have : ∀ k : Fin 10, (strB (nameP ((k.val : Nat) : Int))).toList.isEmpty = false := by decide +kernel
  have := this ⟨k.toNat, by omega⟩
  rwa [show (((⟨k.toNat, by omega⟩ : Fin 10).val : Nat) : Int) = k by simp; omega] at this

set_option maxRecDepth 100000 in
set_option maxHeartbeats 2000000 in
theorem refStep_any (k a x y : Int) (w : World) : Calls Tryz.prog 73 #[.agg #[.int .i64 k, .int .i64 a], .agg #[.int .i64 x, .int .i64 y]] w fun e w' =>
    e = .returned (.tuple #[.agg #[.int .i64 (stepP (k, a) (x, y)).1, .int .i64 (stepP (k, a) (x, y)).2], .int .i64 (errP (k, a) (x, y))]) ∧ Below w.heap.size w w' := by
  obtain ⟨w0, hw0, g0, s0, r1, r2, r3⟩ := boxesST w k a x y
  have hlt : w.heap.size + 1 + 1 < w0.heap.size := by omega
  obtain ⟨c1, c2⟩ := two_cellsV r1
  obtain ⟨c3, c4⟩ := two_cellsV r2
  obtain ⟨c5, c6⟩ := two_cellsV r3
  have z5 := r3.frozen 0
  have z6 := r3.frozen 1
  have Hr := Lib.hid r3
  have Hg := Lib.hid g0
  have Hw := Lib.hid hw0
  have HN := Lib.hid (refName_any k w0)
  clear r1 r2 r3 g0 hw0 s0
  by_cases h1 : ¬ (0 ≤ k ∧ k < 10)
  · rw [name_nil h1] at HN
    have n0 : (strB []).toList.isEmpty = true := by decide +kernel
    have hE : Hid (errP (k, a) (x, y) = 1 ∧ stepP (k, a) (x, y) = (x, y)) := by
      have : errP (k, a) (x, y) = 1 := by unfold errP; rw [if_pos (by omega)]
      exact ⟨this, by unfold stepP; rw [this, if_neg (by decide)]⟩
    clear h1
    rw [hE.out.1, hE.out.2]
    go_enter Tryz.func73, Tryz.ntmps73
    go_wp2_with fail
    rw [← Hw.out]
    refine HN.out.mono ?_
    rintro e w1 ⟨rfl, hw1⟩
    obtain rfl : w0 = w1 := hw1.symm
    go_wp2_with fail
    exact ret_cell rfl rfl rfl ((Hr.out.set 0 _).set 1 _) Tryz.underlying33 rfl (by kernel_rfl) ⟨rfl, (Below.setCell (p := ⟨w.heap.size + 1 + 1, 0, none⟩) Hg.out (by show w.heap.size ≤ w.heap.size + 1 + 1; omega) _).setCell (p := ⟨w.heap.size + 1 + 1, 1, none⟩) (by show w.heap.size ≤ w.heap.size + 1 + 1; omega) _⟩
  replace h1 := Classical.not_not.1 h1
  have n0 := name_ne h1
  obtain ⟨nm, hnm⟩ : ∃ nm, nm = nameP k := ⟨_, rfl⟩
  rw [← hnm] at n0 HN
  clear hnm
  by_cases h3 : k = 0
  · have d3 : (k == 0) = true := by simpa using h3
    have d3' : (k != 0) = false := by simp [h3]
    by_cases h4 : a < 1
    · have d4 : decide (a < 1) = true := by simpa using h4
      have hE : Hid (errP (k, a) (x, y) = 2 ∧ stepP (k, a) (x, y) = (x, y)) := by
        have : errP (k, a) (x, y) = 2 := by unfold errP; rw [if_neg (by omega), if_pos (by omega)]
        exact ⟨this, by unfold stepP; rw [this, if_neg (by decide)]⟩
      clear h1 h3 h4
      rw [hE.out.1, hE.out.2]
      go_enter Tryz.func73, Tryz.ntmps73
      go_wp2_with fail
      rw [← Hw.out]
      refine HN.out.mono ?_
      rintro e w1 ⟨rfl, hw1⟩
      obtain rfl : w0 = w1 := hw1.symm
      go_wp2_with fail
      exact ret_cell rfl rfl rfl ((Hr.out.set 0 _).set 1 _) Tryz.underlying33 rfl (by kernel_rfl) ⟨rfl, (Below.setCell (p := ⟨w.heap.size + 1 + 1, 0, none⟩) Hg.out (by show w.heap.size ≤ w.heap.size + 1 + 1; omega) _).setCell (p := ⟨w.heap.size + 1 + 1, 1, none⟩) (by show w.heap.size ≤ w.heap.size + 1 + 1; omega) _⟩
    have d4 : decide (a < 1) = false := by simpa using h4
    by_cases h5 : 64 < a
    · have d5 : decide (64 < a) = true := by simpa using h5
      have hE : Hid (errP (k, a) (x, y) = 2 ∧ stepP (k, a) (x, y) = (x, y)) := by
        have : errP (k, a) (x, y) = 2 := by unfold errP; rw [if_neg (by omega), if_pos (by omega)]
        exact ⟨this, by unfold stepP; rw [this, if_neg (by decide)]⟩
      clear h1 h3 h4 h5
      rw [hE.out.1, hE.out.2]
      go_enter Tryz.func73, Tryz.ntmps73
      go_wp2_with fail
      rw [← Hw.out]
      refine HN.out.mono ?_
      rintro e w1 ⟨rfl, hw1⟩
      obtain rfl : w0 = w1 := hw1.symm
      go_wp2_with fail
      exact ret_cell rfl rfl rfl ((Hr.out.set 0 _).set 1 _) Tryz.underlying33 rfl (by kernel_rfl) ⟨rfl, (Below.setCell (p := ⟨w.heap.size + 1 + 1, 0, none⟩) Hg.out (by show w.heap.size ≤ w.heap.size + 1 + 1; omega) _).setCell (p := ⟨w.heap.size + 1 + 1, 1, none⟩) (by show w.heap.size ≤ w.heap.size + 1 + 1; omega) _⟩
    have d5 : decide (64 < a) = false := by simpa using h5
    by_cases h6 : frK k ≠ x
    · have d6 : (frK k == x) = false := by simpa using h6
      have d6' : (frK k != x) = true := by simp [h6]
      have hE : Hid (errP (k, a) (x, y) = 13 ∧ stepP (k, a) (x, y) = (x, y)) := by
        have : errP (k, a) (x, y) = 13 := by unfold errP; rw [if_neg (by omega), if_neg (by omega), if_pos h6]
        exact ⟨this, by unfold stepP; rw [this, if_neg (by decide)]⟩
      clear h1 h6 h3 h4 h5
      rw [hE.out.1, hE.out.2]
      go_enter Tryz.func73, Tryz.ntmps73
      go_wp2_with fail
      rw [← Hw.out]
      refine HN.out.mono ?_
      rintro e w1 ⟨rfl, hw1⟩
      obtain rfl : w0 = w1 := hw1.symm
      go_wp2_with fail
      go_quiet (first | (go_at_call 133; exact Calls.quiet_of_same (refFrom_any _ _)))
      obtain ⟨nqa, hnqa⟩ : ∃ x, x = nq := ⟨_, rfl⟩
      rw [← hnqa]
      clear hnqa
      go_wp2_with fail
      exact ret_cell rfl rfl rfl (((Hr.out.drewN _).set 0 _).set 1 _) Tryz.underlying33 rfl (by kernel_rfl) ⟨rfl, (Below.setCell (p := ⟨w.heap.size + 1 + 1, 0, none⟩) (bdrew Hg.out _) (by show w.heap.size ≤ w.heap.size + 1 + 1; omega) _).setCell (p := ⟨w.heap.size + 1 + 1, 1, none⟩) (by show w.heap.size ≤ w.heap.size + 1 + 1; omega) _⟩
    replace h6 := Classical.not_not.1 h6
    have d6 : (frK k == x) = true := by simpa using h6
    have d6' : (frK k != x) = false := by simp [h6]
    have hE : Hid (errP (k, a) (x, y) = 0 ∧ stepP (k, a) (x, y) = toP (k, a) (x, y)) := by
      have : errP (k, a) (x, y) = 0 := by unfold errP; rw [if_neg (by omega), if_neg (by omega), if_neg (fun h => h h6)]
      exact ⟨this, by unfold stepP; rw [this, if_pos rfl]⟩
    clear h1 h6 h3 h4 h5
    rw [hE.out.1, hE.out.2]
    go_enter Tryz.func73, Tryz.ntmps73
    go_wp2_with fail
    rw [← Hw.out]
    refine HN.out.mono ?_
    rintro e w1 ⟨rfl, hw1⟩
    obtain rfl : w0 = w1 := hw1.symm
    go_wp2_with fail
    go_quiet (first | (go_at_call 133; exact Calls.quiet_of_same (refFrom_any _ _)))
    obtain ⟨nqa, hnqa⟩ : ∃ x, x = nq := ⟨_, rfl⟩
    rw [← hnqa]
    clear hnqa
    go_wp2_with fail
    refine (refTo_any k a x y _).mono ?_
    rintro e w2 ⟨rfl, hb2⟩
    have r2 := (Hr.out.drewN nqa).below hb2 (Hr.out.drewN nqa).lt
    have g2 := (bdrew Hg.out nqa).trans (hb2.mono (bdrew Hg.out nqa).size)
    clear c1 c2 c3 c4 c5 c6 z5 z6
    obtain ⟨c5, c6⟩ := two_cellsV r2
    have z5 := r2.frozen 0
    have z6 := r2.frozen 1
    have Hr2 := Lib.hid r2
    have Hg2 := Lib.hid g2
    clear r2 g2 hb2
    go_wp2_with fail
    exact ret_cell rfl rfl rfl ((Hr2.out.set 0 _).set 1 _) Tryz.underlying33 rfl (by kernel_rfl) ⟨rfl, (Below.setCell (p := ⟨w.heap.size + 1 + 1, 0, none⟩) Hg2.out (by show w.heap.size ≤ w.heap.size + 1 + 1; omega) _).setCell (p := ⟨w.heap.size + 1 + 1, 1, none⟩) (by show w.heap.size ≤ w.heap.size + 1 + 1; omega) _⟩
  have d3 : (k == 0) = false := by simpa using h3
  have d3' : (k != 0) = true := by simp [h3]
  by_cases h4 : ¬ a = 0
  · have d4 : (a == 0) = false := by simpa using h4
    have d4' : (a != 0) = true := by simp [h4]
    have hE : Hid (errP (k, a) (x, y) = 2 ∧ stepP (k, a) (x, y) = (x, y)) := by
      have : errP (k, a) (x, y) = 2 := by unfold errP; rw [if_neg (by omega), if_pos (by omega)]
      exact ⟨this, by unfold stepP; rw [this, if_neg (by decide)]⟩
    clear h1 h3 h4
    rw [hE.out.1, hE.out.2]
    go_enter Tryz.func73, Tryz.ntmps73
    go_wp2_with fail
    rw [← Hw.out]
    refine HN.out.mono ?_
    rintro e w1 ⟨rfl, hw1⟩
    obtain rfl : w0 = w1 := hw1.symm
    go_wp2_with fail
    exact ret_cell rfl rfl rfl ((Hr.out.set 0 _).set 1 _) Tryz.underlying33 rfl (by kernel_rfl) ⟨rfl, (Below.setCell (p := ⟨w.heap.size + 1 + 1, 0, none⟩) Hg.out (by show w.heap.size ≤ w.heap.size + 1 + 1; omega) _).setCell (p := ⟨w.heap.size + 1 + 1, 1, none⟩) (by show w.heap.size ≤ w.heap.size + 1 + 1; omega) _⟩
  replace h4 := Classical.not_not.1 h4
  have d4 : (a == 0) = true := by simpa using h4
  have d4' : (a != 0) = false := by simp [h4]
  by_cases h6 : frK k ≠ x
  · have d6 : (frK k == x) = false := by simpa using h6
    have d6' : (frK k != x) = true := by simp [h6]
    have hE : Hid (errP (k, a) (x, y) = 13 ∧ stepP (k, a) (x, y) = (x, y)) := by
      have : errP (k, a) (x, y) = 13 := by unfold errP; rw [if_neg (by omega), if_neg (by omega), if_pos h6]
      exact ⟨this, by unfold stepP; rw [this, if_neg (by decide)]⟩
    clear h1 h6 h3 h4
    rw [hE.out.1, hE.out.2]
    go_enter Tryz.func73, Tryz.ntmps73
    go_wp2_with fail
    rw [← Hw.out]
    refine HN.out.mono ?_
    rintro e w1 ⟨rfl, hw1⟩
    obtain rfl : w0 = w1 := hw1.symm
    go_wp2_with fail
    go_quiet (first | (go_at_call 133; exact Calls.quiet_of_same (refFrom_any _ _)))
    obtain ⟨nqa, hnqa⟩ : ∃ x, x = nq := ⟨_, rfl⟩
    rw [← hnqa]
    clear hnqa
    go_wp2_with fail
    exact ret_cell rfl rfl rfl (((Hr.out.drewN _).set 0 _).set 1 _) Tryz.underlying33 rfl (by kernel_rfl) ⟨rfl, (Below.setCell (p := ⟨w.heap.size + 1 + 1, 0, none⟩) (bdrew Hg.out _) (by show w.heap.size ≤ w.heap.size + 1 + 1; omega) _).setCell (p := ⟨w.heap.size + 1 + 1, 1, none⟩) (by show w.heap.size ≤ w.heap.size + 1 + 1; omega) _⟩
  replace h6 := Classical.not_not.1 h6
  have d6 : (frK k == x) = true := by simpa using h6
  have d6' : (frK k != x) = false := by simp [h6]
  have hE : Hid (errP (k, a) (x, y) = 0 ∧ stepP (k, a) (x, y) = toP (k, a) (x, y)) := by
    have : errP (k, a) (x, y) = 0 := by unfold errP; rw [if_neg (by omega), if_neg (by omega), if_neg (fun h => h h6)]
    exact ⟨this, by unfold stepP; rw [this, if_pos rfl]⟩
  clear h1 h6 h3 h4
  rw [hE.out.1, hE.out.2]
  go_enter Tryz.func73, Tryz.ntmps73
  go_wp2_with fail
  rw [← Hw.out]
  refine HN.out.mono ?_
  rintro e w1 ⟨rfl, hw1⟩
  obtain rfl : w0 = w1 := hw1.symm
  go_wp2_with fail
  go_quiet (first | (go_at_call 133; exact Calls.quiet_of_same (refFrom_any _ _)))
  obtain ⟨nqa, hnqa⟩ : ∃ x, x = nq := ⟨_, rfl⟩
  rw [← hnqa]
  clear hnqa
  go_wp2_with fail
  refine (refTo_any k a x y _).mono ?_
  rintro e w2 ⟨rfl, hb2⟩
  have r2 := (Hr.out.drewN nqa).below hb2 (Hr.out.drewN nqa).lt
  have g2 := (bdrew Hg.out nqa).trans (hb2.mono (bdrew Hg.out nqa).size)
  clear c1 c2 c3 c4 c5 c6 z5 z6
  obtain ⟨c5, c6⟩ := two_cellsV r2
  have z5 := r2.frozen 0
  have z6 := r2.frozen 1
  have Hr2 := Lib.hid r2
  have Hg2 := Lib.hid g2
  clear r2 g2 hb2
  go_wp2_with fail
  exact ret_cell rfl rfl rfl ((Hr2.out.set 0 _).set 1 _) Tryz.underlying33 rfl (by kernel_rfl) ⟨rfl, (Below.setCell (p := ⟨w.heap.size + 1 + 1, 0, none⟩) Hg2.out (by show w.heap.size ≤ w.heap.size + 1 + 1; omega) _).setCell (p := ⟨w.heap.size + 1 + 1, 1, none⟩) (by show w.heap.size ≤ w.heap.size + 1 + 1; omega) _⟩
end Go.Proofs.YtckkmafppfcecaaGreatDoor

/- Yc. -/
import Derived.Test.YtohadkmaemmfgaaGreatDoorRA03
set_option maxRecDepth 100000
set_option maxHeartbeats 4000000
namespace Go.Proofs.YtohadkmaemmfgaaGreatDoor
open Go.RowKit Go.Proofs
set_option linter.unusedVariables false
set_option linter.unusedSimpArgs false
theorem proper_any (x y : Int) (w : World) : Calls Tryz.prog 67 #[.agg #[.int .i64 x, .int .i64 y]] w fun e w' => e = .returned (.bool (tyOk (x, y))) ∧ Below w.heap.size w w' := by
  have hE : Hid (tyOk (x, y) = if x = 1 then decide (1 ≤ y ∧ y ≤ 64) else decide ((x = 0 ∨ x = 2 ∨ x = 3) ∧ y = 0)) := rfl
  have hb := balloc (Below.refl w.heap.size w) (.cells #[.int .i64 x, .int .i64 y] 35)
  have Hb := Lib.hid hb; clear hb
  by_cases h1 : x = 1
  · have H1 := Lib.hid h1
    have d1 : (x == 1) = true := by simpa using h1
    by_cases h2 : 1 ≤ y
    · have d2 : decide (1 ≤ y) = true := by simpa using h2
      have hR : Hid (tyOk (x, y) = decide (y ≤ 64)) := by show _ = _; rw [hE.out, if_pos h1]; simp [h2]
      clear h1 h2
      go_enter Tryz.func67, Tryz.ntmps67
      go_wp2
      rw [hR.out]
      go_ret
      exact ⟨rfl, Hb.out⟩
    · have d2 : decide (1 ≤ y) = false := by simpa using h2
      have hR : Hid (tyOk (x, y) = false) := by show _ = _; rw [hE.out, if_pos h1]; simp [h2]
      clear h1 h2
      go_enter Tryz.func67, Tryz.ntmps67
      go_wp2
      rw [hR.out]
      go_ret
      exact ⟨rfl, Hb.out⟩
  · have d1 : (x == 1) = false := by simpa using h1
    have hR0 : Hid (tyOk (x, y) = decide ((x = 0 ∨ x = 2 ∨ x = 3) ∧ y = 0)) := by show _ = _; rw [hE.out, if_neg h1]
    by_cases h3 : x = 0
    · have d3 : (x == 0) = true := by simpa using h3
      have hR : Hid (tyOk (x, y) = (y == 0)) := by show _ = _; rw [hR0.out, Bool.eq_iff_iff]; simp [h3]
      clear h1 h3
      go_enter Tryz.func67, Tryz.ntmps67
      go_wp2
      rw [hR.out]
      go_ret
      exact ⟨rfl, Hb.out⟩
    · have d3 : (x == 0) = false := by simpa using h3
      by_cases h4 : x = 2
      · have d4 : (x == 2) = true := by simpa using h4
        have hR : Hid (tyOk (x, y) = (y == 0)) := by show _ = _; rw [hR0.out, Bool.eq_iff_iff]; simp [h4]
        clear h1 h3 h4
        go_enter Tryz.func67, Tryz.ntmps67
        go_wp2
        rw [hR.out]
        go_ret
        exact ⟨rfl, Hb.out⟩
      · have d4 : (x == 2) = false := by simpa using h4
        by_cases h5 : x = 3
        · have d5 : (x == 3) = true := by simpa using h5
          have hR : Hid (tyOk (x, y) = (y == 0)) := by show _ = _; rw [hR0.out, Bool.eq_iff_iff]; simp [h5]
          clear h1 h3 h4 h5
          go_enter Tryz.func67, Tryz.ntmps67
          go_wp2
          rw [hR.out]
          go_ret
          exact ⟨rfl, Hb.out⟩
        · have d5 : (x == 3) = false := by simpa using h5
          have hR : Hid (tyOk (x, y) = false) := by show _ = _; rw [hR0.out]; simp [h3, h4, h5]
          clear h1 h3 h4 h5
          go_enter Tryz.func67, Tryz.ntmps67
          go_wp2
          rw [hR.out]
          go_ret
          exact ⟨rfl, Hb.out⟩
theorem boxesST (w : World) (a b c d : Int) : ∃ w0, w0 = ((w.alloc (.cells #[.int .i64 a, .int .i64 b] 50)).alloc (.cells #[.int .i64 c, .int .i64 d] 35)).alloc (.cells #[.int .i64 0, .int .i64 0] 35) ∧ Below w.heap.size w w0 ∧ w0.heap.size = w.heap.size + 3 ∧ rowV w0 w.heap.size 50 #[.int .i64 a, .int .i64 b] ∧ rowV w0 (w.heap.size + 1) 35 #[.int .i64 c, .int .i64 d] ∧ rowV w0 (w.heap.size + 1 + 1) 35 #[.int .i64 0, .int .i64 0] := by
  have r1 := rowV.new w 50 #[.int .i64 a, .int .i64 b]
  have r2 := rowV.new (w.alloc (.cells #[.int .i64 a, .int .i64 b] 50)) 35 #[.int .i64 c, .int .i64 d]
  have r3 := rowV.new ((w.alloc (.cells #[.int .i64 a, .int .i64 b] 50)).alloc (.cells #[.int .i64 c, .int .i64 d] 35)) 35 #[.int .i64 0, .int .i64 0]
  have h2 := balloc (Below.refl w.heap.size w) (.cells #[.int .i64 a, .int .i64 b] 50)
  have h3 := balloc h2 (.cells #[.int .i64 c, .int .i64 d] 35)
  have k1 := balloc (Below.refl _ (w.alloc (.cells #[.int .i64 a, .int .i64 b] 50))) (.cells #[.int .i64 c, .int .i64 d] 35)
  have k2 := balloc (Below.refl _ ((w.alloc (.cells #[.int .i64 a, .int .i64 b] 50)).alloc (.cells #[.int .i64 c, .int .i64 d] 35))) (.cells #[.int .i64 0, .int .i64 0] 35)
  have e1 : (w.alloc (.cells #[.int .i64 a, .int .i64 b] 50)).heap.size = w.heap.size + 1 := by simp
  have e2 : ((w.alloc (.cells #[.int .i64 a, .int .i64 b] 50)).alloc (.cells #[.int .i64 c, .int .i64 d] 35)).heap.size = w.heap.size + 1 + 1 := by simp
  have q1 := r1.below k1 r1.lt
  rw [e1] at r2
  rw [e2] at r3
  exact ⟨_, rfl, balloc h3 _, by simp, q1.below k2 q1.lt, r2.below k2 r2.lt, r3⟩
theorem laidSh (w : World) (f : Nat → Value) : ∃ w2, w2 = w.alloc (.cells (shV f) 46) ∧ (w.alloc (.cells zeroS 46)).setRow w.heap.size (shV f) = w2 ∧ Below w.heap.size w w2 ∧ w2.heap.size = w.heap.size + 1 ∧ rowV w2 w.heap.size 46 (shV f) :=
  ⟨_, rfl, World.setRow_alloc_new _ _ _ _, balloc (Below.refl _ _) _, by simp, rowV.new _ _ _⟩
theorem toP_toK {m : Nat} {a x y : Int} (hm : m < 10) (h0 : m ≠ 0) (h1 : toK m ≠ 1) : toP ((m : Int), a) (x, y) = (toK m, 0) := by
  match m, hm with
  | 0, _ => exact absurd rfl h0
  | 1, _ => exact absurd rfl h1
  | 2, _ => rfl
  | 3, _ => rfl
  | 4, _ => rfl
  | 5, _ => rfl
  | 6, _ => rfl
  | 7, _ => rfl
  | 8, _ => rfl
  | 9, _ => rfl
theorem step_any (k a x y : Int) (w : World) (hk : (Lit.int .i64 k).wf = true) : Calls Tryz.prog 68 #[.agg #[.int .i64 k, .int .i64 a], .agg #[.int .i64 x, .int .i64 y]] w fun e w' =>
    e = .returned (.tuple #[.agg #[.int .i64 (stepP (k, a) (x, y)).1, .int .i64 (stepP (k, a) (x, y)).2], .int .i64 (errP (k, a) (x, y))]) ∧ Below w.heap.size w w' := by
  have z1 := zS
  obtain ⟨w0, hw0, g0, s0, r1, r2, r3⟩ := boxesST w k a x y
  have Hw := Lib.hid hw0; clear hw0
  by_cases h1 : k < 0
  · have d1 : decide (k < 0) = true := by simpa using h1
    have hE : Hid (errP (k, a) (x, y) = 1 ∧ stepP (k, a) (x, y) = (x, y)) := by
      have : errP (k, a) (x, y) = 1 := by unfold errP; rw [if_pos (.inl h1)]
      exact ⟨this, by unfold stepP; rw [this, if_neg (by decide)]⟩
    try clear h3
    try clear h4
    try clear h5
    try clear h6
    try clear h8
    try clear h7
    go_enter Tryz.func68, Tryz.ntmps68
    go_wp2_with fail
    rw [← Hw.out]
    refine (shapes_any w0).mono ?_
    rintro e w1 ⟨⟨f, hf, rfl⟩, hb1⟩
    obtain ⟨w2, -, hw2, hb2, s2, r4⟩ := laidSh w1 f
    have Hr := Lib.hid (rowV.new w1 46 zeroS)
    have Hf := Lib.hid (allSh hf)
    have e2 := hb1.trans (hb2.mono hb1.size)
    have l1 := (r1.below e2 r1.lt).lt
    have l2 := (r2.below e2 r2.lt).lt
    have l3 := (r3.below e2 r3.lt).lt
    obtain ⟨c1, c2⟩ := two_cellsV (r1.below e2 r1.lt)
    obtain ⟨c3, c4⟩ := two_cellsV (r2.below e2 r2.lt)
    have r5 := r3.below e2 r3.lt
    have hE2 := g0.trans (e2.mono g0.size)
    obtain ⟨c5, c6⟩ := two_cellsV r5
    have z5 := r5.frozen 0
    have z6 := r5.frozen 1
    have Hr5 := Lib.hid r5
    have HE2 := Lib.hid hE2
    clear r1 r2 r3 g0 e2 hb1 hb2 s2 s0 r4 r5 hE2
    go_wp2_with (first | refine wpList_store_row rfl 46 (.tmp 6) (.tmp 10) rfl _ _ rfl rfl _ _ Hr.out (iSh f) (zS_size f) Hf.out ?_ | refine wpList_store_new rfl 45 (.tmp 9) (.tmp 26) rfl _ _ _ rfl rfl (i5 _ _ _ _ _) rfl (all5 _ _ _ _ _ _ _) ?_)
    rw [hE.out.1, hE.out.2]
    exact ret_cell rfl rfl rfl ((Hr5.out.set 0 _).set 1 _) Tryz.underlying35 rfl (by kernel_rfl) ⟨rfl, ((Below.setCell (p := ⟨w.heap.size + 1 + 1, 0, none⟩) HE2.out (by show w.heap.size ≤ w.heap.size + 1 + 1; omega) _).setCell (p := ⟨w.heap.size + 1 + 1, 1, none⟩) (by show w.heap.size ≤ w.heap.size + 1 + 1; omega) _)⟩
  have d1 : decide (k < 0) = false := by simpa using h1
  by_cases h2 : 10 ≤ k
  · have d2 : decide (10 ≤ k) = true := by simpa using h2
    have hE : Hid (errP (k, a) (x, y) = 1 ∧ stepP (k, a) (x, y) = (x, y)) := by
      have : errP (k, a) (x, y) = 1 := by unfold errP; rw [if_pos (.inr h2)]
      exact ⟨this, by unfold stepP; rw [this, if_neg (by decide)]⟩
    try clear h3
    try clear h4
    try clear h5
    try clear h6
    try clear h8
    try clear h7
    go_enter Tryz.func68, Tryz.ntmps68
    go_wp2_with fail
    rw [← Hw.out]
    refine (shapes_any w0).mono ?_
    rintro e w1 ⟨⟨f, hf, rfl⟩, hb1⟩
    obtain ⟨w2, -, hw2, hb2, s2, r4⟩ := laidSh w1 f
    have Hr := Lib.hid (rowV.new w1 46 zeroS)
    have Hf := Lib.hid (allSh hf)
    have e2 := hb1.trans (hb2.mono hb1.size)
    have l1 := (r1.below e2 r1.lt).lt
    have l2 := (r2.below e2 r2.lt).lt
    have l3 := (r3.below e2 r3.lt).lt
    obtain ⟨c1, c2⟩ := two_cellsV (r1.below e2 r1.lt)
    obtain ⟨c3, c4⟩ := two_cellsV (r2.below e2 r2.lt)
    have r5 := r3.below e2 r3.lt
    have hE2 := g0.trans (e2.mono g0.size)
    obtain ⟨c5, c6⟩ := two_cellsV r5
    have z5 := r5.frozen 0
    have z6 := r5.frozen 1
    have Hr5 := Lib.hid r5
    have HE2 := Lib.hid hE2
    clear r1 r2 r3 g0 e2 hb1 hb2 s2 s0 r4 r5 hE2
    go_wp2_with (first | refine wpList_store_row rfl 46 (.tmp 6) (.tmp 10) rfl _ _ rfl rfl _ _ Hr.out (iSh f) (zS_size f) Hf.out ?_ | refine wpList_store_new rfl 45 (.tmp 9) (.tmp 26) rfl _ _ _ rfl rfl (i5 _ _ _ _ _) rfl (all5 _ _ _ _ _ _ _) ?_)
    rw [hE.out.1, hE.out.2]
    exact ret_cell rfl rfl rfl ((Hr5.out.set 0 _).set 1 _) Tryz.underlying35 rfl (by kernel_rfl) ⟨rfl, ((Below.setCell (p := ⟨w.heap.size + 1 + 1, 0, none⟩) HE2.out (by show w.heap.size ≤ w.heap.size + 1 + 1; omega) _).setCell (p := ⟨w.heap.size + 1 + 1, 1, none⟩) (by show w.heap.size ≤ w.heap.size + 1 + 1; omega) _)⟩
  have d2 : decide (10 ≤ k) = false := by simpa using h2
  obtain ⟨m, rfl⟩ : ∃ m : Nat, k = (m : Int) := ⟨k.toNat, by omega⟩
  have hm : m < 10 := by omega
  have hfr : Hid (frK (m : Int) = frK (m : Int)) := rfl
  by_cases h3 : m = 0
  · have d3 : ((m : Int) == 0) = true := by rw [h3]; rfl
    have d7 : (toK m == 1) = true := by rw [h3]; rfl
    by_cases h4 : a < 1
    · have d4 : decide (a < 1) = true := by simpa using h4
      have hE : Hid (errP (↑m, a) (x, y) = 2 ∧ stepP (↑m, a) (x, y) = (x, y)) := by
        have : errP (↑m, a) (x, y) = 2 := by unfold errP; rw [if_neg (by omega), if_pos (by omega)]
        exact ⟨this, by unfold stepP; rw [this, if_neg (by decide)]⟩
      try clear h3
      try clear h4
      try clear h5
      try clear h6
      try clear h8
      try clear h7
      go_enter Tryz.func68, Tryz.ntmps68
      go_wp2_with fail
      rw [← Hw.out]
      refine (shapes_any w0).mono ?_
      rintro e w1 ⟨⟨f, hf, rfl⟩, hb1⟩
      obtain ⟨w2, -, hw2, hb2, s2, r4⟩ := laidSh w1 f
      have Hr := Lib.hid (rowV.new w1 46 zeroS)
      have Hf := Lib.hid (allSh hf)
      have e2 := hb1.trans (hb2.mono hb1.size)
      have l1 := (r1.below e2 r1.lt).lt
      have l2 := (r2.below e2 r2.lt).lt
      have l3 := (r3.below e2 r3.lt).lt
      obtain ⟨c1, c2⟩ := two_cellsV (r1.below e2 r1.lt)
      obtain ⟨c3, c4⟩ := two_cellsV (r2.below e2 r2.lt)
      have r5 := r3.below e2 r3.lt
      have hE2 := g0.trans (e2.mono g0.size)
      obtain ⟨ug, vg, ul, vl, q0, q1, q2, q3, q4⟩ := shV_at hf hm
      have k0 := r4.cell q0
      have k1 := r4.cell q1
      have k2 := r4.cell q2
      have k3 := r4.cell q3
      have k4 := r4.cell q4
      clear q0 q1 q2 q3 q4
      obtain ⟨c5, c6⟩ := two_cellsV r5
      have z5 := r5.frozen 0
      have z6 := r5.frozen 1
      have Hr5 := Lib.hid r5
      have HE2 := Lib.hid hE2
      clear r1 r2 r3 g0 e2 hb1 hb2 s2 s0 r4 r5 hE2
      go_wp2_with (first | refine wpList_store_row rfl 46 (.tmp 6) (.tmp 10) rfl _ _ rfl rfl _ _ Hr.out (iSh f) (zS_size f) Hf.out ?_ | refine wpList_store_new rfl 45 (.tmp 9) (.tmp 26) rfl _ _ _ rfl rfl (i5 _ _ _ _ _) rfl (all5 _ _ _ _ _ _ _) ?_)
      rw [hE.out.1, hE.out.2]
      exact ret_cell rfl rfl rfl (((Hr5.out.set 0 _).set 1 _).below (balloc (Below.refl _ _) _) ((Hr5.out.set 0 _).set 1 _).lt) Tryz.underlying35 rfl (by kernel_rfl) ⟨rfl, balloc ((Below.setCell (p := ⟨w.heap.size + 1 + 1, 0, none⟩) HE2.out (by show w.heap.size ≤ w.heap.size + 1 + 1; omega) _).setCell (p := ⟨w.heap.size + 1 + 1, 1, none⟩) (by show w.heap.size ≤ w.heap.size + 1 + 1; omega) _) _⟩
    have d4 : decide (a < 1) = false := by simpa using h4
    by_cases h5 : 64 < a
    · have d5 : decide (64 < a) = true := by simpa using h5
      have hE : Hid (errP (↑m, a) (x, y) = 2 ∧ stepP (↑m, a) (x, y) = (x, y)) := by
        have : errP (↑m, a) (x, y) = 2 := by unfold errP; rw [if_neg (by omega), if_pos (by omega)]
        exact ⟨this, by unfold stepP; rw [this, if_neg (by decide)]⟩
      try clear h3
      try clear h4
      try clear h5
      try clear h6
      try clear h8
      try clear h7
      go_enter Tryz.func68, Tryz.ntmps68
      go_wp2_with fail
      rw [← Hw.out]
      refine (shapes_any w0).mono ?_
      rintro e w1 ⟨⟨f, hf, rfl⟩, hb1⟩
      obtain ⟨w2, -, hw2, hb2, s2, r4⟩ := laidSh w1 f
      have Hr := Lib.hid (rowV.new w1 46 zeroS)
      have Hf := Lib.hid (allSh hf)
      have e2 := hb1.trans (hb2.mono hb1.size)
      have l1 := (r1.below e2 r1.lt).lt
      have l2 := (r2.below e2 r2.lt).lt
      have l3 := (r3.below e2 r3.lt).lt
      obtain ⟨c1, c2⟩ := two_cellsV (r1.below e2 r1.lt)
      obtain ⟨c3, c4⟩ := two_cellsV (r2.below e2 r2.lt)
      have r5 := r3.below e2 r3.lt
      have hE2 := g0.trans (e2.mono g0.size)
      obtain ⟨ug, vg, ul, vl, q0, q1, q2, q3, q4⟩ := shV_at hf hm
      have k0 := r4.cell q0
      have k1 := r4.cell q1
      have k2 := r4.cell q2
      have k3 := r4.cell q3
      have k4 := r4.cell q4
      clear q0 q1 q2 q3 q4
      obtain ⟨c5, c6⟩ := two_cellsV r5
      have z5 := r5.frozen 0
      have z6 := r5.frozen 1
      have Hr5 := Lib.hid r5
      have HE2 := Lib.hid hE2
      clear r1 r2 r3 g0 e2 hb1 hb2 s2 s0 r4 r5 hE2
      go_wp2_with (first | refine wpList_store_row rfl 46 (.tmp 6) (.tmp 10) rfl _ _ rfl rfl _ _ Hr.out (iSh f) (zS_size f) Hf.out ?_ | refine wpList_store_new rfl 45 (.tmp 9) (.tmp 26) rfl _ _ _ rfl rfl (i5 _ _ _ _ _) rfl (all5 _ _ _ _ _ _ _) ?_)
      rw [hE.out.1, hE.out.2]
      exact ret_cell rfl rfl rfl (((Hr5.out.set 0 _).set 1 _).below (balloc (Below.refl _ _) _) ((Hr5.out.set 0 _).set 1 _).lt) Tryz.underlying35 rfl (by kernel_rfl) ⟨rfl, balloc ((Below.setCell (p := ⟨w.heap.size + 1 + 1, 0, none⟩) HE2.out (by show w.heap.size ≤ w.heap.size + 1 + 1; omega) _).setCell (p := ⟨w.heap.size + 1 + 1, 1, none⟩) (by show w.heap.size ≤ w.heap.size + 1 + 1; omega) _) _⟩
    have d5 : decide (64 < a) = false := by simpa using h5
    by_cases h6 : frK (m : Int) ≠ x
    · have d6 : (frK (m : Int) == x) = false := by simpa using h6
      have hE : Hid (errP (↑m, a) (x, y) = 13 ∧ stepP (↑m, a) (x, y) = (x, y)) := by
        have : errP (↑m, a) (x, y) = 13 := by unfold errP; rw [if_neg (by omega), if_neg (by omega), if_pos h6]
        exact ⟨this, by unfold stepP; rw [this, if_neg (by decide)]⟩
      try clear h3
      try clear h4
      try clear h5
      try clear h6
      try clear h8
      try clear h7
      go_enter Tryz.func68, Tryz.ntmps68
      go_wp2_with fail
      rw [← Hw.out]
      refine (shapes_any w0).mono ?_
      rintro e w1 ⟨⟨f, hf, rfl⟩, hb1⟩
      obtain ⟨w2, -, hw2, hb2, s2, r4⟩ := laidSh w1 f
      have Hr := Lib.hid (rowV.new w1 46 zeroS)
      have Hf := Lib.hid (allSh hf)
      have e2 := hb1.trans (hb2.mono hb1.size)
      have l1 := (r1.below e2 r1.lt).lt
      have l2 := (r2.below e2 r2.lt).lt
      have l3 := (r3.below e2 r3.lt).lt
      obtain ⟨c1, c2⟩ := two_cellsV (r1.below e2 r1.lt)
      obtain ⟨c3, c4⟩ := two_cellsV (r2.below e2 r2.lt)
      have r5 := r3.below e2 r3.lt
      have hE2 := g0.trans (e2.mono g0.size)
      obtain ⟨ug, vg, ul, vl, q0, q1, q2, q3, q4⟩ := shV_at hf hm
      have k0 := r4.cell q0
      have k1 := r4.cell q1
      have k2 := r4.cell q2
      have k3 := r4.cell q3
      have k4 := r4.cell q4
      clear q0 q1 q2 q3 q4
      obtain ⟨c5, c6⟩ := two_cellsV r5
      have z5 := r5.frozen 0
      have z6 := r5.frozen 1
      have Hr5 := Lib.hid r5
      have HE2 := Lib.hid hE2
      clear r1 r2 r3 g0 e2 hb1 hb2 s2 s0 r4 r5 hE2
      go_wp2_with (first | refine wpList_store_row rfl 46 (.tmp 6) (.tmp 10) rfl _ _ rfl rfl _ _ Hr.out (iSh f) (zS_size f) Hf.out ?_ | refine wpList_store_new rfl 45 (.tmp 9) (.tmp 26) rfl _ _ _ rfl rfl (i5 _ _ _ _ _) rfl (all5 _ _ _ _ _ _ _) ?_)
      rw [hE.out.1, hE.out.2]
      exact ret_cell rfl rfl rfl (((Hr5.out.set 0 _).set 1 _).below (balloc (Below.refl _ _) _) ((Hr5.out.set 0 _).set 1 _).lt) Tryz.underlying35 rfl (by kernel_rfl) ⟨rfl, balloc ((Below.setCell (p := ⟨w.heap.size + 1 + 1, 0, none⟩) HE2.out (by show w.heap.size ≤ w.heap.size + 1 + 1; omega) _).setCell (p := ⟨w.heap.size + 1 + 1, 1, none⟩) (by show w.heap.size ≤ w.heap.size + 1 + 1; omega) _) _⟩
    have d6 : (frK (m : Int) == x) = true := by simpa using Classical.not_not.1 h6
    have hE : Hid (errP (↑m, a) (x, y) = 0 ∧ stepP (↑m, a) (x, y) = (1, a)) := by
      have : errP (↑m, a) (x, y) = 0 := by unfold errP; rw [if_neg (by omega), if_neg (by omega), if_neg h6]
      exact ⟨this, by unfold stepP; rw [this, if_pos rfl]; unfold toP; rw [if_pos (by simp [h3])]⟩
    try clear h3
    try clear h4
    try clear h5
    try clear h6
    try clear h8
    try clear h7
    go_enter Tryz.func68, Tryz.ntmps68
    go_wp2_with fail
    rw [← Hw.out]
    refine (shapes_any w0).mono ?_
    rintro e w1 ⟨⟨f, hf, rfl⟩, hb1⟩
    obtain ⟨w2, -, hw2, hb2, s2, r4⟩ := laidSh w1 f
    have Hr := Lib.hid (rowV.new w1 46 zeroS)
    have Hf := Lib.hid (allSh hf)
    have e2 := hb1.trans (hb2.mono hb1.size)
    have l1 := (r1.below e2 r1.lt).lt
    have l2 := (r2.below e2 r2.lt).lt
    have l3 := (r3.below e2 r3.lt).lt
    obtain ⟨c1, c2⟩ := two_cellsV (r1.below e2 r1.lt)
    obtain ⟨c3, c4⟩ := two_cellsV (r2.below e2 r2.lt)
    have r5 := r3.below e2 r3.lt
    have hE2 := g0.trans (e2.mono g0.size)
    obtain ⟨ug, vg, ul, vl, q0, q1, q2, q3, q4⟩ := shV_at hf hm
    have k0 := r4.cell q0
    have k1 := r4.cell q1
    have k2 := r4.cell q2
    have k3 := r4.cell q3
    have k4 := r4.cell q4
    clear q0 q1 q2 q3 q4
    obtain ⟨c5, c6⟩ := two_cellsV r5
    have z5 := r5.frozen 0
    have z6 := r5.frozen 1
    have Hr5 := Lib.hid r5
    have HE2 := Lib.hid hE2
    clear r1 r2 r3 g0 e2 hb1 hb2 s2 s0 r4 r5 hE2
    go_wp2_with (first | refine wpList_store_row rfl 46 (.tmp 6) (.tmp 10) rfl _ _ rfl rfl _ _ Hr.out (iSh f) (zS_size f) Hf.out ?_ | refine wpList_store_new rfl 45 (.tmp 9) (.tmp 26) rfl _ _ _ rfl rfl (i5 _ _ _ _ _) rfl (all5 _ _ _ _ _ _ _) ?_)
    rw [hE.out.1, hE.out.2]
    exact ret_cell rfl rfl rfl (((Hr5.out.set 0 _).set 1 _).below (balloc (Below.refl _ _) _) ((Hr5.out.set 0 _).set 1 _).lt) Tryz.underlying35 rfl (by kernel_rfl) ⟨rfl, balloc ((Below.setCell (p := ⟨w.heap.size + 1 + 1, 0, none⟩) HE2.out (by show w.heap.size ≤ w.heap.size + 1 + 1; omega) _).setCell (p := ⟨w.heap.size + 1 + 1, 1, none⟩) (by show w.heap.size ≤ w.heap.size + 1 + 1; omega) _) _⟩
  have d3 : ((m : Int) == 0) = false := by simp; omega
  by_cases h4 : a < 0
  · have d4 : decide (a < 0) = true := by simpa using h4
    have hE : Hid (errP (↑m, a) (x, y) = 2 ∧ stepP (↑m, a) (x, y) = (x, y)) := by
      have : errP (↑m, a) (x, y) = 2 := by unfold errP; rw [if_neg (by omega), if_pos (by omega)]
      exact ⟨this, by unfold stepP; rw [this, if_neg (by decide)]⟩
    try clear h3
    try clear h4
    try clear h5
    try clear h6
    try clear h8
    try clear h7
    go_enter Tryz.func68, Tryz.ntmps68
    go_wp2_with fail
    rw [← Hw.out]
    refine (shapes_any w0).mono ?_
    rintro e w1 ⟨⟨f, hf, rfl⟩, hb1⟩
    obtain ⟨w2, -, hw2, hb2, s2, r4⟩ := laidSh w1 f
    have Hr := Lib.hid (rowV.new w1 46 zeroS)
    have Hf := Lib.hid (allSh hf)
    have e2 := hb1.trans (hb2.mono hb1.size)
    have l1 := (r1.below e2 r1.lt).lt
    have l2 := (r2.below e2 r2.lt).lt
    have l3 := (r3.below e2 r3.lt).lt
    obtain ⟨c1, c2⟩ := two_cellsV (r1.below e2 r1.lt)
    obtain ⟨c3, c4⟩ := two_cellsV (r2.below e2 r2.lt)
    have r5 := r3.below e2 r3.lt
    have hE2 := g0.trans (e2.mono g0.size)
    obtain ⟨ug, vg, ul, vl, q0, q1, q2, q3, q4⟩ := shV_at hf hm
    have k0 := r4.cell q0
    have k1 := r4.cell q1
    have k2 := r4.cell q2
    have k3 := r4.cell q3
    have k4 := r4.cell q4
    clear q0 q1 q2 q3 q4
    obtain ⟨c5, c6⟩ := two_cellsV r5
    have z5 := r5.frozen 0
    have z6 := r5.frozen 1
    have Hr5 := Lib.hid r5
    have HE2 := Lib.hid hE2
    clear r1 r2 r3 g0 e2 hb1 hb2 s2 s0 r4 r5 hE2
    go_wp2_with (first | refine wpList_store_row rfl 46 (.tmp 6) (.tmp 10) rfl _ _ rfl rfl _ _ Hr.out (iSh f) (zS_size f) Hf.out ?_ | refine wpList_store_new rfl 45 (.tmp 9) (.tmp 26) rfl _ _ _ rfl rfl (i5 _ _ _ _ _) rfl (all5 _ _ _ _ _ _ _) ?_)
    rw [hE.out.1, hE.out.2]
    exact ret_cell rfl rfl rfl (((Hr5.out.set 0 _).set 1 _).below (balloc (Below.refl _ _) _) ((Hr5.out.set 0 _).set 1 _).lt) Tryz.underlying35 rfl (by kernel_rfl) ⟨rfl, balloc ((Below.setCell (p := ⟨w.heap.size + 1 + 1, 0, none⟩) HE2.out (by show w.heap.size ≤ w.heap.size + 1 + 1; omega) _).setCell (p := ⟨w.heap.size + 1 + 1, 1, none⟩) (by show w.heap.size ≤ w.heap.size + 1 + 1; omega) _) _⟩
  have d4 : decide (a < 0) = false := by simpa using h4
  by_cases h5 : 0 < a
  · have d5 : decide (0 < a) = true := by simpa using h5
    have hE : Hid (errP (↑m, a) (x, y) = 2 ∧ stepP (↑m, a) (x, y) = (x, y)) := by
      have : errP (↑m, a) (x, y) = 2 := by unfold errP; rw [if_neg (by omega), if_pos (by omega)]
      exact ⟨this, by unfold stepP; rw [this, if_neg (by decide)]⟩
    try clear h3
    try clear h4
    try clear h5
    try clear h6
    try clear h8
    try clear h7
    go_enter Tryz.func68, Tryz.ntmps68
    go_wp2_with fail
    rw [← Hw.out]
    refine (shapes_any w0).mono ?_
    rintro e w1 ⟨⟨f, hf, rfl⟩, hb1⟩
    obtain ⟨w2, -, hw2, hb2, s2, r4⟩ := laidSh w1 f
    have Hr := Lib.hid (rowV.new w1 46 zeroS)
    have Hf := Lib.hid (allSh hf)
    have e2 := hb1.trans (hb2.mono hb1.size)
    have l1 := (r1.below e2 r1.lt).lt
    have l2 := (r2.below e2 r2.lt).lt
    have l3 := (r3.below e2 r3.lt).lt
    obtain ⟨c1, c2⟩ := two_cellsV (r1.below e2 r1.lt)
    obtain ⟨c3, c4⟩ := two_cellsV (r2.below e2 r2.lt)
    have r5 := r3.below e2 r3.lt
    have hE2 := g0.trans (e2.mono g0.size)
    obtain ⟨ug, vg, ul, vl, q0, q1, q2, q3, q4⟩ := shV_at hf hm
    have k0 := r4.cell q0
    have k1 := r4.cell q1
    have k2 := r4.cell q2
    have k3 := r4.cell q3
    have k4 := r4.cell q4
    clear q0 q1 q2 q3 q4
    obtain ⟨c5, c6⟩ := two_cellsV r5
    have z5 := r5.frozen 0
    have z6 := r5.frozen 1
    have Hr5 := Lib.hid r5
    have HE2 := Lib.hid hE2
    clear r1 r2 r3 g0 e2 hb1 hb2 s2 s0 r4 r5 hE2
    go_wp2_with (first | refine wpList_store_row rfl 46 (.tmp 6) (.tmp 10) rfl _ _ rfl rfl _ _ Hr.out (iSh f) (zS_size f) Hf.out ?_ | refine wpList_store_new rfl 45 (.tmp 9) (.tmp 26) rfl _ _ _ rfl rfl (i5 _ _ _ _ _) rfl (all5 _ _ _ _ _ _ _) ?_)
    rw [hE.out.1, hE.out.2]
    exact ret_cell rfl rfl rfl (((Hr5.out.set 0 _).set 1 _).below (balloc (Below.refl _ _) _) ((Hr5.out.set 0 _).set 1 _).lt) Tryz.underlying35 rfl (by kernel_rfl) ⟨rfl, balloc ((Below.setCell (p := ⟨w.heap.size + 1 + 1, 0, none⟩) HE2.out (by show w.heap.size ≤ w.heap.size + 1 + 1; omega) _).setCell (p := ⟨w.heap.size + 1 + 1, 1, none⟩) (by show w.heap.size ≤ w.heap.size + 1 + 1; omega) _) _⟩
  have d5 : decide (0 < a) = false := by simpa using h5
  by_cases h6 : frK (m : Int) ≠ x
  · have d6 : (frK (m : Int) == x) = false := by simpa using h6
    have hE : Hid (errP (↑m, a) (x, y) = 13 ∧ stepP (↑m, a) (x, y) = (x, y)) := by
      have : errP (↑m, a) (x, y) = 13 := by unfold errP; rw [if_neg (by omega), if_neg (by omega), if_pos h6]
      exact ⟨this, by unfold stepP; rw [this, if_neg (by decide)]⟩
    try clear h3
    try clear h4
    try clear h5
    try clear h6
    try clear h8
    try clear h7
    go_enter Tryz.func68, Tryz.ntmps68
    go_wp2_with fail
    rw [← Hw.out]
    refine (shapes_any w0).mono ?_
    rintro e w1 ⟨⟨f, hf, rfl⟩, hb1⟩
    obtain ⟨w2, -, hw2, hb2, s2, r4⟩ := laidSh w1 f
    have Hr := Lib.hid (rowV.new w1 46 zeroS)
    have Hf := Lib.hid (allSh hf)
    have e2 := hb1.trans (hb2.mono hb1.size)
    have l1 := (r1.below e2 r1.lt).lt
    have l2 := (r2.below e2 r2.lt).lt
    have l3 := (r3.below e2 r3.lt).lt
    obtain ⟨c1, c2⟩ := two_cellsV (r1.below e2 r1.lt)
    obtain ⟨c3, c4⟩ := two_cellsV (r2.below e2 r2.lt)
    have r5 := r3.below e2 r3.lt
    have hE2 := g0.trans (e2.mono g0.size)
    obtain ⟨ug, vg, ul, vl, q0, q1, q2, q3, q4⟩ := shV_at hf hm
    have k0 := r4.cell q0
    have k1 := r4.cell q1
    have k2 := r4.cell q2
    have k3 := r4.cell q3
    have k4 := r4.cell q4
    clear q0 q1 q2 q3 q4
    obtain ⟨c5, c6⟩ := two_cellsV r5
    have z5 := r5.frozen 0
    have z6 := r5.frozen 1
    have Hr5 := Lib.hid r5
    have HE2 := Lib.hid hE2
    clear r1 r2 r3 g0 e2 hb1 hb2 s2 s0 r4 r5 hE2
    go_wp2_with (first | refine wpList_store_row rfl 46 (.tmp 6) (.tmp 10) rfl _ _ rfl rfl _ _ Hr.out (iSh f) (zS_size f) Hf.out ?_ | refine wpList_store_new rfl 45 (.tmp 9) (.tmp 26) rfl _ _ _ rfl rfl (i5 _ _ _ _ _) rfl (all5 _ _ _ _ _ _ _) ?_)
    rw [hE.out.1, hE.out.2]
    exact ret_cell rfl rfl rfl (((Hr5.out.set 0 _).set 1 _).below (balloc (Below.refl _ _) _) ((Hr5.out.set 0 _).set 1 _).lt) Tryz.underlying35 rfl (by kernel_rfl) ⟨rfl, balloc ((Below.setCell (p := ⟨w.heap.size + 1 + 1, 0, none⟩) HE2.out (by show w.heap.size ≤ w.heap.size + 1 + 1; omega) _).setCell (p := ⟨w.heap.size + 1 + 1, 1, none⟩) (by show w.heap.size ≤ w.heap.size + 1 + 1; omega) _) _⟩
  have d6 : (frK (m : Int) == x) = true := by simpa using Classical.not_not.1 h6
  by_cases h7 : toK m = 1
  · have d7 : (toK m == 1) = true := by simpa using h7
    have h8 : m = 1 := by unfold toK at h7; split at h7; (omega); split at h7; (omega); split at h7; (omega); omega
    have hE : Hid (errP (↑m, a) (x, y) = 0 ∧ stepP (↑m, a) (x, y) = (x, y)) := by
      have : errP (↑m, a) (x, y) = 0 := by unfold errP; rw [if_neg (by omega), if_neg (by omega), if_neg h6]
      exact ⟨this, by unfold stepP; rw [this, if_pos rfl]; unfold toP; simp [h8]⟩
    try clear h3
    try clear h4
    try clear h5
    try clear h6
    try clear h8
    try clear h7
    go_enter Tryz.func68, Tryz.ntmps68
    go_wp2_with fail
    rw [← Hw.out]
    refine (shapes_any w0).mono ?_
    rintro e w1 ⟨⟨f, hf, rfl⟩, hb1⟩
    obtain ⟨w2, -, hw2, hb2, s2, r4⟩ := laidSh w1 f
    have Hr := Lib.hid (rowV.new w1 46 zeroS)
    have Hf := Lib.hid (allSh hf)
    have e2 := hb1.trans (hb2.mono hb1.size)
    have l1 := (r1.below e2 r1.lt).lt
    have l2 := (r2.below e2 r2.lt).lt
    have l3 := (r3.below e2 r3.lt).lt
    obtain ⟨c1, c2⟩ := two_cellsV (r1.below e2 r1.lt)
    obtain ⟨c3, c4⟩ := two_cellsV (r2.below e2 r2.lt)
    have r5 := r3.below e2 r3.lt
    have hE2 := g0.trans (e2.mono g0.size)
    obtain ⟨ug, vg, ul, vl, q0, q1, q2, q3, q4⟩ := shV_at hf hm
    have k0 := r4.cell q0
    have k1 := r4.cell q1
    have k2 := r4.cell q2
    have k3 := r4.cell q3
    have k4 := r4.cell q4
    clear q0 q1 q2 q3 q4
    obtain ⟨c5, c6⟩ := two_cellsV r5
    have z5 := r5.frozen 0
    have z6 := r5.frozen 1
    have Hr5 := Lib.hid r5
    have HE2 := Lib.hid hE2
    clear r1 r2 r3 g0 e2 hb1 hb2 s2 s0 r4 r5 hE2
    go_wp2_with (first | refine wpList_store_row rfl 46 (.tmp 6) (.tmp 10) rfl _ _ rfl rfl _ _ Hr.out (iSh f) (zS_size f) Hf.out ?_ | refine wpList_store_new rfl 45 (.tmp 9) (.tmp 26) rfl _ _ _ rfl rfl (i5 _ _ _ _ _) rfl (all5 _ _ _ _ _ _ _) ?_)
    rw [hE.out.1, hE.out.2]
    exact ret_cell rfl rfl rfl (((Hr5.out.set 0 _).set 1 _).below (balloc (Below.refl _ _) _) ((Hr5.out.set 0 _).set 1 _).lt) Tryz.underlying35 rfl (by kernel_rfl) ⟨rfl, balloc ((Below.setCell (p := ⟨w.heap.size + 1 + 1, 0, none⟩) HE2.out (by show w.heap.size ≤ w.heap.size + 1 + 1; omega) _).setCell (p := ⟨w.heap.size + 1 + 1, 1, none⟩) (by show w.heap.size ≤ w.heap.size + 1 + 1; omega) _) _⟩
  have d7 : (toK m == 1) = false := by simpa using h7
  have hE : Hid (errP (↑m, a) (x, y) = 0 ∧ stepP (↑m, a) (x, y) = (toK m, 0)) := by
    have : errP (↑m, a) (x, y) = 0 := by unfold errP; rw [if_neg (by omega), if_neg (by omega), if_neg h6]
    exact ⟨this, by unfold stepP; rw [this, if_pos rfl]; exact toP_toK hm h3 h7⟩
  try clear h3
  try clear h4
  try clear h5
  try clear h6
  try clear h8
  try clear h7
  go_enter Tryz.func68, Tryz.ntmps68
  go_wp2_with fail
  rw [← Hw.out]
  refine (shapes_any w0).mono ?_
  rintro e w1 ⟨⟨f, hf, rfl⟩, hb1⟩
  obtain ⟨w2, -, hw2, hb2, s2, r4⟩ := laidSh w1 f
  have Hr := Lib.hid (rowV.new w1 46 zeroS)
  have Hf := Lib.hid (allSh hf)
  have e2 := hb1.trans (hb2.mono hb1.size)
  have l1 := (r1.below e2 r1.lt).lt
  have l2 := (r2.below e2 r2.lt).lt
  have l3 := (r3.below e2 r3.lt).lt
  obtain ⟨c1, c2⟩ := two_cellsV (r1.below e2 r1.lt)
  obtain ⟨c3, c4⟩ := two_cellsV (r2.below e2 r2.lt)
  have r5 := r3.below e2 r3.lt
  have hE2 := g0.trans (e2.mono g0.size)
  obtain ⟨ug, vg, ul, vl, q0, q1, q2, q3, q4⟩ := shV_at hf hm
  have k0 := r4.cell q0
  have k1 := r4.cell q1
  have k2 := r4.cell q2
  have k3 := r4.cell q3
  have k4 := r4.cell q4
  clear q0 q1 q2 q3 q4
  obtain ⟨c5, c6⟩ := two_cellsV r5
  have z5 := r5.frozen 0
  have z6 := r5.frozen 1
  have Hr5 := Lib.hid r5
  have HE2 := Lib.hid hE2
  clear r1 r2 r3 g0 e2 hb1 hb2 s2 s0 r4 r5 hE2
  go_wp2_with (first | refine wpList_store_row rfl 46 (.tmp 6) (.tmp 10) rfl _ _ rfl rfl _ _ Hr.out (iSh f) (zS_size f) Hf.out ?_ | refine wpList_store_new rfl 45 (.tmp 9) (.tmp 26) rfl _ _ _ rfl rfl (i5 _ _ _ _ _) rfl (all5 _ _ _ _ _ _ _) ?_)
  rw [hE.out.1, hE.out.2]
  exact ret_cell rfl rfl rfl (((Hr5.out.set 0 _).set 1 _).below (balloc (Below.refl _ _) _) ((Hr5.out.set 0 _).set 1 _).lt) Tryz.underlying35 rfl (by kernel_rfl) ⟨rfl, balloc ((Below.setCell (p := ⟨w.heap.size + 1 + 1, 0, none⟩) HE2.out (by show w.heap.size ≤ w.heap.size + 1 + 1; omega) _).setCell (p := ⟨w.heap.size + 1 + 1, 1, none⟩) (by show w.heap.size ≤ w.heap.size + 1 + 1; omega) _) _⟩
end Go.Proofs.YtohadkmaemmfgaaGreatDoor

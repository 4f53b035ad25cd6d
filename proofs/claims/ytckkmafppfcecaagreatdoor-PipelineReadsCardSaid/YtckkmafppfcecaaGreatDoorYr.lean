/- The reference: Name, from, to, isType, step. -/
import Derived.Test.YtckkmafppfcecaaGreatDoorYe
namespace Go.Proofs.YtckkmafppfcecaaGreatDoor
open Go.RowKit Go.Proofs
set_option linter.unusedVariables false
set_option linter.unusedSimpArgs false

set_option maxRecDepth 100000 in
theorem refName_any (k : Int) (w : World) : Calls Tryz.prog 46 #[.int .i64 k] w fun e w' => e = .returned (.string (strB (nameP k))) ∧ w' = w := by
  by_cases h : 0 ≤ k ∧ k < 10
  · obtain ⟨m, rfl⟩ : ∃ m : Nat, k = (m : Int) := ⟨k.toNat, by omega⟩
    have hm : m < 10 := by omega
    clear h
    match m, hm with
    | 0, _ =>
      go_enter Tryz.func46, Tryz.ntmps46
      go_wp2_with fail
      go_ret
      exact ⟨rfl, rfl⟩
    | 1, _ =>
      go_enter Tryz.func46, Tryz.ntmps46
      go_wp2_with fail
      go_ret
      exact ⟨rfl, rfl⟩
    | 2, _ =>
      go_enter Tryz.func46, Tryz.ntmps46
      go_wp2_with fail
      go_ret
      exact ⟨rfl, rfl⟩
    | 3, _ =>
      go_enter Tryz.func46, Tryz.ntmps46
      go_wp2_with fail
      go_ret
      exact ⟨rfl, rfl⟩
    | 4, _ =>
      go_enter Tryz.func46, Tryz.ntmps46
      go_wp2_with fail
      go_ret
      exact ⟨rfl, rfl⟩
    | 5, _ =>
      go_enter Tryz.func46, Tryz.ntmps46
      go_wp2_with fail
      go_ret
      exact ⟨rfl, rfl⟩
    | 6, _ =>
      go_enter Tryz.func46, Tryz.ntmps46
      go_wp2_with fail
      go_ret
      exact ⟨rfl, rfl⟩
    | 7, _ =>
      go_enter Tryz.func46, Tryz.ntmps46
      go_wp2_with fail
      go_ret
      exact ⟨rfl, rfl⟩
    | 8, _ =>
      go_enter Tryz.func46, Tryz.ntmps46
      go_wp2_with fail
      go_ret
      exact ⟨rfl, rfl⟩
    | 9, _ =>
      go_enter Tryz.func46, Tryz.ntmps46
      go_wp2_with fail
      go_ret
      exact ⟨rfl, rfl⟩
  · have hN : Hid (nameP k = []) := by
      show _ = _
      unfold nameP
      rw [if_neg (by omega), if_neg (by omega), if_neg (by omega), if_neg (by omega), if_neg (by omega), if_neg (by omega), if_neg (by omega), if_neg (by omega), if_neg (by omega), if_neg (by omega)]
    have q0 : (k == 0) = false := by simp; omega
    have q1 : (k == 1) = false := by simp; omega
    have q2 : (k == 2) = false := by simp; omega
    have q3 : (k == 3) = false := by simp; omega
    have q4 : (k == 4) = false := by simp; omega
    have q5 : (k == 5) = false := by simp; omega
    have q6 : (k == 6) = false := by simp; omega
    have q7 : (k == 7) = false := by simp; omega
    have q8 : (k == 8) = false := by simp; omega
    have q9 : (k == 9) = false := by simp; omega
    clear h
    rw [hN.out]
    go_enter Tryz.func46, Tryz.ntmps46
    go_wp2
    go_ret
    exact ⟨rfl, rfl⟩

set_option maxRecDepth 100000 in
theorem refFrom_any (k : Int) (w : World) : Calls Tryz.prog 133 #[.int .i64 k] w fun e w' => e = .returned (.int .i64 (frK k)) ∧ w' = w := by
  by_cases h1 : k = 1
  · subst h1
    go_enter Tryz.func133, Tryz.ntmps133
    go_wp2
    go_ret
    exact ⟨rfl, rfl⟩
  by_cases h2 : k = 2
  · subst h2
    go_enter Tryz.func133, Tryz.ntmps133
    go_wp2
    go_ret
    exact ⟨rfl, rfl⟩
  by_cases h3 : k = 3
  · subst h3
    go_enter Tryz.func133, Tryz.ntmps133
    go_wp2
    go_ret
    exact ⟨rfl, rfl⟩
  by_cases h8 : k = 8
  · subst h8
    go_enter Tryz.func133, Tryz.ntmps133
    go_wp2
    go_ret
    exact ⟨rfl, rfl⟩
  by_cases h9 : k = 9
  · subst h9
    go_enter Tryz.func133, Tryz.ntmps133
    go_wp2
    go_ret
    exact ⟨rfl, rfl⟩
  have hF : Hid (frK k = 0) := by show _ = _; unfold frK; rw [if_neg (by omega), if_neg (by omega), if_neg (by omega)]
  have q1 : (k == 1) = false := by simpa using h1
  have q2 : (k == 2) = false := by simpa using h2
  have q3 : (k == 3) = false := by simpa using h3
  have q8 : (k == 8) = false := by simpa using h8
  have q9 : (k == 9) = false := by simpa using h9
  clear h1 h2 h3 h8 h9
  rw [hF.out]
  go_enter Tryz.func133, Tryz.ntmps133
  go_wp2
  go_ret
  exact ⟨rfl, rfl⟩

theorem ret_one {P : Program} {fn : Func} {p : Tmp} {ty t : TypeId} {R : Ending → World → Prop} {tmps : Array Value} {W : World} {g : Nat} {cs : Array Value} {d : TypeDesc} (h : fn.results = #[.cell p ty])
    (hp : tmps.getD p undef = .pointer (some ⟨g, 0, none⟩)) (hr : rowV W g t cs) (hu : P.underlying ty = some d) (hd : (match d with | .struct _ | .array _ _ => true | _ => false) = true) (hi : (P.info? ty).map (·.size) = some cs.size)
    (hR : R (.returned (.agg cs)) W) : bodyPost P fn R .ret { tmps := tmps, defers := [] } W :=
  bodyPost_ret (v := .agg cs) (results_cell_row h tmps W g t cs (0, 0) d hp hr hu hd hi) rfl hR

theorem row3 (w : World) (A B : Obj) (t : TypeId) (cs : Array Value) : rowV (((w.alloc A).alloc B).alloc (.cells cs t)) (w.heap.size + 1 + 1) t cs := by
  have := rowV.new ((w.alloc A).alloc B) t cs
  simpa using this
set_option maxRecDepth 100000 in
set_option maxHeartbeats 1000000 in
theorem refTo_any (k a x y : Int) (w : World) : Calls Tryz.prog 134 #[.agg #[.int .i64 k, .int .i64 a], .agg #[.int .i64 x, .int .i64 y]] w fun e w' => e = .returned (.agg #[.int .i64 (toP (k, a) (x, y)).1, .int .i64 (toP (k, a) (x, y)).2]) ∧ Below w.heap.size w w' := by
  obtain ⟨w0, hw0, g0, s0, r1, r2, r3⟩ := boxesST w k a x y
  have hlt : w.heap.size + 1 + 1 < w0.heap.size := by omega
  obtain ⟨c1, c2⟩ := two_cellsV r1
  obtain ⟨c3, c4⟩ := two_cellsV r2
  obtain ⟨c5, c6⟩ := two_cellsV r3
  have z5 := r3.frozen 0
  have z6 := r3.frozen 1
  have Hr := Lib.hid r3
  have Hg := Lib.hid g0
  have Hw := Lib.hid hw0
  clear r1 r2 r3 g0 hw0 s0
  by_cases h0 : k = 0
  · have hT : Hid (toP (k, a) (x, y) = (1, a)) := by show _ = _; rw [h0]; rfl
    have q0 : (k == 0) = true := by simpa using h0
    clear h0
    go_enter Tryz.func134, Tryz.ntmps134
    rw [hT.out]
    go_wp2_with fail
    exact ret_one (cs := #[.int .i64 1, .int .i64 a]) (g := w.heap.size + 1 + 1) rfl rfl (row3 _ _ _ _ _) Tryz.underlying33 rfl (by kernel_rfl) ⟨rfl, balloc (balloc (balloc (Below.refl _ _) _) _) _⟩
  have q0 : (k == 0) = false := by simpa using h0
  by_cases h1 : k = 1
  · have hT : Hid (toP (k, a) (x, y) = (x, y)) := by show _ = _; rw [h1]; rfl
    have q1 : (k == 1) = true := by simpa using h1
    clear h1
    go_enter Tryz.func134, Tryz.ntmps134
    rw [hT.out]
    go_wp2_with fail
    exact ret_one (cs := #[.int .i64 x, .int .i64 y]) (g := w.heap.size + 1 + 1) rfl rfl (row3 _ _ _ _ _) Tryz.underlying33 rfl (by kernel_rfl) ⟨rfl, balloc (balloc (balloc (Below.refl _ _) _) _) _⟩
  have q1 : (k == 1) = false := by simpa using h1
  by_cases h7 : k = 7
  · have hT : Hid (toP (k, a) (x, y) = (2, 0)) := by show _ = _; rw [h7]; rfl
    have q7 : (k == 7) = true := by simpa using h7
    clear h7
    go_enter Tryz.func134, Tryz.ntmps134
    rw [hT.out]
    go_wp2_with fail
    exact ret_one (cs := #[.int .i64 2, .int .i64 0]) (g := w.heap.size + 1 + 1) rfl rfl (row3 _ _ _ _ _) Tryz.underlying33 rfl (by kernel_rfl) ⟨rfl, balloc (balloc (balloc (Below.refl _ _) _) _) _⟩
  have q7 : (k == 7) = false := by simpa using h7
  by_cases h8 : k = 8
  · have hT : Hid (toP (k, a) (x, y) = (3, 0)) := by show _ = _; rw [h8]; rfl
    have q8 : (k == 8) = true := by simpa using h8
    clear h8
    go_enter Tryz.func134, Tryz.ntmps134
    rw [hT.out]
    go_wp2_with fail
    exact ret_one (cs := #[.int .i64 3, .int .i64 0]) (g := w.heap.size + 1 + 1) rfl rfl (row3 _ _ _ _ _) Tryz.underlying33 rfl (by kernel_rfl) ⟨rfl, balloc (balloc (balloc (Below.refl _ _) _) _) _⟩
  have q8 : (k == 8) = false := by simpa using h8
  have hT : Hid (toP (k, a) (x, y) = (0, 0)) := by show _ = _; unfold toP; simp [h0, h1, h7, h8]
  clear h0 h1 h7 h8
  go_enter Tryz.func134, Tryz.ntmps134
  rw [hT.out]
  go_wp2_with fail
  exact ret_one (cs := #[.int .i64 0, .int .i64 0]) (g := w.heap.size + 1 + 1) rfl rfl (row3 _ _ _ _ _) Tryz.underlying33 rfl (by kernel_rfl) ⟨rfl, balloc (balloc (balloc (Below.refl _ _) _) _) _⟩

set_option maxRecDepth 100000 in
set_option maxHeartbeats 1000000 in
theorem refIsType_any (x y : Int) (w : World) : Calls Tryz.prog 92 #[.agg #[.int .i64 x, .int .i64 y]] w fun e w' => e = .returned (.bool (tyOk (x, y))) ∧ Below w.heap.size w w' := by
  have hE : Hid (tyOk (x, y) = if x = 1 then decide (1 ≤ y ∧ y ≤ 64) else decide ((x = 0 ∨ x = 2 ∨ x = 3) ∧ y = 0)) := rfl
  have hb := balloc (Below.refl w.heap.size w) (.cells #[.int .i64 x, .int .i64 y] 33)
  have Hb := Lib.hid hb; clear hb
  by_cases h1 : x = 1
  · have d1 : (x == 1) = true := by simpa using h1
    by_cases h2 : 1 ≤ y
    · have d2 : decide (1 ≤ y) = true := by simpa using h2
      have hR : Hid (tyOk (x, y) = decide (y ≤ 64)) := by show _ = _; rw [hE.out, if_pos h1]; simp [h2]
      clear h1 h2
      go_enter Tryz.func92, Tryz.ntmps92
      go_wp2_with fail
      rw [hR.out]
      go_ret
      exact ⟨rfl, Hb.out⟩
    · have d2 : decide (1 ≤ y) = false := by simpa using h2
      have hR : Hid (tyOk (x, y) = false) := by show _ = _; rw [hE.out, if_pos h1]; simp [h2]
      clear h1 h2
      go_enter Tryz.func92, Tryz.ntmps92
      go_wp2_with fail
      rw [hR.out]
      go_ret
      exact ⟨rfl, Hb.out⟩
  have d1 : (x == 1) = false := by simpa using h1
  have hR0 : Hid (tyOk (x, y) = decide ((x = 0 ∨ x = 2 ∨ x = 3) ∧ y = 0)) := by show _ = _; rw [hE.out, if_neg h1]
  by_cases g0 : x = 0
  · have d3 : (x == 0) = true := by simpa using g0
    have hR : Hid (tyOk (x, y) = (y == 0)) := by show _ = _; rw [hR0.out, Bool.eq_iff_iff]; simp [g0]
    clear h1 g0
    go_enter Tryz.func92, Tryz.ntmps92
    go_wp2_with fail
    rw [hR.out]
    go_ret
    exact ⟨rfl, Hb.out⟩
  have d3 : (x == 0) = false := by simpa using g0
  by_cases g2 : x = 2
  · have d5 : (x == 2) = true := by simpa using g2
    have hR : Hid (tyOk (x, y) = (y == 0)) := by show _ = _; rw [hR0.out, Bool.eq_iff_iff]; simp [g2]
    clear h1 g0 g2
    go_enter Tryz.func92, Tryz.ntmps92
    go_wp2_with fail
    rw [hR.out]
    go_ret
    exact ⟨rfl, Hb.out⟩
  have d5 : (x == 2) = false := by simpa using g2
  by_cases g3 : x = 3
  · have d6 : (x == 3) = true := by simpa using g3
    have hR : Hid (tyOk (x, y) = (y == 0)) := by show _ = _; rw [hR0.out, Bool.eq_iff_iff]; simp [g3]
    clear h1 g0 g2 g3
    go_enter Tryz.func92, Tryz.ntmps92
    go_wp2_with fail
    rw [hR.out]
    go_ret
    exact ⟨rfl, Hb.out⟩
  have d6 : (x == 3) = false := by simpa using g3
  have hR : Hid (tyOk (x, y) = false) := by show _ = _; rw [hR0.out]; simp [g0, g2, g3]
  clear h1 g0 g2 g3
  go_enter Tryz.func92, Tryz.ntmps92
  go_wp2_with fail
  rw [hR.out]
  go_ret
  exact ⟨rfl, Hb.out⟩
end Go.Proofs.YtckkmafppfcecaaGreatDoor

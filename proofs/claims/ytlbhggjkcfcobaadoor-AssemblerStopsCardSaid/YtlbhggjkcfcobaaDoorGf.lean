/- The assembler's read: its deferred function. -/
import Derived.Test.YtlbhggjkcfcobaaDoorGe
import Derived.Defers
import Derived.Recover
import Derived.Laws.Pointers
import Derived.WalkMore
namespace Go.Proofs.YtlbhggjkcfcobaaDoor
open Go.RowKit Go.Proofs
set_option linter.unusedVariables false

theorem catch_idle (r0 r1 r2 : Nat) (w : World) :
    CallsD Tryd.prog 40 #[.pointer (some ⟨r0, 0, none⟩), .pointer (some ⟨r1, 0, none⟩), .pointer (some ⟨r2, 0, none⟩)] .returning w fun e u' w' => e = .returned (.tuple #[]) ∧ u' = .returning ∧ w' = w := by
  refine callsD_of_wpS Tryd.func40 rfl fun c₀ cs hu => ?_
  apply wpS_seq
  apply wpS_region
  simp [wpOpsS, go_sem, recoverD, hu, Tryd.ntmps40, Exit.thenS]
  apply wpS_seq
  apply wpS_region
  simp [wpOpsS, go_sem, Exit.thenS]
  trace "B"
  refine wpS_cond (t := false) (by simp [Act.eval, Array.replicate]) ?_
  simp only [Bool.false_eq_true, if_false]
  trace "C"
  refine wpS_of_wp (wp_skip ?_)
  cases c₀
  simp_all [bodyPostS, results, Tryd.results40]
set_option maxHeartbeats 1000000 in
theorem catch_bad (B r0 r1 r2 : Nat) (x : Value) (y z a er : Int) (w : World) (h0 : rowV w r0 67 #[x]) (h1 : rowV w r1 3 #[.int .i64 y]) (h2 : rowV w r2 28 #[.int .i64 z]) (hB0 : B ≤ r0) (hB1 : B ≤ r1) (hB2 : B ≤ r2) (h01 : r0 ≠ r1) (h02 : r0 ≠ r2) (h12 : r1 ≠ r2) :
    CallsD Tryd.prog 40 #[.pointer (some ⟨r0, 0, none⟩), .pointer (some ⟨r1, 0, none⟩), .pointer (some ⟨r2, 0, none⟩)] (.panicking [{ v := failV a er, recovered := false }]) w fun e u' w' =>
      e = .returned (.tuple #[]) ∧ u' = .panicking [{ v := failV a er, recovered := true }] ∧ w'.cell? ⟨r0, 0, none⟩ = some (.pointer none) ∧ w'.cell? ⟨r1, 0, none⟩ = some (.int .i64 a) ∧ w'.cell? ⟨r2, 0, none⟩ = some (.int .i64 er) ∧ Below B w w' := by
  refine callsD_of_wpS Tryd.func40 rfl fun c₀ cs hu => ?_
  apply wpS_seq
  apply wpS_region
  simp [wpOpsS, go_sem, recoverD, hu, Tryd.ntmps40, Exit.thenS, failV]
  apply wpS_seq
  apply wpS_region
  simp [wpOpsS, go_sem, Exit.thenS]
  trace "D"
  refine wpS_cond (t := true) (by simp [Act.eval, Array.replicate]) ?_
  simp only [if_true]
  refine wpS_of_wp ?_
  go_hide hQ
  have HQ := Lib.hid hQ
  have HU := Lib.hid hu
  clear hQ hu
  simp only [List.size_toArray, List.length_cons, List.length_nil, Nat.reduceAdd, Nat.reduceSub, Array.replicate_succ, Array.replicate_zero, List.push_toArray, List.append_toArray, List.nil_append, List.cons_append, List.setIfInBounds_toArray, List.set_cons_zero, List.set_cons_succ]
  trace "F"
  have hta : ∀ W : World, (Instr.typeAssert (Value.iface 91 (.agg #[.int .i64 a, .int .i64 er])) 20 91 true).run Tryd.prog W = .ok (.tuple #[.agg #[.int .i64 a, .int .i64 er], .bool true]) W := fun W => by
    simp [Instr.typeAssert, go_sem, Tryd.underlying91]
  trace "G"
  have z0 := frozen_rowV' h0 0
  have z1 := frozen_rowV' h1 0
  have z2 := frozen_rowV' h2 0
  have y0 := cell_rowV h0 (j := 0) rfl
  have y1 := cell_rowV h1 (j := 0) rfl
  have y2 := cell_rowV h2 (j := 0) rfl
  have l0 := h0.lt
  have l1 := h1.lt
  have l2 := h2.lt
  have HH := Lib.hid (And.intro h0 (And.intro h1 h2))
  clear h0 h1 h2
  go_wp2_with fail
  go_region
  all_goals
    go_wp2_with fail
  all_goals
    obtain ⟨h0, h1, h2⟩ := HH.out
    have b3 : Below ((((w.setCell ⟨r0, 0, none⟩ (.pointer none)).setCell ⟨r1, 0, none⟩ (.int .i64 a)).setCell ⟨r2, 0, none⟩ (.int .i64 er))).heap.size (((w.setCell ⟨r0, 0, none⟩ (.pointer none)).setCell ⟨r1, 0, none⟩ (.int .i64 a)).setCell ⟨r2, 0, none⟩ (.int .i64 er)) ((((w.setCell ⟨r0, 0, none⟩ (.pointer none)).setCell ⟨r1, 0, none⟩ (.int .i64 a)).setCell ⟨r2, 0, none⟩ (.int .i64 er)).alloc (.cells #[.int .i64 a, .int .i64 er] 91)).drew :=
      bdrew (balloc (Below.refl _ _) _) 1
    have q0 : rowV (((w.setCell ⟨r0, 0, none⟩ (.pointer none)).setCell ⟨r1, 0, none⟩ (.int .i64 a)).setCell ⟨r2, 0, none⟩ (.int .i64 er)) r0 67 #[.pointer none] := ((h0.set 0 _).setFar (p := ⟨r1, 0, none⟩) h01 _).setFar (p := ⟨r2, 0, none⟩) h02 _
    have q1 : rowV (((w.setCell ⟨r0, 0, none⟩ (.pointer none)).setCell ⟨r1, 0, none⟩ (.int .i64 a)).setCell ⟨r2, 0, none⟩ (.int .i64 er)) r1 3 #[.int .i64 a] := ((h1.setFar (p := ⟨r0, 0, none⟩) h01.symm _).set 0 _).setFar (p := ⟨r2, 0, none⟩) h12 _
    have q2 : rowV (((w.setCell ⟨r0, 0, none⟩ (.pointer none)).setCell ⟨r1, 0, none⟩ (.int .i64 a)).setCell ⟨r2, 0, none⟩ (.int .i64 er)) r2 28 #[.int .i64 er] := ((h2.setFar (p := ⟨r0, 0, none⟩) h02.symm _).setFar (p := ⟨r1, 0, none⟩) h12.symm _).set 0 _
    have e0 := cell_rowV (q0.below b3 q0.lt) (j := 0) rfl
    have e1 := cell_rowV (q1.below b3 q1.lt) (j := 0) rfl
    have e2 := cell_rowV (q2.below b3 q2.lt) (j := 0) rfl
    have bb : Below B w ((((w.setCell ⟨r0, 0, none⟩ (.pointer none)).setCell ⟨r1, 0, none⟩ (.int .i64 a)).setCell ⟨r2, 0, none⟩ (.int .i64 er)).alloc (.cells #[.int .i64 a, .int .i64 er] 91)).drew :=
      ((Below.setG hB0 _).trans ((Below.setG hB1 _).trans (Below.setG hB2 _))).trans (b3.mono (Nat.le_trans hB0 (Nat.le_of_lt q0.lt)))
    obtain ⟨W, hW⟩ : ∃ W, W = ((((w.setCell ⟨r0, 0, none⟩ (.pointer none)).setCell ⟨r1, 0, none⟩ (.int .i64 a)).setCell ⟨r2, 0, none⟩ (.int .i64 er)).alloc (.cells #[.int .i64 a, .int .i64 er] 91)).drew := ⟨_, rfl⟩
    rw [← hW] at e0 e1 e2 bb ⊢
    have hQ := HQ.out
    have hu := HU.out
    rw [← hQ]
    clear hW b3 q0 q1 q2 HQ HU HH h0 h1 h2 z0 z1 z2 y0 y1 y2 hta hQ
    cases c₀
    simp_all [bodyPostS, results, Tryd.results40]
end Go.Proofs.YtlbhggjkcfcobaaDoor

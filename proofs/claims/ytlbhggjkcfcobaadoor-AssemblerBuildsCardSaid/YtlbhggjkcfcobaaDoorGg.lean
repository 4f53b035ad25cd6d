/- The assembler's read: its deferred function. The assembler's read: plain helpers in memory; what a declaration's closure does; a text too long. -/
import Derived.Test.YtlbhggjkcfcobaaDoorGe
import Derived.Defers
import Derived.Recover
import Derived.Laws.Pointers
import Derived.WalkMore
import Derived.Test.YtlbhggjkcfcobaaDoorAu
namespace Go.Proofs.YtlbhggjkcfcobaaDoor
open Go.RowKit Go.Proofs
set_option linter.unusedVariables false

theorem catch_idle (r0 r1 r2 : Nat) (w : World) :
    CallsD Tryd.prog 40 #[.pointer (some ⟨r0, 0, none⟩), .pointer (some ⟨r1, 0, none⟩), .pointer (some ⟨r2, 0, none⟩)] .returning w fun e u' w' => e = .returned (.tuple #[]) ∧ u' = .returning ∧ w' = w := by
  refine callsD_of_wpS Tryd.func40 rfl fun c₀ cs hu => ?_
  apply wpS_seq
  apply wpS_region
  simp [wpOpsS, go_sem, recoverD, hu, Tryd.ntmps40, Exit.thenS]
  apply wpS_seq
  apply wpS_region
  simp [wpOpsS, go_sem, Exit.thenS]
  refine wpS_cond (t := false) (by simp [Act.eval, Array.replicate]) ?_
  simp only [Bool.false_eq_true, if_false]
  refine wpS_of_wp (wp_skip ?_)
  cases c₀
  simp_all [bodyPostS, results, Tryd.results40]
set_option maxHeartbeats 1000000 in
theorem catch_bad (B r0 r1 r2 : Nat) (x : Value) (y z a er : Int) (w : World) (h0 : rowV w r0 67 #[x]) (h1 : rowV w r1 3 #[.int .i64 y]) (h2 : rowV w r2 28 #[.int .i64 z]) (hB0 : B ≤ r0) (hB1 : B ≤ r1) (hB2 : B ≤ r2) (h01 : r0 ≠ r1) (h02 : r0 ≠ r2) (h12 : r1 ≠ r2) :
    CallsD Tryd.prog 40 #[.pointer (some ⟨r0, 0, none⟩), .pointer (some ⟨r1, 0, none⟩), .pointer (some ⟨r2, 0, none⟩)] (.panicking [{ v := failV a er, recovered := false }]) w fun e u' w' =>
      e = .returned (.tuple #[]) ∧ u' = .panicking [{ v := failV a er, recovered := true }] ∧ w'.cell? ⟨r0, 0, none⟩ = some (.pointer none) ∧ w'.cell? ⟨r1, 0, none⟩ = some (.int .i64 a) ∧ w'.cell? ⟨r2, 0, none⟩ = some (.int .i64 er) ∧ Below B w w' := by
  refine callsD_of_wpS Tryd.func40 rfl fun c₀ cs hu => ?_
  apply wpS_seq
  apply wpS_region
  simp [wpOpsS, go_sem, recoverD, hu, Tryd.ntmps40, Exit.thenS, failV]
  apply wpS_seq
  apply wpS_region
  simp [wpOpsS, go_sem, Exit.thenS]
  refine wpS_cond (t := true) (by simp [Act.eval, Array.replicate]) ?_
  simp only [if_true]
  refine wpS_of_wp ?_
  go_hide hQ
  have HQ := Lib.hid hQ
  have HU := Lib.hid hu
  clear hQ hu
  simp only [List.size_toArray, List.length_cons, List.length_nil, Nat.reduceAdd, Nat.reduceSub, Array.replicate_succ, Array.replicate_zero, List.push_toArray, List.append_toArray, List.nil_append, List.cons_append, List.setIfInBounds_toArray, List.set_cons_zero, List.set_cons_succ]
  have hta : ∀ W : World, (Instr.typeAssert (Value.iface 91 (.agg #[.int .i64 a, .int .i64 er])) 20 91 true).run Tryd.prog W = .ok (.tuple #[.agg #[.int .i64 a, .int .i64 er], .bool true]) W := fun W => by
    simp [Instr.typeAssert, go_sem, Tryd.underlying91]
  have z0 := frozen_rowV' h0 0
  have z1 := frozen_rowV' h1 0
  have z2 := frozen_rowV' h2 0
  have y0 := cell_rowV h0 (j := 0) rfl
  have y1 := cell_rowV h1 (j := 0) rfl
  have y2 := cell_rowV h2 (j := 0) rfl
  have l0 := h0.lt
  have l1 := h1.lt
  have l2 := h2.lt
  have HH := Lib.hid (And.intro h0 (And.intro h1 h2))
  clear h0 h1 h2
  go_wp2_with fail
  go_region
  all_goals
    go_wp2_with fail
  all_goals
    obtain ⟨h0, h1, h2⟩ := HH.out
    have b3 : Below ((((w.setCell ⟨r0, 0, none⟩ (.pointer none)).setCell ⟨r1, 0, none⟩ (.int .i64 a)).setCell ⟨r2, 0, none⟩ (.int .i64 er))).heap.size (((w.setCell ⟨r0, 0, none⟩ (.pointer none)).setCell ⟨r1, 0, none⟩ (.int .i64 a)).setCell ⟨r2, 0, none⟩ (.int .i64 er)) ((((w.setCell ⟨r0, 0, none⟩ (.pointer none)).setCell ⟨r1, 0, none⟩ (.int .i64 a)).setCell ⟨r2, 0, none⟩ (.int .i64 er)).alloc (.cells #[.int .i64 a, .int .i64 er] 91)).drew :=
      bdrew (balloc (Below.refl _ _) _) 1
    have q0 : rowV (((w.setCell ⟨r0, 0, none⟩ (.pointer none)).setCell ⟨r1, 0, none⟩ (.int .i64 a)).setCell ⟨r2, 0, none⟩ (.int .i64 er)) r0 67 #[.pointer none] := ((h0.set 0 _).setFar (p := ⟨r1, 0, none⟩) h01 _).setFar (p := ⟨r2, 0, none⟩) h02 _
    have q1 : rowV (((w.setCell ⟨r0, 0, none⟩ (.pointer none)).setCell ⟨r1, 0, none⟩ (.int .i64 a)).setCell ⟨r2, 0, none⟩ (.int .i64 er)) r1 3 #[.int .i64 a] := ((h1.setFar (p := ⟨r0, 0, none⟩) h01.symm _).set 0 _).setFar (p := ⟨r2, 0, none⟩) h12 _
    have q2 : rowV (((w.setCell ⟨r0, 0, none⟩ (.pointer none)).setCell ⟨r1, 0, none⟩ (.int .i64 a)).setCell ⟨r2, 0, none⟩ (.int .i64 er)) r2 28 #[.int .i64 er] := ((h2.setFar (p := ⟨r0, 0, none⟩) h02.symm _).setFar (p := ⟨r1, 0, none⟩) h12.symm _).set 0 _
    have e0 := cell_rowV (q0.below b3 q0.lt) (j := 0) rfl
    have e1 := cell_rowV (q1.below b3 q1.lt) (j := 0) rfl
    have e2 := cell_rowV (q2.below b3 q2.lt) (j := 0) rfl
    have bb : Below B w ((((w.setCell ⟨r0, 0, none⟩ (.pointer none)).setCell ⟨r1, 0, none⟩ (.int .i64 a)).setCell ⟨r2, 0, none⟩ (.int .i64 er)).alloc (.cells #[.int .i64 a, .int .i64 er] 91)).drew :=
      ((Below.setG hB0 _).trans ((Below.setG hB1 _).trans (Below.setG hB2 _))).trans (b3.mono (Nat.le_trans hB0 (Nat.le_of_lt q0.lt)))
    obtain ⟨W, hW⟩ : ∃ W, W = ((((w.setCell ⟨r0, 0, none⟩ (.pointer none)).setCell ⟨r1, 0, none⟩ (.int .i64 a)).setCell ⟨r2, 0, none⟩ (.int .i64 er)).alloc (.cells #[.int .i64 a, .int .i64 er] 91)).drew := ⟨_, rfl⟩
    rw [← hW] at e0 e1 e2 bb ⊢
    have hQ := HQ.out
    have hu := HU.out
    rw [← hQ]
    clear hW b3 q0 q1 q2 HQ HU HH h0 h1 h2 z0 z1 z2 y0 y1 y2 hta hQ
    cases c₀
    simp_all [bodyPostS, results, Tryd.results40]
end Go.Proofs.YtlbhggjkcfcobaaDoor
namespace Go.Proofs.YtlbhggjkcfcobaaDoor
open Go.RowKit Go.Proofs
set_option linter.unusedVariables false

theorem setCell_same {w : World} {k : Nat} {t : TypeId} {x : Value} (h : rowV w k t #[x]) : w.setCell ⟨k, 0, none⟩ x = w := by
  unfold rowV at h
  have hh : (w.setCell ⟨k, 0, none⟩ x).heap = w.heap := by
    apply Array.ext
    · simp [World.setCell]
    · intro i h1 h2
      have e : (w.setCell ⟨k, 0, none⟩ x).heap[i]? = w.heap[i]? := by
        by_cases hi : i = k
        · subst hi
          simp [World.setCell, Array.getElem?_modify, h]
        · exact Below.heap_setCell w ⟨k, 0, none⟩ x i hi
      rw [Array.getElem?_eq_getElem h1, Array.getElem?_eq_getElem h2] at e
      injection e
  show { w with heap := (w.setCell ⟨k, 0, none⟩ x).heap } = w
  rw [hh]
theorem DoesL.mono {B g n : Nat} {w w0 : World} {r : AR} {e : Ending} {w' : World} (h : DoesL B g n w r e w') (hb : Below B w0 w) : DoesL B g n w0 r e w' := by
  unfold DoesL at h ⊢
  cases r with
  | bad a er => exact ⟨h.1, hb.trans h.2⟩
  | ok s ws => exact ⟨h.1, hb.trans h.2.1, h.2.2⟩
theorem decl1_any (B g n c : Nat) (v : RVs) (s : AS) (ws : List Wd) (w : World) (h : RD B g n w s ws v) (hc : rowV w c 67 #[.pointer (some ⟨g, 0, none⟩)]) :
    Calls Tryd.prog 68 #[.pointer (some ⟨c, 0, none⟩)] w (DoesL B g n w (arrayL n false s ws)) := by
  have H := Lib.hid (array_any B g n v s ws w false h)
  have hcell := cell_rowV hc (j := 0) rfl
  cases hr : arrayL n false s ws with
  | bad a er =>
    rw [hr] at H
    clear h hc hr
    go_enter Tryd.func68, Tryd.ntmps68
    go_wp2_with fail
    refine H.out.mono ?_
    rintro e w1 ⟨rfl, hb⟩
    go_wp2_with fail
    exact ⟨rfl, rfl, hb⟩
  | ok s' ws' =>
    rw [hr] at H
    clear h hc hr
    go_enter Tryd.func68, Tryd.ntmps68
    go_wp2_with fail
    refine H.out.mono ?_
    rintro e w1 ⟨rfl, hb, hv⟩
    have HV := Lib.hid hv
    clear hv
    go_wp2_with fail
    exact ⟨rfl, _, results_none rfl _ _ _, rfl, hb, HV.out⟩
theorem decl2_any (B g n c : Nat) (v : RVs) (s : AS) (ws : List Wd) (w : World) (h : RD B g n w s ws v) (hc : rowV w c 67 #[.pointer (some ⟨g, 0, none⟩)]) :
    Calls Tryd.prog 70 #[.pointer (some ⟨c, 0, none⟩)] w (DoesL B g n w (arrayL n true s ws)) := by
  have H := Lib.hid (array_any B g n v s ws w true h)
  have hcell := cell_rowV hc (j := 0) rfl
  cases hr : arrayL n true s ws with
  | bad a er =>
    rw [hr] at H
    clear h hc hr
    go_enter Tryd.func70, Tryd.ntmps70
    go_wp2_with fail
    refine H.out.mono ?_
    rintro e w1 ⟨rfl, hb⟩
    go_wp2_with fail
    exact ⟨rfl, rfl, hb⟩
  | ok s' ws' =>
    rw [hr] at H
    clear h hc hr
    go_enter Tryd.func70, Tryd.ntmps70
    go_wp2_with fail
    refine H.out.mono ?_
    rintro e w1 ⟨rfl, hb, hv⟩
    have HV := Lib.hid hv
    clear hv
    go_wp2_with fail
    exact ⟨rfl, _, results_none rfl _ _ _, rfl, hb, HV.out⟩
theorem decl_hit1 {w : World} {m c g : Nat} (h : DeclM w m c g) : (Instr.lookup 94 (.map (some m)) (.string (strB [98, 121, 116, 101, 115])) true).run Tryd.prog w = .ok (.tuple #[.func (.func 68) #[] #[.pointer (some ⟨c, 0, none⟩)], .bool true]) w := run_mapget_hit uM uS h.1 (decl_find _ c g) _ ⟨0, rfl⟩
theorem decl_hit2 {w : World} {m c g : Nat} (h : DeclM w m c g) : (Instr.lookup 94 (.map (some m)) (.string (strB [119, 111, 114, 100, 115])) true).run Tryd.prog w = .ok (.tuple #[.func (.func 70) #[] #[.pointer (some ⟨c, 0, none⟩)], .bool true]) w := run_mapget_hit uM uS h.1 (decl_find _ c g) _ ⟨0, rfl⟩
theorem decl_hit3 {w : World} {m c g : Nat} (h : DeclM w m c g) : (Instr.lookup 94 (.map (some m)) (.string (strB [108, 111, 99, 97, 108])) true).run Tryd.prog w = .ok (.tuple #[.func (.func 71) #[.pointer (some ⟨g, 0, none⟩)] #[], .bool true]) w := run_mapget_hit uM uS h.1 (decl_find _ c g) _ ⟨0, rfl⟩
theorem decl_hit4 {w : World} {m c g : Nat} (h : DeclM w m c g) : (Instr.lookup 94 (.map (some m)) (.string (strB [99, 111, 110, 115, 116])) true).run Tryd.prog w = .ok (.tuple #[.func (.func 72) #[.pointer (some ⟨g, 0, none⟩)] #[], .bool true]) w := run_mapget_hit uM uS h.1 (decl_find _ c g) _ ⟨0, rfl⟩
theorem decl_no {w : World} {m c g : Nat} (h : DeclM w m c g) {x : List UInt8} (h1 : x ≠ [98, 121, 116, 101, 115]) (h2 : x ≠ [119, 111, 114, 100, 115]) (h3 : x ≠ [108, 111, 99, 97, 108]) (h4 : x ≠ [99, 111, 110, 115, 116]) : (Instr.lookup 94 (.map (some m)) (.string (strB x)) true).run Tryd.prog w = .ok (.tuple #[.nilFunc, .bool false]) w :=
  run_mapget_miss uM uS zM h.1 (by rw [decl_find, if_neg h1, if_neg h2, if_neg h3, if_neg h4]) _ ⟨0, rfl⟩
/-- what read leaves. -/
def ReadP (src : List UInt8) (w : World) (e : Ending) (w' : World) : Prop := match readL src with
  | .bad a er => e = .returned (.tuple #[.pointer none, .int .i64 (a : Int), .int .i64 er]) ∧ Below w.heap.size w w'
  | .ok s r => ∃ g B v, e = .returned (.tuple #[.pointer (some ⟨g, 0, none⟩), .int .i64 0, .int .i64 0]) ∧ w.heap.size ≤ B ∧ RD B g src.length w' s r v ∧ Below w.heap.size w w'
set_option maxRecDepth 100000 in
set_option maxHeartbeats 1000000 in
theorem read_long (src : List UInt8) (w : World) (hs : 8192 < src.length) (hs2 : src.length ≤ 100000000) : Calls Tryd.prog 28 #[.string (strB src)] w (ReadP src w) := by
  have hl : readL src = .bad 0 5 := by unfold readL; rw [if_pos hs]
  unfold ReadP
  rw [hl]
  dsimp only
  have hsz := strB_size' src
  have d1 : decide ((8192 : Int) < (src.length : Int)) = true := by simp; omega
  have d1' : decide (8192 < src.length) = true := by simp; omega
  have hmf : ∀ (fn : Fn) (first cap : Array Value) (w : World), (Instr.makeFunc fn first cap).run Tryd.prog w = .ok (.func fn first cap) w := fun _ _ _ _ => rfl
  have hb : Below w.heap.size w (((w.alloc (.cells #[.pointer none] 67)).alloc (.cells #[.int .i64 0] 3)).alloc (.cells #[.int .i64 5] 28)) := balloc (balloc (balloc (Below.refl _ _) _) _) _
  have HB := Lib.hid hb
  clear hb hl
  go_enter_defers Tryd.func28, Tryd.ntmps28
  go_wp2_with fail
  refine leaves_cons (f := 40) (args := #[.pointer (some ⟨w.heap.size, 0, none⟩), .pointer (some ⟨w.heap.size + 1, 0, none⟩), .pointer (some ⟨w.heap.size + 1 + 1, 0, none⟩)]) (by simp) (by simp [go_sem]) ?_
  refine (catch_idle _ _ _ _).mono ?_
  rintro e u' w'' ⟨rfl, rfl, rfl⟩
  simp [Leaves, settle, results, Tryd.results28, go_sem]
  exact HB.out
end Go.Proofs.YtlbhggjkcfcobaaDoor

/- The assembler's read: plain helpers in memory; what a declaration's closure does; a text too long. -/
import Derived.Test.YtlbhggjkcfcobaaDoorGf
import Derived.Test.YtlbhggjkcfcobaaDoorAu
namespace Go.Proofs.YtlbhggjkcfcobaaDoor
open Go.RowKit Go.Proofs
set_option linter.unusedVariables false

theorem setCell_same {w : World} {k : Nat} {t : TypeId} {x : Value} (h : rowV w k t #[x]) : w.setCell ⟨k, 0, none⟩ x = w := by
  unfold rowV at h
  have hh : (w.setCell ⟨k, 0, none⟩ x).heap = w.heap := by
    apply Array.ext
    · simp [World.setCell]
    · intro i h1 h2
      have e : (w.setCell ⟨k, 0, none⟩ x).heap[i]? = w.heap[i]? := by
        by_cases hi : i = k
        · subst hi
          simp [World.setCell, Array.getElem?_modify, h]
        · exact Below.heap_setCell w ⟨k, 0, none⟩ x i hi
      rw [Array.getElem?_eq_getElem h1, Array.getElem?_eq_getElem h2] at e
      injection e
  show { w with heap := (w.setCell ⟨k, 0, none⟩ x).heap } = w
  rw [hh]
theorem DoesL.mono {B g n : Nat} {w w0 : World} {r : AR} {e : Ending} {w' : World} (h : DoesL B g n w r e w') (hb : Below B w0 w) : DoesL B g n w0 r e w' := by
  unfold DoesL at h ⊢
  cases r with
  | bad a er => exact ⟨h.1, hb.trans h.2⟩
  | ok s ws => exact ⟨h.1, hb.trans h.2.1, h.2.2⟩
theorem decl1_any (B g n c : Nat) (v : RVs) (s : AS) (ws : List Wd) (w : World) (h : RD B g n w s ws v) (hc : rowV w c 67 #[.pointer (some ⟨g, 0, none⟩)]) :
    Calls Tryd.prog 68 #[.pointer (some ⟨c, 0, none⟩)] w (DoesL B g n w (arrayL n false s ws)) := by
  have H := Lib.hid (array_any B g n v s ws w false h)
  have hcell := cell_rowV hc (j := 0) rfl
  cases hr : arrayL n false s ws with
  | bad a er =>
    rw [hr] at H
    clear h hc hr
    go_enter Tryd.func68, Tryd.ntmps68
    go_wp2_with fail
    refine H.out.mono ?_
    rintro e w1 ⟨rfl, hb⟩
    go_wp2_with fail
    exact ⟨rfl, rfl, hb⟩
  | ok s' ws' =>
    rw [hr] at H
    clear h hc hr
    go_enter Tryd.func68, Tryd.ntmps68
    go_wp2_with fail
    refine H.out.mono ?_
    rintro e w1 ⟨rfl, hb, hv⟩
    have HV := Lib.hid hv
    clear hv
    go_wp2_with fail
    exact ⟨rfl, _, results_none rfl _ _ _, rfl, hb, HV.out⟩
theorem decl2_any (B g n c : Nat) (v : RVs) (s : AS) (ws : List Wd) (w : World) (h : RD B g n w s ws v) (hc : rowV w c 67 #[.pointer (some ⟨g, 0, none⟩)]) :
    Calls Tryd.prog 70 #[.pointer (some ⟨c, 0, none⟩)] w (DoesL B g n w (arrayL n true s ws)) := by
  have H := Lib.hid (array_any B g n v s ws w true h)
  have hcell := cell_rowV hc (j := 0) rfl
  cases hr : arrayL n true s ws with
  | bad a er =>
    rw [hr] at H
    clear h hc hr
    go_enter Tryd.func70, Tryd.ntmps70
    go_wp2_with fail
    refine H.out.mono ?_
    rintro e w1 ⟨rfl, hb⟩
    go_wp2_with fail
    exact ⟨rfl, rfl, hb⟩
  | ok s' ws' =>
    rw [hr] at H
    clear h hc hr
    go_enter Tryd.func70, Tryd.ntmps70
    go_wp2_with fail
    refine H.out.mono ?_
    rintro e w1 ⟨rfl, hb, hv⟩
    have HV := Lib.hid hv
    clear hv
    go_wp2_with fail
    exact ⟨rfl, _, results_none rfl _ _ _, rfl, hb, HV.out⟩
theorem decl_hit1 {w : World} {m c g : Nat} (h : DeclM w m c g) : (Instr.lookup 94 (.map (some m)) (.string (strB [98, 121, 116, 101, 115])) true).run Tryd.prog w = .ok (.tuple #[.func (.func 68) #[] #[.pointer (some ⟨c, 0, none⟩)], .bool true]) w := run_mapget_hit uM uS h.1 (decl_find _ c g) _ ⟨0, rfl⟩
theorem decl_hit2 {w : World} {m c g : Nat} (h : DeclM w m c g) : (Instr.lookup 94 (.map (some m)) (.string (strB [119, 111, 114, 100, 115])) true).run Tryd.prog w = .ok (.tuple #[.func (.func 70) #[] #[.pointer (some ⟨c, 0, none⟩)], .bool true]) w := run_mapget_hit uM uS h.1 (decl_find _ c g) _ ⟨0, rfl⟩
theorem decl_hit3 {w : World} {m c g : Nat} (h : DeclM w m c g) : (Instr.lookup 94 (.map (some m)) (.string (strB [108, 111, 99, 97, 108])) true).run Tryd.prog w = .ok (.tuple #[.func (.func 71) #[.pointer (some ⟨g, 0, none⟩)] #[], .bool true]) w := run_mapget_hit uM uS h.1 (decl_find _ c g) _ ⟨0, rfl⟩
theorem decl_hit4 {w : World} {m c g : Nat} (h : DeclM w m c g) : (Instr.lookup 94 (.map (some m)) (.string (strB [99, 111, 110, 115, 116])) true).run Tryd.prog w = .ok (.tuple #[.func (.func 72) #[.pointer (some ⟨g, 0, none⟩)] #[], .bool true]) w := run_mapget_hit uM uS h.1 (decl_find _ c g) _ ⟨0, rfl⟩
theorem decl_no {w : World} {m c g : Nat} (h : DeclM w m c g) {x : List UInt8} (h1 : x ≠ [98, 121, 116, 101, 115]) (h2 : x ≠ [119, 111, 114, 100, 115]) (h3 : x ≠ [108, 111, 99, 97, 108]) (h4 : x ≠ [99, 111, 110, 115, 116]) : (Instr.lookup 94 (.map (some m)) (.string (strB x)) true).run Tryd.prog w = .ok (.tuple #[.nilFunc, .bool false]) w :=
  run_mapget_miss uM uS zM h.1 (by rw [decl_find, if_neg h1, if_neg h2, if_neg h3, if_neg h4]) _ ⟨0, rfl⟩
/-- what read leaves. -/
def ReadP (src : List UInt8) (w : World) (e : Ending) (w' : World) : Prop := match readL src with
  | .bad a er => e = .returned (.tuple #[.pointer none, .int .i64 (a : Int), .int .i64 er]) ∧ Below w.heap.size w w'
  | .ok s r => ∃ g B v, e = .returned (.tuple #[.pointer (some ⟨g, 0, none⟩), .int .i64 0, .int .i64 0]) ∧ w.heap.size ≤ B ∧ RD B g src.length w' s r v ∧ Below w.heap.size w w'
set_option maxRecDepth 100000 in
set_option maxHeartbeats 1000000 in
theorem read_long (src : List UInt8) (w : World) (hs : 8192 < src.length) (hs2 : src.length ≤ 100000000) : Calls Tryd.prog 28 #[.string (strB src)] w (ReadP src w) := by
  have hl : readL src = .bad 0 5 := by unfold readL; rw [if_pos hs]
  unfold ReadP
  rw [hl]
  dsimp only
  have hsz := strB_size' src
  have d1 : decide ((8192 : Int) < (src.length : Int)) = true := by simp; omega
  have d1' : decide (8192 < src.length) = true := by simp; omega
  have hmf : ∀ (fn : Fn) (first cap : Array Value) (w : World), (Instr.makeFunc fn first cap).run Tryd.prog w = .ok (.func fn first cap) w := fun _ _ _ _ => rfl
  have hb : Below w.heap.size w (((w.alloc (.cells #[.pointer none] 67)).alloc (.cells #[.int .i64 0] 3)).alloc (.cells #[.int .i64 5] 28)) := balloc (balloc (balloc (Below.refl _ _) _) _) _
  have HB := Lib.hid hb
  clear hb hl
  go_enter_defers Tryd.func28, Tryd.ntmps28
  go_wp2_with fail
  refine leaves_cons (f := 40) (args := #[.pointer (some ⟨w.heap.size, 0, none⟩), .pointer (some ⟨w.heap.size + 1, 0, none⟩), .pointer (some ⟨w.heap.size + 1 + 1, 0, none⟩)]) (by simp) (by simp [go_sem]) ?_
  refine (catch_idle _ _ _ _).mono ?_
  rintro e u' w'' ⟨rfl, rfl, rfl⟩
  simp [Leaves, settle, results, Tryd.results28, go_sem]
  exact HB.out
end Go.Proofs.YtlbhggjkcfcobaaDoor

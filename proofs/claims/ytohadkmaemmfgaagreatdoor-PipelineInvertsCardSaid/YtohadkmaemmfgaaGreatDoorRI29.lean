/- Dj Dk Dl Iter. -/
import Derived.Test.YtohadkmaemmfgaaGreatDoorRI28
import Derived.Test.YtohadkmaemmfgaaGreatDoorRI01
import Derived.Maps.OwnIn
import Derived.Maps.OwnSet
import Derived.Maps.OwnOps
import Derived.Sort.KeysCollected
import Derived.Test.YtohadkmaemmfgaaGreatDoorRI27
import Derived.Test.YtohadkmaemmfgaaGreatDoorRI09
import Derived.Shelf.Abstract
import Derived.Sort.Walk0
import Derived.Shelf.SlIter.Sorted
import Derived.Ground.GgzProg
import Derived.Test.YtohadkmaemmfgaaGreatDoorProg
set_option maxRecDepth 100000
set_option maxHeartbeats 4000000
namespace Go.Proofs.YtohadkmaemmfgaaGreatDoor.Dic
open Go.RowKit Go.Proofs
set_option linter.unusedVariables false
def MapIs (P : Program) (k e : TypeId) (q : IntKind) (w : World) (b n : Nat) (f : List UInt8 → Option Int) : Prop :=
  ∃ D : DataW Unit, w.ownsMap P k (plainElem P e) b n D ∧ ∀ s, Maps.has D (.string s) = (f s).isSome ∧ D.atKey (.string s) (.lit (.int q 0)) = .lit (.int q ((f s).getD 0))
def fput (f : List UInt8 → Option Int) (s : List UInt8) (v : Int) : List UInt8 → Option Int := fun t => if t = s then some v else f t
section
variable {P : Program} {k e : TypeId} {q : IntKind} {w w' : World} {b n : Nat} {f : List UInt8 → Option Int}
theorem MapIs.lt (h : MapIs P k e q w b n f) : b < w.heap.size := by obtain ⟨D, h, _⟩ := h; exact h.lt
theorem MapIs.same (h : MapIs P k e q w b n f) (hb : w'.heap[b]? = w.heap[b]?) : MapIs P k e q w' b n f := by
  obtain ⟨D, ⟨es, clock, h1, h2⟩, h3⟩ := h
  exact ⟨D, ⟨es, clock, hb.trans h1, h2⟩, h3⟩
theorem MapIs.below (h : MapIs P k e q w b n f) (hb : Below w.heap.size w w') : MapIs P k e q w' b n f := h.same (hb.block b h.lt)
theorem MapIs.mono (h : MapIs P k e q w b n f) {m : Nat} (hm : n ≤ m) : MapIs P k e q w b m f := by
  obtain ⟨D, ⟨es, clock, h1, h2, h4, h5⟩, h3⟩ := h
  exact ⟨D, ⟨es, clock, h1, h2, by omega, h5⟩, h3⟩
theorem MapIs.made (w : World) : MapIs P k e q (w.alloc (.map #[] 0)) w.heap.size 0 (fun _ => none) :=
  ⟨.map [], World.ownsMap_made _ _ _ _, fun s => ⟨rfl, rfl⟩⟩
variable {ops : Array Oper} {rest : List Oper} {o : Oper} {a : Act} {Q : Exit → Act → World → Prop} {F : Fence} {nF : Nat}
theorem MapIs.put {D : DataW Unit} (hm : Maps.IsMap D) (h : ∀ s, Maps.has D (.string s) = (f s).isSome ∧ D.atKey (.string s) (.lit (.int q 0)) = .lit (.int q ((f s).getD 0))) (s : List UInt8) (v : Int) :
    ∀ t, Maps.has (D.put (.string s) (.lit (.int q v))) (.string t) = (fput f s v t).isSome ∧ (D.put (.string s) (.lit (.int q v))).atKey (.string t) (.lit (.int q 0)) = .lit (.int q ((fput f s v t).getD 0)) := fun t => by
  unfold fput
  by_cases ht : t = s
  · subst ht
    rw [if_pos rfl]
    exact ⟨Maps.has_put_same hm (show WideAt.IsKeyLit (.string t) from trivial) _, Maps.atKey_put_same hm (show WideAt.IsKeyLit (.string t) from trivial) _ _⟩
  · rw [if_neg ht]
    have hne : (Lit.string t) ≠ .string s := fun e => ht (by injection e)
    rw [Maps.has_put_other hne, Maps.atKey_put_other hne]
    exact h t
end
def Kept (B : Nat) (X Y : World) : Prop := Below B X Y ∧ KeepsFrom B X Y
theorem Kept.refl (B : Nat) (X : World) : Kept B X X := ⟨Below.refl _ _, KeepsFrom.refl _ _⟩
theorem Kept.trans {B : Nat} {X Y Z : World} (h : Kept B X Y) (h' : Kept B Y Z) : Kept B X Z := ⟨h.1.trans h'.1, h.2.trans h'.2⟩
theorem Kept.alloc {B : Nat} {X : World} (o : Obj) (hB : B ≤ X.heap.size) : Kept B X (X.alloc o) :=
  ⟨(Below.refl _ _).alloc hB _, ⟨by simp, fun k o' _ hk _ => (Below.heap_alloc X o k (Array.getElem?_eq_some_iff.1 hk).1).trans hk⟩⟩
theorem Kept.of_own {α : Type} {enc : α → Value} {B : Nat} {X Y : World} {e : TypeId} {A : Option Addr} {n c : Nat} {xs : List α} (hown : Own enc X B e A n c xs) (hB : B ≤ X.heap.size) (hg : X.grownBy Y (Value.slice A n c).ownBlock) : Kept B X Y := by
  refine ⟨(Below.refl B X).grown hg hB (fun k hk => (World.ownsRow.lt hown k hk).1), hg.size, fun k o _ hk ho => (hg.block k (Array.getElem?_eq_some_iff.1 hk).1 (fun e => ?_)).trans hk⟩
  rcases hown.2 with ⟨h1, _⟩ | ⟨g, cap, cur, h1, _, h3, _⟩
  · rw [h1] at e; cases e
  · rw [h1] at e
    injection e with e
    have e' : k = g := e
    subst e'
    rw [h3] at hk
    injection hk with hk
    subst hk
    cases ho
theorem _root_.Go.Proofs.YtohadkmaemmfgaaGreatDoor.Own.keepDic {α : Type} {enc : α → Value} {X Y : World} {B : Nat} {e : TypeId} {A : Option Addr} {n c : Nat} {xs : List α} (h : Own enc X B e A n c xs) (hb : ∀ g o, B ≤ g → X.heap[g]? = some o → o.isCells = true → Y.heap[g]? = some o) : Own enc Y B e A n c xs := by
  refine ⟨h.1, ?_⟩
  rcases h.2 with h1 | ⟨g, cap, cur, h1, h2, h3, h4⟩
  · exact .inl h1
  · exact .inr ⟨g, cap, cur, h1, h2, hb g _ h2 h3 rfl, h4⟩
theorem Boxed.below' {W W' : World} {B N : Nat} {t : TypeId} {v : Value} (h : Boxed W B t v) (hb : Below N W W') (hlt : B < N) : Boxed W' B t v := (hb.block B hlt).trans h
theorem KeepsFrom.setCell' {B : Nat} {X Y : World} (h : KeepsFrom B X Y) {p : Addr} (hp : p.block < B) (v : Value) : KeepsFrom B X (Y.setCell p v) :=
  ⟨by simpa [World.setCell] using h.size, fun k o hB hk ho => (Below.heap_setCell Y p v k (by omega)).trans (h.same k o hB hk ho)⟩
theorem Kept.drewN (B : Nat) (X : World) (q : Nat) : Kept B X (X.drewN q) := ⟨(Drawn.drewN _ _).below _, ⟨Nat.le_refl _, fun _ _ _ h _ => h⟩⟩
section
variable {α : Type} {enc : α → Value} {P : Program} {w : World} {B : Nat} {e t : TypeId} {A : Option Addr} {n c : Nat} {xs : List α} {zero : α} {bytes : Nat} {F : Fence} {nF : Nat}
  {ops : Array Oper} {rest : List Oper} {o : Oper} {a : Act} {K : Act → World → Prop} {Q : Exit → Act → World → Prop} {E : Prop}
end
end Go.Proofs.YtohadkmaemmfgaaGreatDoor.Dic
namespace Go.Proofs.YtohadkmaemmfgaaGreatDoor.Dic
open Go.RowKit Go.Proofs Go.Shelf
set_option linter.unusedVariables false
attribute [local go_sem] Oper.semAt_some
theorem zB (w : World) : (zeroValue 5).run Tryz.prog w = .ok (.int .u8 0) w := by kernel_rfl
def placeF (ss : List (List UInt8)) (k : Nat) : List UInt8 → Option Int := fun s => if s ∈ ss.take k then some (128 + (ss.idxOf s : Int)) else none
structure CodeI (w : World) (O : Nat) (ss : List (List UInt8)) (bs : List UInt8) (k : Nat) (W : World) : Prop where
  map : MapIs Tryz.prog 9 5 .u8 W w.heap.size ss.length (placeF ss ss.length)
  mbox : Boxed W (w.heap.size + 1) 168 (.map (some w.heap.size))
  out : ∃ A2 n2 c2, Boxed W O 23 (.slice A2 n2 c2) ∧ Own encB W (O + 2) 5 A2 n2 c2 (codeTo ss bs k)
  below : Below w.heap.size w W
  size : O + 2 ≤ W.heap.size
theorem CodeI.kept {w W W' : World} {O : Nat} {ss : List (List UInt8)} {bs : List UInt8} {k : Nat} {row : Option Nat} (hO : w.heap.size + 2 ≤ O) (h : CodeI w O ss bs k W) (hg : W.grownBy W' row) (hrow : ∀ r, row = some r → O + 1 ≤ r) (hc : ∀ r o, row = some r → W.heap[r]? = some o → o.isCells = true → r < O + 2) : CodeI w O ss bs k W' := by
  obtain ⟨h1, h2, ⟨A2, n2, c2, h3, h4⟩, h5, h6⟩ := h
  have ne : ∀ j, j < O + 1 → some j ≠ row := fun j hj e => by have := hrow j e.symm; omega
  refine ⟨h1.same (hg.block _ h1.lt (ne _ (by omega))), h2.kept hg (ne _ (by omega)), ⟨A2, n2, c2, h3.kept hg (ne _ (by omega)), h4.keepDic fun g o hB ho hcell => ?_⟩, h5.grown hg h5.size (fun r e => by have := hrow r e; omega), Nat.le_trans h6 hg.size⟩
  refine (hg.block g (Array.getElem?_eq_some_iff.1 ho).1 (fun e => ?_)).trans ho
  have := hc g o e.symm ho hcell
  omega
theorem CodeI.step {w W W6 : World} {O : Nat} {ss : List (List UInt8)} {bs : List UInt8} {k : Nat} {A6 : Option Addr} {n6 c6 : Nat} (hO : w.heap.size + 2 ≤ O) (h : CodeI w O ss bs k W) (ho : Own encB W6 (O + 2) 5 A6 n6 c6 (codeTo ss bs (k + 1))) (hk : Kept (O + 2) W W6) :
    KeepsFrom (O + 2) W (W6.setCell ⟨O, 0, none⟩ (.slice A6 n6 c6)) ∧ pcKp w.heap.size (O + 1) W (W6.setCell ⟨O, 0, none⟩ (.slice A6 n6 c6)) ∧ CodeI w O ss bs (k + 1) (W6.setCell ⟨O, 0, none⟩ (.slice A6 n6 c6)) := by
  obtain ⟨h1, h2, ⟨A2, n2, c2, h3, h4⟩, h5, h6⟩ := h
  have oth : ∀ j, j ≠ O → (W6.setCell ⟨O, 0, none⟩ (.slice A6 n6 c6)).heap[j]? = W6.heap[j]? := fun j hj => Below.heap_setCell W6 ⟨O, 0, none⟩ _ j hj
  have hb : Below w.heap.size W (W6.setCell ⟨O, 0, none⟩ (.slice A6 n6 c6)) := (hk.1.mono (by omega)).setCell (p := ⟨O, 0, none⟩) (by show _ ≤ O; omega) _
  refine ⟨KeepsFrom.setCell' hk.2 (by show O < _; omega) _, ⟨(oth _ (by omega)).trans (hk.1.block _ (by omega)), hb⟩, ?_⟩
  refine ⟨h1.same ((oth _ (by omega)).trans (hk.1.block _ (by omega))), (oth _ (by omega)).trans ((hk.1.block _ (by omega)).trans h2), ⟨A6, n6, c6, (Boxed.below' h3 hk.1 (by omega)).set _, ho.keepDic fun g o hB hgo _ => (oth g (by omega)).trans hgo⟩, h5.trans hb, ?_⟩
  have := hk.1.size
  simp [World.setCell]
  omega
end Go.Proofs.YtohadkmaemmfgaaGreatDoor.Dic
namespace Go.Proofs.YtohadkmaemmfgaaGreatDoor.Dic
open Go.RowKit Go.Proofs
set_option linter.unusedVariables false
def Counts (w : World) (Bm M n : Nat) (c : List UInt8 → Nat) : Prop := ∃ f, w.cell? ⟨Bm, 0, none⟩ = some (.map (some M)) ∧ MapIs Tryz.prog 9 3 .i64 w M n f ∧ (∀ s, (f s).getD 0 = (c s : Int)) ∧ ∀ s, c s ≤ 1000000
end Go.Proofs.YtohadkmaemmfgaaGreatDoor.Dic
namespace Go.Proofs
open Go.Shelf

end Go.Proofs

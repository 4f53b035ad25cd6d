/- What AssemblerBuilds keeps from item to item. -/
import Derived.Test.YtlbhggjkcfcobaaDoorJk
import Derived.Test.YtlbhggjkcfcobaaDoorJi
import Derived.Test.YtlbhggjkcfcobaaDoorGr
namespace Go.Proofs.YtlbhggjkcfcobaaDoor
open Go.RowKit Go.Proofs
set_option linter.unusedVariables false

theorem BldF.grown {B b : Nat} {l : List UInt8} {w w' : World} {row : Option Nat} (h : BldF B b l w) (hg : w.grownBy w' row) (hr : ∀ g, row = some g → ∃ c fz e', w.heap[g]? = some (.cells c e' fz) ∧ 5 ≠ e' ∧ 45 ≠ e') : BldF B b l w' := by
  have one : ∀ p, Lib.BuilderAtF 45 5 B b p (Lib.byteCells l) w → Lib.BuilderAtF 45 5 B b p (Lib.byteCells l) w' := fun p h => by
    obtain ⟨h1, v, h2, h3, h4⟩ := h
    have hne : ∀ (g : Nat) (c : Array Value) (t : TypeId) (fz : Nat × Nat), w.heap[g]? = some (.cells c t fz) → (∀ e', 5 ≠ e' ∧ 45 ≠ e' → t ≠ e') → w'.heap[g]? = some (.cells c t fz) := fun g c t fz hgt ht => by
      refine (hg.block g (Array.getElem?_eq_some_iff.1 hgt).1 (fun e0 => ?_)).trans hgt
      obtain ⟨c', fz', e', h5, h6⟩ := hr g e0.symm
      rw [hgt] at h5
      injection h5 with h5
      injection h5 with _ h5
      exact ht e' h6 h5
    refine ⟨h1, v, hne _ _ _ _ h2 (fun e' h => h.2), ⟨h3.1, ?_⟩, h4⟩
    rcases h3.2 with h5 | ⟨g, cap, cur, fz, h5, h6, h7, h8⟩
    · exact .inl h5
    · exact .inr ⟨g, cap, cur, fz, h5, h6, hne _ _ _ _ h7 (fun e' h => h.1), h8⟩
  rcases h with h | h
  · exact .inl (one _ h)
  · exact .inr (one _ h)
/-- what is wanted, and what was built so far. -/
structure BI (w wr : World) (g7 g8 : Nat) (T : List UInt8) (arrs : List Arr) (code : List Ins) (Aa : Option Addr) (na ca : Nat) (L : Int) (Ac : Option Addr) (nc cc : Nat) : Prop where
  row : rowV wr g7 27 #[.slice Aa na ca, .int .i64 L, .slice Ac nc cc]
  bl : BldF g8 g8 T wr
  oa : OwnS encAr 2 wr w.heap.size 47 Aa na ca arrs
  oc : OwnS encIn 2 wr w.heap.size 57 Ac nc cc code
  b : Below w.heap.size w wr
  h7 : w.heap.size ≤ g7
  h8 : w.heap.size ≤ g8
  lt : g8 < wr.heap.size
section
variable {w wr X : World} {g7 g8 : Nat} {T : List UInt8} {arrs : List Arr} {code : List Ins} {Aa : Option Addr} {na ca : Nat} {L : Int} {Ac : Option Addr} {nc cc : Nat}
theorem BI.below (h : BI w wr g7 g8 T arrs code Aa na ca L Ac nc cc) (hb : Below wr.heap.size wr X) : BI w X g7 g8 T arrs code Aa na ca L Ac nc cc :=
  ⟨h.row.below hb h.row.lt, h.bl.below hb, h.oa.below hb, h.oc.below hb, h.b.trans (hb.mono h.b.size), h.h7, h.h8, Nat.lt_of_lt_of_le h.lt hb.size⟩
theorem BI.wrote (h : BI w wr g7 g8 T arrs code Aa na ca L Ac nc cc) {T' : List UInt8} (h1 : BldF g8 g8 T' X) (hb : Below g8 wr X) (hk : Lib.OthersKept 5 (some g8) wr X) : BI w X g7 g8 T' arrs code Aa na ca L Ac nc cc :=
  ⟨h.bl.kept_row hk h.row (by decide) (by decide), h1, h.bl.kept_own hk h.oa (by decide) (by decide), h.bl.kept_own hk h.oc (by decide) (by decide), h.b.trans (hb.mono h.h8), h.h7, h.h8, Nat.lt_of_lt_of_le h.lt hb.size⟩
theorem BI.pushArr (h : BI w wr g7 g8 T arrs code Aa na ca L Ac nc cc) {A2 : Option Addr} {c2 : Nat} {y : Arr} (ho : OwnS encAr 2 X w.heap.size 47 A2 (na + 1) c2 (arrs ++ [y])) (hb : Below w.heap.size wr X) (hg : wr.grownBy X (Value.slice Aa na ca).ownBlock) : BI w (X.setCell ⟨g7, 0, none⟩ (.slice A2 (na + 1) c2)) g7 g8 T (arrs ++ [y]) code A2 (na + 1) c2 L Ac nc cc := by
  have r1 := h.row.grown hg (fun e => (h.oa.ne_row h.row (by decide)) _ e.symm rfl)
  have b1 : BldF g8 g8 T X := h.bl.grown hg (fun g e => by
    obtain ⟨_, _, cur, h3⟩ := h.oa.blk e
    exact ⟨_, _, _, h3, by decide, by decide⟩)
  have o1 := h.oc.grown hg (h.oc.ne_own h.oa (by decide))
  have hg7 := grownBy.setCell' (World.grownBy.refl X (some g7)) (j := 0) (Value.slice A2 (na + 1) c2)
  refine ⟨r1.set 0 _, b1.grown hg7 (fun g e => ?_), ho.grown hg7 (ho.ne_row r1 (by decide)), o1.grown hg7 (o1.ne_row r1 (by decide)), (h.b.trans hb).trans (Below.setG h.h7 _), h.h7, h.h8, by rw [setCell_size]; exact Nat.lt_of_lt_of_le h.lt hb.size⟩
  injection e with e
  subst e
  exact ⟨_, _, _, r1, by decide, by decide⟩
theorem BI.pushCode (h : BI w wr g7 g8 T arrs code Aa na ca L Ac nc cc) {A2 : Option Addr} {c2 : Nat} {y : Ins} (ho : OwnS encIn 2 X w.heap.size 57 A2 (nc + 1) c2 (code ++ [y])) (hb : Below w.heap.size wr X) (hg : wr.grownBy X (Value.slice Ac nc cc).ownBlock) : BI w (X.setCell ⟨g7, 2, none⟩ (.slice A2 (nc + 1) c2)) g7 g8 T arrs (code ++ [y]) Aa na ca L A2 (nc + 1) c2 := by
  have r1 := h.row.grown hg (fun e => (h.oc.ne_row h.row (by decide)) _ e.symm rfl)
  have b1 : BldF g8 g8 T X := h.bl.grown hg (fun g e => by
    obtain ⟨_, _, cur, h3⟩ := h.oc.blk e
    exact ⟨_, _, _, h3, by decide, by decide⟩)
  have o1 := h.oa.grown hg (h.oa.ne_own h.oc (by decide))
  have hg7 := grownBy.setCell' (World.grownBy.refl X (some g7)) (j := 2) (Value.slice A2 (nc + 1) c2)
  refine ⟨r1.set 2 _, b1.grown hg7 (fun g e => ?_), o1.grown hg7 (o1.ne_row r1 (by decide)), ho.grown hg7 (ho.ne_row r1 (by decide)), (h.b.trans hb).trans (Below.setG h.h7 _), h.h7, h.h8, by rw [setCell_size]; exact Nat.lt_of_lt_of_le h.lt hb.size⟩
  injection e with e
  subst e
  exact ⟨_, _, _, r1, by decide, by decide⟩
end
end Go.Proofs.YtlbhggjkcfcobaaDoor

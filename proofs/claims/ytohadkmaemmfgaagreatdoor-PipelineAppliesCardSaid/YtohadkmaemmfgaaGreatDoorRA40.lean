/- Oe Of Og Oh Oi. -/
import Derived.Test.YtohadkmaemmfgaaGreatDoorRA24
import Derived.Test.YtohadkmaemmfgaaGreatDoorRA17
import Derived.BigQuiet
set_option maxRecDepth 100000
set_option maxHeartbeats 4000000
namespace Go.Proofs.YtohadkmaemmfgaaGreatDoor
open Go.RowKit Go.Proofs
set_option linter.unusedVariables false
set_option linter.unusedSimpArgs false
attribute [local go_sem] Oper.semAt_some
def TapeR (W : World) (b : Nat) (A : Option Addr) (n c : Nat) : Prop := rowV W b 290 #[.slice A n c, .int .i64 ((8 * n : Nat) : Int)]
def plKp (n0 b1 b2 b3 tb : Nat) (X Y : World) : Prop := Y.heap[b1]? = X.heap[b1]? ∧ Y.heap[b2]? = X.heap[b2]? ∧ Y.heap[b3]? = X.heap[b3]? ∧ Y.heap[tb]? = X.heap[tb]? ∧ Below n0 X Y
def PlI (w0 : World) (A : Option Addr) (n c i j b1 b2 b3 tb : Nat) (W : World) : Prop :=
  Boxed W b1 3 (.int .i64 (i : Int)) ∧ Boxed W b2 3 (.int .i64 (j : Int)) ∧ Boxed W b3 288 (.pointer (some ⟨tb, 0, none⟩)) ∧ TapeR W tb A n c ∧ Below w0.heap.size w0 W
section
variable {w0 W W' : World} {A : Option Addr} {n c i j b1 b2 b3 tb : Nat}
theorem PlI.kp (h : PlI w0 A n c i j b1 b2 b3 tb W) (hk : plKp w0.heap.size b1 b2 b3 tb W W') : PlI w0 A n c i j b1 b2 b3 tb W' :=
  ⟨hk.1.trans h.1, hk.2.1.trans h.2.1, hk.2.2.1.trans h.2.2.1, hk.2.2.2.1.trans h.2.2.2.1, h.2.2.2.2.trans hk.2.2.2.2⟩
theorem PlI.drawn (h : PlI w0 A n c i j b1 b2 b3 tb W) (hd : Drawn W W') : PlI w0 A n c i j b1 b2 b3 tb W' := by
  have hb := fun k => hd.below k
  exact h.kp ⟨(hb _).block _ (Nat.lt_succ_self _), (hb _).block _ (Nat.lt_succ_self _), (hb _).block _ (Nat.lt_succ_self _), (hb _).block _ (Nat.lt_succ_self _), hb _⟩
end
end Go.Proofs.YtohadkmaemmfgaaGreatDoor
namespace Go.Proofs.YtohadkmaemmfgaaGreatDoor
open Go.RowKit Go.Proofs
set_option linter.unusedVariables false
set_option linter.unusedSimpArgs false
attribute [local go_sem] Oper.semAt_some
structure RdI (tt : TypeId) (kd : IntKind) (w : World) (A : Option Addr) (n c i j S : Nat) (x : Nat) (W : World) : Prop where
  pl : PlI w A n c i j (S + 3) (S + 4) (S + 2) S W
  num : Boxed W (S + 1) tt (.int kd ((x : Nat) : Int))
  size : S + 5 ≤ W.heap.size
section
variable {tt : TypeId} {kd : IntKind} {w W W' : World} {A : Option Addr} {n c i j S x : Nat}
theorem RdI.kept {row : Option Nat} (hS : w.heap.size ≤ S) (h : RdI tt kd w A n c i j S x W) (hg : W.grownBy W' row) (hrow : ∀ r, row = some r → S + 5 ≤ r) : RdI tt kd w A n c i j S x W' := by
  have hsz := h.size
  have same : ∀ q, q < S + 5 → W'.heap[q]? = W.heap[q]? := fun q hq => hg.block q (by omega) (fun e => by have := hrow q e.symm; omega)
  exact ⟨h.pl.kp ⟨same _ (by omega), same _ (by omega), same _ (by omega), same _ (by omega), (Below.refl w.heap.size W).grown hg h.pl.2.2.2.2.size (fun r e => by have := hrow r e; omega)⟩, (same _ (by omega)).trans h.num, Nat.le_trans hsz hg.size⟩
theorem RdI.drawn (h : RdI tt kd w A n c i j S x W) (hd : Drawn W W') : RdI tt kd w A n c i j S x W' := by
  have hb := hd.below (W.heap.size + 1)
  exact ⟨h.pl.drawn hd, (hb.block _ (by have := h.size; omega)).trans h.num, Nat.le_trans h.size hb.size⟩
theorem RdI.put (hS : w.heap.size ≤ S) (h : RdI tt kd w A n c i j S x W) (x' : Nat) : RdI tt kd w A n c i j S x' (W.setCell ⟨S + 1, 0, none⟩ (.int kd ((x' : Nat) : Int))) ∧ KeepsFrom (S + 5) W (W.setCell ⟨S + 1, 0, none⟩ (.int kd ((x' : Nat) : Int))) ∧ plKp w.heap.size (S + 3) (S + 4) (S + 2) S W (W.setCell ⟨S + 1, 0, none⟩ (.int kd ((x' : Nat) : Int))) := by
  have oth : ∀ q, q ≠ S + 1 → (W.setCell ⟨S + 1, 0, none⟩ (.int kd ((x' : Nat) : Int))).heap[q]? = W.heap[q]? := fun q hq => Below.heap_setCell _ ⟨S + 1, 0, none⟩ _ q hq
  have hsz : (W.setCell ⟨S + 1, 0, none⟩ (.int kd ((x' : Nat) : Int))).heap.size = W.heap.size := by simp [World.setCell]
  have hkp : plKp w.heap.size (S + 3) (S + 4) (S + 2) S W (W.setCell ⟨S + 1, 0, none⟩ (.int kd ((x' : Nat) : Int))) := ⟨oth _ (by omega), oth _ (by omega), oth _ (by omega), oth _ (by omega), (Below.refl w.heap.size W).setCell (p := ⟨S + 1, 0, none⟩) (by show w.heap.size ≤ S + 1; omega) _⟩
  have h0 : rowV W (S + 1) tt #[.int kd ((x : Nat) : Int)] := h.num
  exact ⟨⟨h.pl.kp hkp, h0.set 0 _, by rw [hsz]; exact h.size⟩, ⟨by rw [hsz]; exact Nat.le_refl _, fun q o hq ho _ => (oth q (by omega)).trans ho⟩, hkp⟩
end
end Go.Proofs.YtohadkmaemmfgaaGreatDoor
namespace Go.Proofs.YtohadkmaemmfgaaGreatDoor
open Go.RowKit Go.Proofs
set_option linter.unusedVariables false
set_option linter.unusedSimpArgs false
attribute [local go_sem] Oper.semAt_some
structure RgI (w : World) (A : Option Addr) (n c i N S : Nat) (g : Nat → Bool) (k : Nat) (W : World) : Prop where
  rd : RdI 3 .i64 w A n c i N S k W
  zeros : ∀ j, j < k → g (i + j) = false
  row : rowV W w.heap.size 184 #[.slice A n c, .int .i64 (N : Int)]
  lt : w.heap.size < S
section
variable {w W W' : World} {A : Option Addr} {n c i N S k : Nat} {g : Nat → Bool}
theorem RgI.kept {row : Option Nat} (hS : w.heap.size ≤ S) (h : RgI w A n c i N S g k W) (hg : W.grownBy W' row) (hrow : ∀ r, row = some r → S + 5 ≤ r) : RgI w A n c i N S g k W' :=
  ⟨h.rd.kept hS hg hrow, h.zeros, (hg.block _ h.row.lt (fun e => by have := hrow _ e.symm; have := h.lt; omega)).trans h.row, h.lt⟩
theorem RgI.drawn (h : RgI w A n c i N S g k W) (hd : Drawn W W') : RgI w A n c i N S g k W' := ⟨h.rd.drawn hd, h.zeros, ((hd.below _).block _ h.row.lt).trans h.row, h.lt⟩
theorem RgI.put (hS : w.heap.size ≤ S) (h : RgI w A n c i N S g k W) (hb : g (i + k) = false) : RgI w A n c i N S g (k + 1) (W.setCell ⟨S + 1, 0, none⟩ (.int .i64 ((k + 1 : Nat) : Int))) ∧ KeepsFrom (S + 5) W (W.setCell ⟨S + 1, 0, none⟩ (.int .i64 ((k + 1 : Nat) : Int))) ∧ plKp w.heap.size (S + 3) (S + 4) (S + 2) S W (W.setCell ⟨S + 1, 0, none⟩ (.int .i64 ((k + 1 : Nat) : Int))) := by
  obtain ⟨h1, h2, h3⟩ := h.rd.put hS (k + 1)
  refine ⟨⟨h1, fun j hj => ?_, (Below.heap_setCell _ ⟨S + 1, 0, none⟩ _ _ (by show w.heap.size ≠ S + 1; omega)).trans h.row, h.lt⟩, h2, h3⟩
  rcases Nat.lt_or_ge j k with e | e
  · exact h.zeros j e
  · obtain rfl : j = k := by omega
    exact hb
end
end Go.Proofs.YtohadkmaemmfgaaGreatDoor
namespace Go.Proofs.YtohadkmaemmfgaaGreatDoor
open Go.RowKit Go.Proofs
set_option linter.unusedVariables false
set_option linter.unusedSimpArgs false
def SR (W : World) (g : Nat) (A : Option Addr) (n c i : Nat) : Prop := rowV W g 186 #[.slice A n c, .int .i64 ((8 * n : Nat) : Int), .int .i64 (i : Int)]
theorem SR.drawn {W W' : World} {g : Nat} {A : Option Addr} {n c i : Nat} (h : SR W g A n c i) (hd : Drawn W W') : SR W' g A n c i := ((hd.below (g + 1)).block g (Nat.lt_succ_self _)).trans h
theorem grown_trans {X Y Z : World} {row : Option Nat} (h : X.grownBy Y row) (k : Y.grownBy Z row) : X.grownBy Z row := ⟨k.os.trans h.os, k.tape.trans h.tape, k.output.trans h.output, Nat.le_trans h.size k.size, fun i hi hn => (k.block i (Nat.lt_of_lt_of_le hi h.size) hn).trans (h.block i hi hn)⟩
def NextP (w : World) (g : Nat) (A : Option Addr) (n c i : Nat) (bs : List UInt8) (e : Ending) (w' : World) : Prop := match rdT (bitD bs) (8 * n) i with
  | .ok (t, j) => e = .returned (.tuple #[.agg (tokV t), .int .i64 0]) ∧ SR w' g A n c j ∧ w.grownBy w' (some g)
  | .error er => ∃ x y z, er ≠ 0 ∧ e = .returned (.tuple #[.agg #[.int .i64 x, .int .i64 y, .int .u8 z], .int .i64 er]) ∧ w.grownBy w' (some g)
theorem NextP.bad {w w' : World} {g : Nat} {A : Option Addr} {n c i : Nat} {bs : List UInt8} {e : Ending} {er x y z : Int} (h : rdT (bitD bs) (8 * n) i = .error er) (h0 : er ≠ 0) (he : e = .returned (.tuple #[.agg #[.int .i64 x, .int .i64 y, .int .u8 z], .int .i64 er])) (hg : w.grownBy w' (some g)) : NextP w g A n c i bs e w' := by
  unfold NextP
  rw [h]
  exact ⟨x, y, z, h0, he, hg⟩
theorem NextP.good {w w' : World} {g : Nat} {A : Option Addr} {n c i j : Nat} {bs : List UInt8} {e : Ending} {t : Tok} (h : rdT (bitD bs) (8 * n) i = .ok (t, j)) (he : e = .returned (.tuple #[.agg (tokV t), .int .i64 0])) (hs : SR w' g A n c j) (hg : w.grownBy w' (some g)) : NextP w g A n c i bs e w' := by
  unfold NextP
  rw [h]
  exact ⟨he, hs, hg⟩
structure NxI (w : World) (g : Nat) (A : Option Addr) (n c j : Nat) (W : World) : Prop where
  res : rowV W w.heap.size 180 #[.int .i64 0, .int .i64 0, .int .u8 0]
  sr : SR W g A n c j
  kept : w.grownBy W (some g)
section
variable {w W W' : World} {g : Nat} {A : Option Addr} {n c j j' : Nat}
theorem NxI.call (hg : g < w.heap.size) (h : NxI w g A n c j W) (hs : SR W' g A n c j') (hk : W.grownBy W' (some g)) : NxI w g A n c j' W' :=
  ⟨(hk.block _ h.res.lt (fun e => by injection e with e; omega)).trans h.res, hs, grown_trans h.kept hk⟩
theorem NxI.lay (hg : g < w.heap.size) (h : NxI w g A n c j W) (x y z : Value) :
    rowV (((W.setCell ⟨w.heap.size, 0, none⟩ x).setCell ⟨w.heap.size, 1, none⟩ y).setCell ⟨w.heap.size, 2, none⟩ z) w.heap.size 180 #[x, y, z] ∧ SR (((W.setCell ⟨w.heap.size, 0, none⟩ x).setCell ⟨w.heap.size, 1, none⟩ y).setCell ⟨w.heap.size, 2, none⟩ z) g A n c j ∧ w.grownBy (((W.setCell ⟨w.heap.size, 0, none⟩ x).setCell ⟨w.heap.size, 1, none⟩ y).setCell ⟨w.heap.size, 2, none⟩ z) (some g) := by
  have oth : ∀ q, q ≠ w.heap.size → (((W.setCell ⟨w.heap.size, 0, none⟩ x).setCell ⟨w.heap.size, 1, none⟩ y).setCell ⟨w.heap.size, 2, none⟩ z).heap[q]? = W.heap[q]? := fun q hq =>
    (Below.heap_setCell _ ⟨w.heap.size, 2, none⟩ _ q hq).trans ((Below.heap_setCell _ ⟨w.heap.size, 1, none⟩ _ q hq).trans (Below.heap_setCell _ ⟨w.heap.size, 0, none⟩ _ q hq))
  refine ⟨((h.res.set 0 x).set 1 y).set 2 z, (oth g (by omega)).trans h.sr, ⟨h.kept.os, h.kept.tape, h.kept.output, by simpa [World.setCell] using h.kept.size, fun k hk hn => (oth k (by omega)).trans (h.kept.block k hk hn)⟩⟩
end
end Go.Proofs.YtohadkmaemmfgaaGreatDoor

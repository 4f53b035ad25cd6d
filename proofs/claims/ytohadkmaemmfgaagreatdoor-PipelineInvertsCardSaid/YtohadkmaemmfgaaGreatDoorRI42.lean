/- On Pc. -/
import Derived.Test.YtohadkmaemmfgaaGreatDoorRI24
import Derived.Test.YtohadkmaemmfgaaGreatDoorRI56
import Derived.Test.YtohadkmaemmfgaaGreatDoorRI16
import Derived.Test.YtohadkmaemmfgaaGreatDoorRI07
import Derived.Test.YtohadkmaemmfgaaGreatDoorRI17
import Derived.Test.YtohadkmaemmfgaaGreatDoorRI34
import Derived.Test.YtohadkmaemmfgaaGreatDoorRI41
set_option maxRecDepth 100000
set_option maxHeartbeats 4000000
namespace Go.Proofs.YtohadkmaemmfgaaGreatDoor
open Go.RowKit Go.Proofs Go.Shelf
set_option linter.unusedVariables false
set_option linter.unusedSimpArgs false
attribute [local go_sem] Oper.semAt_some
theorem bytes_set {W : World} {A : Option Addr} {n c g : Nat} {xs : List UInt8} {t : TypeId} {v0 : Value} (h : Bytes W A n c xs) (hg : rowV W g t #[v0]) (hv : ∀ z, v0 ≠ .int .u8 z) (v : Value) : Bytes (W.setCell ⟨g, 0, none⟩ v) A n c xs := ⟨h.1, h.2.1, fun hn => by
  obtain ⟨b, off, hA, hb, hc⟩ := h.2.2 hn
  have hne : b ≠ g := fun e => by
    subst e
    have h0 := hc 0 hn
    unfold World.cell? at h0
    rw [hg] at h0
    simp only [Option.isSome_none, Bool.false_eq_true, if_false, Nat.add_zero] at h0
    rcases Nat.eq_zero_or_pos off with e | e
    · subst e
      exact hv _ (Option.some.inj h0)
    · rw [Array.getElem?_eq_none (by simp; omega)] at h0
      cases h0
  exact ⟨b, off, hA, by show b < (W.setCell ⟨g, 0, none⟩ v).heap.size; simp [World.setCell]; exact hb, fun i hi => (by
    have := hc i hi
    unfold World.cell? at this ⊢
    rw [Below.heap_setCell W ⟨g, 0, none⟩ v b hne]
    exact this)⟩⟩
theorem bytes_kept {W W' : World} {A : Option Addr} {n c : Nat} {xs : List UInt8} {row : Option Nat} (h : Bytes W A n c xs) (hg : W.grownBy W' row) (hrow : ∀ r, row = some r → ∃ o : Obj, W.heap[r]? = some o ∧ o.isCells = false) : Bytes W' A n c xs := ⟨h.1, h.2.1, fun hn => by
  obtain ⟨b, off, hA, hb, hc⟩ := h.2.2 hn
  exact ⟨b, off, hA, Nat.lt_of_lt_of_le hb hg.size, fun i hi => cell_kept (hc i hi) hg hrow⟩⟩
def StK (R P : Nat) (X W : World) : Prop := ∀ b j v, R + 2 ≤ b → b ≠ P → X.cell? ⟨b, j, none⟩ = some v → W.cell? ⟨b, j, none⟩ = some v
section
variable {R P : Nat} {X W W' : World}
theorem StK.below (h : StK R P X W) (hb : Below W.heap.size W W') : StK R P X W' := fun b j v h1 h2 h3 => by
  have h4 := h b j v h1 h2 h3
  exact (hb.cell (p := ⟨b, j, none⟩) (World.block_lt_of_cell? W _ h4)).trans h4
theorem StK.kept {row : Option Nat} (h : StK R P X W) (hg : W.grownBy W' row) (hrow : ∀ r, row = some r → ∃ o : Obj, W.heap[r]? = some o ∧ o.isCells = false) : StK R P X W' := fun b j v h1 h2 h3 => cell_kept (h b j v h1 h2 h3) hg hrow
theorem StK.set (h : StK R P X W) {g : Nat} (hg : g < R + 2 ∨ g = P ∨ X.heap.size ≤ g) (v : Value) : StK R P X (W.setCell ⟨g, 0, none⟩ v) := fun b j u h1 h2 h3 => by
  have hlt := World.block_lt_of_cell? X _ h3
  have hne : b ≠ g := by rcases hg with hg | hg | hg <;> (simp only at hlt; omega)
  have h4 := h b j u h1 h2 h3
  unfold World.cell? at h4 ⊢
  rw [Below.heap_setCell W ⟨g, 0, none⟩ v b hne]
  exact h4
end
theorem row_ne {W : World} {B r : Nat} {t : TypeId} {cs : Array Value} {row : Option Nat} (h : rowV W B t cs) (hrow : ∀ r, row = some r → ∃ o : Obj, W.heap[r]? = some o ∧ o.isCells = false) : some B ≠ row := fun e => by
  obtain ⟨o, h1, h2⟩ := hrow B e.symm
  unfold rowV at h
  rw [h] at h1
  injection h1 with h1
  subst h1
  cases h2
structure BwI (F : Trf) (l : List Stg) (bs : List UInt8) (w X : World) (P k : Nat) (W : World) : Prop where
  st : StK w.heap.size P X W
  r1 : rowV W w.heap.size 23 #[.slice none 0 0]
  r2 : rowV W (w.heap.size + 1) 26 #[.int .i64 0]
  e : rowV W P 26 #[.int .i64 0]
  out : ∃ A3 n3 c3, rowV W X.heap.size 23 #[.slice A3 n3 c3] ∧ n3 ≤ LIM ∧ (bwS F l bs k).2 = 0 ∧ Bytes W A3 n3 c3 (bwS F l bs k).1
  below : Below w.heap.size w W
  size : X.heap.size + 2 ≤ W.heap.size
structure BwE (F : Trf) (l : List Stg) (bs : List UInt8) (w : World) (W : World) : Prop where
  ex : ∃ er : Int, er ≠ 0 ∧ fin (bwS F l bs l.length) = ([], er) ∧ rowV W (w.heap.size + 1) 26 #[.int .i64 er]
  r1 : rowV W w.heap.size 23 #[.slice none 0 0]
  below : Below w.heap.size w W
section
variable {F : Trf} {l : List Stg} {bs : List UInt8} {w X W W' : World} {P k : Nat}
theorem BwI.kept {row : Option Nat} (h : BwI F l bs w X P k W) (hg : W.grownBy W' row) (hrow : ∀ r, row = some r → w.heap.size ≤ r ∧ ∃ o : Obj, W.heap[r]? = some o ∧ o.isCells = false) : BwI F l bs w X P k W' := by
  have hr := fun r e => (hrow r e).2
  obtain ⟨A3, n3, c3, h1, h2, h3, h4⟩ := h.out
  exact ⟨h.st.kept hg hr, h.r1.grown hg (row_ne (r := 0) h.r1 hr), h.r2.grown hg (row_ne (r := 0) h.r2 hr), h.e.grown hg (row_ne (r := 0) h.e hr), ⟨A3, n3, c3, h1.grown hg (row_ne (r := 0) h1 hr), h2, h3, bytes_kept h4 hg hr⟩, h.below.grown hg h.below.size fun r e => (hrow r e).1, Nat.le_trans h.size hg.size⟩
theorem BwE.kept {row : Option Nat} (h : BwE F l bs w W) (hg : W.grownBy W' row) (hrow : ∀ r, row = some r → w.heap.size ≤ r ∧ ∃ o : Obj, W.heap[r]? = some o ∧ o.isCells = false) : BwE F l bs w W' := by
  have hr := fun r e => (hrow r e).2
  obtain ⟨er, h1, h2, h3⟩ := h.ex
  exact ⟨⟨er, h1, h2, h3.grown hg (row_ne (r := 0) h3 hr)⟩, h.r1.grown hg (row_ne (r := 0) h.r1 hr), h.below.grown hg h.below.size fun r e => (hrow r e).1⟩
end
def slR (j : Nat) : Nat := if j < 12 then 29 + j else if j = 12 then 28 else 28 + j
def depR : Nat → List Nat
  | 1 => [0] | 2 => [1] | 3 => [2] | 4 => [3] | 8 => [6, 7] | 9 => [8] | 10 => [9] | 11 => [4, 5, 10] | 12 => [11] | 13 => [12] | 14 => [12] | 15 => [13] | 16 => [14, 15] | _ => []
def clR (listed : Array Bool) : Prop := ∀ i, listed.getD i false = true → ∀ j ∈ depR i, listed.getD j false = true
section
variable {listed : Array Bool}
theorem clR.set (h : clR listed) {i : Nat} (hs : i < listed.size) (hd : ∀ j ∈ depR i, listed.getD j false = true) : clR (listed.setIfInBounds i true) := fun k hk j hj => by
  rw [Bwt.getD_set' _ _ _ hs] at hk ⊢
  by_cases e : i = k
  · subst e
    rw [hd j hj]; split <;> rfl
  · rw [if_neg e] at hk
    rw [h k hk j hj]; split <;> rfl
theorem clR.head (h : clR listed) (h11 : listed.getD 11 false = true) : ∀ j, j ≤ 10 → listed.getD j false = true := by
  have a4 := h 11 h11 4 (by decide)
  have a5 := h 11 h11 5 (by decide)
  have a10 := h 11 h11 10 (by decide)
  have a3 := h 4 a4 3 (by decide)
  have a2 := h 3 a3 2 (by decide)
  have a1 := h 2 a2 1 (by decide)
  have a0 := h 1 a1 0 (by decide)
  have a9 := h 10 a10 9 (by decide)
  have a8 := h 9 a9 8 (by decide)
  have a7 := h 8 a8 7 (by decide)
  have a6 := h 8 a8 6 (by decide)
  intro j hj
  match j, hj with
  | 0, _ => exact a0
  | 1, _ => exact a1
  | 2, _ => exact a2
  | 3, _ => exact a3
  | 4, _ => exact a4
  | 5, _ => exact a5
  | 6, _ => exact a6
  | 7, _ => exact a7
  | 8, _ => exact a8
  | 9, _ => exact a9
  | 10, _ => exact a10
  | j + 11, h => exact absurd h (by omega)
theorem clR.tail (h : clR listed) {j : Nat} (hj : 11 ≤ j ∧ j ≤ 16) (hl : listed.getD j false = true) : listed.getD 11 false = true := by
  have f12 := fun e => h 12 e 11 (by decide)
  have f13 := fun e => f12 (h 13 e 12 (by decide))
  have f14 := fun e => f12 (h 14 e 12 (by decide))
  have f15 := fun e => f13 (h 15 e 13 (by decide))
  rcases (by omega : j = 11 ∨ j = 12 ∨ j = 13 ∨ j = 14 ∨ j = 15 ∨ j = 16) with rfl | rfl | rfl | rfl | rfl | rfl
  · exact hl
  · exact f12 hl
  · exact f13 hl
  · exact f14 hl
  · exact f15 hl
  · exact f14 (h 16 hl 14 (by decide))
theorem clR.off (h : clR listed) {j : Nat} (hj : j ≤ 11) (hun : listed.getD j false = false) : listed.getD 11 false = false := by
  cases hc : listed.getD 11 false with
  | false => rfl
  | true =>
    rcases (by omega : j ≤ 10 ∨ j = 11) with e | e
    · rw [h.head hc j e] at hun; cases hun
    · subst e; rw [hc] at hun; cases hun
end
structure RI (base : List (Nat × Value)) (v : Nat → Value) (listed : Array Bool) (a : Act) : Prop where
  size : a.tmps.size = 47
  base : ∀ x ∈ base, a.eval (.tmp x.1) = x.2
  got : ∀ j, j < 15 → listed.getD j false = true → a.eval (.tmp (slR j)) = v j
  cl : clR listed
section
variable {base : List (Nat × Value)} {v v' : Nat → Value} {listed : Array Bool} {a : Act}
theorem slR_inj {i j : Nat} (hi : i < 15) (hj : j < 15) (h : slR i = slR j) : i = j := by unfold slR at h; split at h <;> split at h <;> (try split at h) <;> (try split at h) <;> omega
theorem slR_lt {i : Nat} (hi : i < 15) : 28 ≤ slR i ∧ slR i < 47 := by unfold slR; split <;> (try split) <;> omega
theorem RI.put (h : RI base v listed a) {i : Nat} (hi : i < 15) (hs : i < listed.size) (hb : ∀ x ∈ base, x.1 < 28) (hd : ∀ j ∈ depR i, listed.getD j false = true) : RI base v (listed.setIfInBounds i true) (a.put (some (slR i)) (v i)) := by
  have hsl := slR_lt hi
  refine ⟨by simp [Act.put, h.size], fun x hx => ?_, fun j hj hl => ?_, h.cl.set hs hd⟩
  · rw [Bwt.eval_put, if_neg (by have := hb x hx; omega)]
    exact h.base x hx
  · rw [Bwt.eval_put]
    by_cases e : i = j
    · subst e
      rw [if_pos ⟨rfl, by rw [h.size]; omega⟩]
    · rw [if_neg (fun hc => e (slR_inj hi hj hc.1))]
      rw [Bwt.getD_set' _ _ _ hs, if_neg e] at hl
      exact h.got j hj hl
theorem RI.none (h : RI base v listed a) {i : Nat} (hi : 15 ≤ i) (hs : i < listed.size) (hd : ∀ j ∈ depR i, listed.getD j false = true) : RI base v (listed.setIfInBounds i true) (a.put none undef) :=
  ⟨h.size, h.base, fun j hj hl => by rw [Bwt.getD_set' _ _ _ hs, if_neg (by omega)] at hl; exact h.got j hj hl, h.cl.set hs hd⟩
theorem RI.re (h : RI base v listed a) (hv : ∀ j, j < 15 → listed.getD j false = true → v j = v' j) : RI base v' listed a := ⟨h.size, h.base, fun j hj hl => (h.got j hj hl).trans (hv j hj hl), h.cl⟩
end
def vR (D S q ga jj : Nat) (fv sl ty : Value) (wd er : Int) (x : Value) : Nat → Value
  | 0 => .pointer (some ⟨D, 0, none⟩)
  | 1 => .int .i64 (q : Int)
  | 2 => .pointer (some ⟨S, q * 5, none⟩)
  | 3 => .pointer (some ⟨S, q * 5 + 4, none⟩)
  | 4 => fv
  | 5 => sl
  | 6 => ty
  | 7 => .int .i64 (jj : Int)
  | 8 => .pointer (some ⟨ga, jj * 2, none⟩)
  | 9 => .pointer (some ⟨ga, jj * 2 + 1, none⟩)
  | 10 => .int .i64 wd
  | 11 => .tuple #[x, .int .i64 er]
  | 12 => .tuple #[x, .int .i64 er]
  | 13 => x
  | _ => .int .i64 er
def rC (W0 : World) (p9 p7 : Nat) (R : Value → World → Prop) (er : Int) (x : Value) (listed : Array Bool) (w : World) : Prop :=
  if listed.getD 11 false = true then ∃ W5, R x W5 ∧ w = (if listed.getD 16 false = true then (W5.setCell ⟨p9, 0, none⟩ x).setCell ⟨p7, 0, none⟩ (.int .i64 er) else if listed.getD 15 false = true then W5.setCell ⟨p9, 0, none⟩ x else W5) else w = W0
theorem rC.set {W0 w : World} {p9 p7 : Nat} {R : Value → World → Prop} {er : Int} {x : Value} {listed : Array Bool} (h : rC W0 p9 p7 R er x listed w) {i : Nat} (hi : i < 15) (hi2 : i ≠ 11) (hs : i < listed.size) : rC W0 p9 p7 R er x (listed.setIfInBounds i true) w := by
  have e11 : (listed.setIfInBounds i true).getD 11 false = listed.getD 11 false := by rw [Bwt.getD_set' _ _ _ hs, if_neg hi2]
  have e15 : (listed.setIfInBounds i true).getD 15 false = listed.getD 15 false := by rw [Bwt.getD_set' _ _ _ hs, if_neg (by omega)]
  have e16 : (listed.setIfInBounds i true).getD 16 false = listed.getD 16 false := by rw [Bwt.getD_set' _ _ _ hs, if_neg (by omega)]
  unfold rC at h ⊢
  rw [e11, e15, e16]
  exact h
section
variable {F : Trf} {l : List Stg} {bs : List UInt8} {w X W W5 : World} {P k bx : Nat}
theorem far2 (W : World) (p q : Nat) (x y : Value) {j : Nat} (h1 : j ≠ p) (h2 : j ≠ q) : ((W.setCell ⟨p, 0, none⟩ x).setCell ⟨q, 0, none⟩ y).heap[j]? = W.heap[j]? := (Below.heap_setCell _ ⟨q, 0, none⟩ _ j h2).trans (Below.heap_setCell _ ⟨p, 0, none⟩ _ j h1)
theorem size2 (W : World) (p q : Nat) (x y : Value) : ((W.setCell ⟨p, 0, none⟩ x).setCell ⟨q, 0, none⟩ y).heap.size = W.heap.size := by simp [World.setCell]
theorem bw_step (h : BwI F l bs w X P k W) (hP1 : w.heap.size + 2 ≤ P) (hP2 : P < X.heap.size) (hbx : bx = X.heap.size + 1) (hbl : bx < W.heap.size) (hb : Below W.heap.size W W5) {A5 : Option Addr} {n5 c5 : Nat} {ys : List UInt8} (hy : Bytes W5 A5 n5 c5 ys) (er : Int) {W' : World} (hW' : W' = (W5.setCell ⟨X.heap.size, 0, none⟩ (.slice A5 n5 c5)).setCell ⟨P, 0, none⟩ (.int .i64 er)) :
    KeepsFrom (X.heap.size + 2) W W' ∧ boxKs w.heap.size bx W W' ∧ StK w.heap.size P X W' ∧ rowV W' w.heap.size 23 #[.slice none 0 0] ∧ rowV W' (w.heap.size + 1) 26 #[.int .i64 0] ∧ rowV W' P 26 #[.int .i64 er] ∧ rowV W' X.heap.size 23 #[.slice A5 n5 c5] ∧ Bytes W' A5 n5 c5 ys ∧ Below w.heap.size w W' := by
  obtain ⟨A3, n3, c3, h1, -, -, -⟩ := h.out
  have hsz : W'.heap.size = W5.heap.size := by rw [hW', size2]
  have far : ∀ j, j < W.heap.size → j ≠ X.heap.size → j ≠ P → W'.heap[j]? = W.heap[j]? := fun j hj e1 e2 => by rw [hW', far2 _ _ _ _ _ e1 e2]; exact hb.block j hj
  have hr1 := h.r1.lt
  have hr2 := h.r2.lt
  have e5 : rowV W5 P 26 #[.int .i64 0] := h.e.below hb h.e.lt
  have x5 : rowV W5 X.heap.size 23 #[.slice A3 n3 c3] := h1.below hb h1.lt
  have x6 : rowV (W5.setCell ⟨X.heap.size, 0, none⟩ (.slice A5 n5 c5)) X.heap.size 23 #[.slice A5 n5 c5] := x5.set 0 _
  have e6 : rowV (W5.setCell ⟨X.heap.size, 0, none⟩ (.slice A5 n5 c5)) P 26 #[.int .i64 0] := (Below.heap_setCell _ ⟨X.heap.size, 0, none⟩ _ P (by show P ≠ X.heap.size; omega)).trans e5
  have b5 : Below w.heap.size W W' := by
    rw [hW']
    exact ((hb.mono h.below.size).setCell (p := ⟨X.heap.size, 0, none⟩) (by show w.heap.size ≤ X.heap.size; omega) _).setCell (p := ⟨P, 0, none⟩) (by show w.heap.size ≤ P; omega) _
  refine ⟨⟨by rw [hsz]; exact hb.size, fun j o hj ho _ => ?_⟩, ⟨far bx hbl (by omega) (by omega), b5⟩, ?_, (far _ hr1 (by omega) (by omega)).trans h.r1, (far _ hr2 (by omega) (by omega)).trans h.r2, ?_, ?_, ?_, h.below.trans b5⟩
  · exact (far j (Array.getElem?_eq_some_iff.1 ho).1 (by omega) (by omega)).trans ho
  · rw [hW']; exact ((h.st.below hb).set (.inr (.inr (Nat.le_refl _))) _).set (.inr (.inl rfl)) _
  · rw [hW']; exact e6.set 0 _
  · rw [hW']; exact (Below.heap_setCell _ ⟨P, 0, none⟩ _ X.heap.size (by show X.heap.size ≠ P; omega)).trans x6
  · rw [hW']; exact bytes_set (bytes_set hy x5 (fun z e => by cases e) _) e6 (fun z e => by cases e) _
theorem res_laid {W W' : World} {x0 x : Value} {e0 er : Int} (h1 : rowV W w.heap.size 23 #[x0]) (h2 : rowV W (w.heap.size + 1) 26 #[.int .i64 e0]) (hb : Below w.heap.size w W) (hW' : W' = (W.setCell ⟨w.heap.size, 0, none⟩ x).setCell ⟨w.heap.size + 1, 0, none⟩ (.int .i64 er)) :
    rowV W' w.heap.size 23 #[x] ∧ rowV W' (w.heap.size + 1) 26 #[.int .i64 er] ∧ Below w.heap.size w W' ∧ KeepsFrom (w.heap.size + 2) W W' := by
  have x6 : rowV (W.setCell ⟨w.heap.size, 0, none⟩ x) w.heap.size 23 #[x] := h1.set 0 _
  have e6 : rowV (W.setCell ⟨w.heap.size, 0, none⟩ x) (w.heap.size + 1) 26 #[.int .i64 e0] := (Below.heap_setCell _ ⟨w.heap.size, 0, none⟩ _ _ (by show w.heap.size + 1 ≠ w.heap.size; omega)).trans h2
  refine ⟨?_, ?_, ?_, ⟨by rw [hW', size2]; exact Nat.le_refl _, fun j o hj ho _ => ?_⟩⟩
  · rw [hW']; exact (Below.heap_setCell _ ⟨w.heap.size + 1, 0, none⟩ _ _ (by show w.heap.size ≠ w.heap.size + 1; omega)).trans x6
  · rw [hW']; exact e6.set 0 _
  · rw [hW']; exact (hb.setCell (p := ⟨w.heap.size, 0, none⟩) (Nat.le_refl _) _).setCell (p := ⟨w.heap.size + 1, 0, none⟩) (by show w.heap.size ≤ w.heap.size + 1; omega) _
  · rw [hW', far2 _ _ _ _ _ (by omega) (by omega)]; exact ho
end
theorem arr47 (ts : Array Value) (h : ts.size = 47) : ∃ f : Nat → Value, ts = #[f 0, f 1, f 2, f 3, f 4, f 5, f 6, f 7, f 8, f 9, f 10, f 11, f 12, f 13, f 14, f 15, f 16, f 17, f 18, f 19, f 20, f 21, f 22, f 23, f 24, f 25, f 26, f 27, f 28, f 29, f 30, f 31, f 32, f 33, f 34, f 35, f 36, f 37, f 38, f 39, f 40, f 41, f 42, f 43, f 44, f 45, f 46] := ⟨fun i => ts.getD i undef, by
  have e : ts.toList = (List.range 47).map fun i => ts.getD i undef := by
    refine List.ext_getElem (by simp [h]) fun i h1 h2 => ?_
    have hi : i < ts.size := by simpa using h1
    simp [Array.getD_eq_getD_getElem?, hi]
  have e2 : ts = ((List.range 47).map fun i => ts.getD i undef).toArray := by rw [← e]
  exact e2⟩
theorem dep1 {p : Nat → Prop} {a : Nat} (h : p a) : ∀ j ∈ [a], p j := fun j hj => by rw [List.mem_singleton.1 hj]; exact h
theorem dep2 {p : Nat → Prop} {a b : Nat} (h : p a) (h' : p b) : ∀ j ∈ [a, b], p j := fun j hj => (List.mem_cons.1 hj).elim (fun e => by rw [e]; exact h) (dep1 h' j)
theorem dep3 {p : Nat → Prop} {a b c : Nat} (h : p a) (h' : p b) (h'' : p c) : ∀ j ∈ [a, b, c], p j := fun j hj => (List.mem_cons.1 hj).elim (fun e => by rw [e]; exact h) (dep2 h' h'' j)
theorem twoB (w : World) (o1 o2 : Obj) : ((w.alloc o1).alloc o2).heap[w.heap.size]? = some o1 ∧ ((w.alloc o1).alloc o2).heap[w.heap.size + 1]? = some o2 ∧ Below w.heap.size w ((w.alloc o1).alloc o2) ∧ ((w.alloc o1).alloc o2).heap.size = w.heap.size + 2 := by
  have s1 : (w.alloc o1).heap.size = w.heap.size + 1 := by simp
  have t2 := heap_alloc_new (w.alloc o1) o2
  have t1 := heap_alloc_new w o1
  rw [s1] at t2
  refine ⟨?_, t2, ?_, by simp⟩
  · rw [Below.heap_alloc _ _ _ (by omega)]; exact t1
  · exact (((Below.refl _ _).alloc (Nat.le_refl _) _).alloc (by omega) _)
theorem inverse_any (F : Trf) (A : Option Addr) (n c : Nat) (l : List Stg) (A' : Option Addr) (n' c' : Nat) (bs : List UInt8) (w : World) (hx : Stgs w A n c l) (hn : n ≤ 1000000000) (hy : Bytes w A' n' c' bs) (hn' : n' ≤ 1000000)
    (hF : (typE l (0, 0)).1 = 0 → ∀ s ∈ l, FwC (fun _ => True) F 4 s.1.toNat) :
    Calls Tryz.prog 9 #[.slice A n c, .slice A' n' c'] w (RetBytes w (bwP F l bs).1 (bwP F l bs).2) := by
  have z1 := zS
  obtain ⟨k1, k2, hb0, hs0⟩ := twoB w (.cells #[.slice none 0 0] 23) (.cells #[.int .i64 0] 26)
  have HC := begin_any A n c l A' n' c' _ (hx.below hb0) (by omega)
  have hl' := hy.1
  unfold bwP
  rw [hl']
  obtain ⟨w0, hw0⟩ : ∃ w0, w0 = (w.alloc (.cells #[.slice none 0 0] 23)).alloc (.cells #[.int .i64 0] 26) := ⟨_, rfl⟩
  rw [← hw0] at k1 k2 hb0 hs0 HC
  have HW0 := Lib.hid hw0
  have HR0 : Hid (rowV w0 w.heap.size 23 #[.slice none 0 0] ∧ rowV w0 (w.heap.size + 1) 26 #[.int .i64 0] ∧ Below w.heap.size w w0 ∧ w0.heap.size = w.heap.size + 2) := ⟨k1, k2, hb0, hs0⟩
  clear hw0 k1 k2 hb0 hs0
  by_cases he : begE l n' = 0
  · simp only [if_pos he] at HC ⊢
    have het : (typE l (0, 0)).1 = 0 := by unfold begE at he; by_cases h : (typE l (0, 0)).1 = 0; (exact h); rw [if_neg h] at he; exact absurd he h
    have hn6 : n' ≤ 65536 := by unfold begE at he; rw [if_pos het] at he; by_cases h : 65536 < n'; (rw [if_pos h] at he; cases he); omega
    have hF := hF het
    obtain ⟨h8, -, -, hso⟩ := typE_ok het
    have hl := hx.1
    have HC := Lib.hid HC
    have HX := Lib.hid hx
    have HY := Lib.hid hy
    have HSO := Lib.hid hso
    have HFC := Lib.hid hF
    have HWD := Lib.hid (fun k hk => tyOk_width (tK_width l het k hk))
    clear hx hy hso hF he het
    refine calls_of_marks Tryz.func9 rfl ?_
    simp only [Tryz.ntmps9, List.size_toArray, List.length_cons, List.length_nil, Nat.reduceAdd, Nat.reduceSub, Array.replicate_succ, Array.replicate_zero, List.push_toArray, List.append_toArray, List.nil_append, List.cons_append]
    go_wp2_with fail
    rw [← HW0.out]
    refine HC.out.mono ?_
    rintro e w1 ⟨⟨At, ct, rfl, hty⟩, hb1⟩
    rw [hl] at hty
    have HTY := Lib.hid hty
    have HB1 := Lib.hid hb1
    clear hty hb1
    go_wp2_with fail
    obtain ⟨w2, hw2⟩ : ∃ w2, w2 = (w1.alloc (.cells #[.slice At (n + 1) ct] 39)).alloc (.cells #[.int .i64 0] 26) := ⟨_, rfl⟩
    obtain ⟨k6, k7, hb12, hs2⟩ := twoB w1 (.cells #[.slice At (n + 1) ct] 39) (.cells #[.int .i64 0] 26)
    rw [← hw2] at k6 k7 hb12 hs2 ⊢
    have HR2 : Hid (rowV w2 w1.heap.size 39 #[.slice At (n + 1) ct] ∧ rowV w2 (w1.heap.size + 1) 26 #[.int .i64 0] ∧ Below w1.heap.size w1 w2 ∧ w2.heap.size = w1.heap.size + 2) := ⟨k6, k7, hb12, hs2⟩
    clear hw2 k6 k7 hb12 hs2
    refine (shapes_all w2).mono ?_
    rintro e w3 ⟨⟨f, hf, hca, rfl⟩, hb3⟩
    obtain ⟨w4, hw4, hw4', hb4, s4, r4⟩ := laidSh w3 f
    have Hr := Lib.hid (rowV.new w3 46 zeroS)
    have Hf := Lib.hid (allSh hf)
    have HF := Lib.hid hf
    have hb24 : Below w2.heap.size w2 w4 := hb3.trans (hb4.mono hb3.size)
    have HB4 := Lib.hid hb24
    have HCA := Lib.hid (hca.below hb4)
    have HR4 := Lib.hid r4
    have hbw4 : Below w.heap.size w w4 := (HR0.out.2.2.1.trans (HB1.out.mono HR0.out.2.2.1.size)).trans ((HR2.out.2.2.1.trans (hb24.mono HR2.out.2.2.1.size)).mono (Nat.le_trans HR0.out.2.2.1.size HB1.out.size))
    have HBW4 := Lib.hid hbw4
    have HCL := Lib.hid (clone_any A' n' c' bs w4 (HY.out.below hbw4) hn')
    have hSZ : w.heap.size + 2 ≤ w1.heap.size ∧ w1.heap.size + 2 ≤ w3.heap.size ∧ w3.heap.size + 1 = w4.heap.size := ⟨by have := HB1.out.size; have := HR0.out.2.2.2; omega, by have := hb3.size; have := HR2.out.2.2.2; omega, s4.symm⟩
    have HSZ := Lib.hid hSZ
    clear hb3 hb4 s4 r4 hf hb24 hca hbw4 hSZ
    go_wp2_with (refine wpList_store_row rfl 46 (.tmp 8) (.tmp 21) rfl _ _ rfl rfl _ _ Hr.out (iSh f) (zS_size f) Hf.out ?_)
    clear z1 Hr Hf
    rw [← hw4]
    clear hw4 hw4'
    refine HCL.out.mono ?_
    rintro e w5 ⟨A4, n4, c4, rfl, ho4, hb5⟩
    obtain rfl : n' = n4 := by rw [← ho4.length]; exact hl'.symm
    have HO4 := Lib.hid ho4.bytesB
    have HB5 := Lib.hid hb5
    clear ho4 hb5 HCL
    go_wp2_with fail
    refine (backS_any A n c _).mono ?_
    rintro e w7 ⟨rfl, hw7⟩
    have HW7 := Lib.hid hw7
    clear hw7
    go_wp2_with fail
    obtain ⟨ga, ea, hge, hga, hcT⟩ := HTY.out.get (fun _ => rfl) (by decide) (0, 0) (by omega)
    subst ea
    have hb15 : Below w1.heap.size w1 w5 := (HR2.out.2.2.1.trans (HB4.out.mono HR2.out.2.2.1.size)).trans (HB5.out.mono (Nat.le_trans HR2.out.2.2.1.size HB4.out.size))
    have hb25 : Below w2.heap.size w2 w5 := HB4.out.trans (HB5.out.mono HB4.out.size)
    have s5 : w4.heap.size ≤ w5.heap.size := HB5.out.size
    have hz := HSZ.out
    have HI0 : Hid (BwI F l bs w w5 (w1.heap.size + 1) 0 w7 ∧ Boxed w7 (w5.heap.size + 1) 22 (.slice A n c) ∧ w7.heap.size = w5.heap.size + 2) := by
      obtain ⟨t1, t2, t3, t4⟩ := twoB w5 (.cells #[.slice A4 n' c4] 23) (.cells #[.slice A n c] 22)
      rw [← HW7.out] at t1 t2 t3 t4
      have hb01 := HB1.out
      have hs0 := HR0.out.2.2.2
      have hs2 := HR2.out.2.2.2
      have hb17 : Below w1.heap.size w1 w7 := hb15.trans (t3.mono (by omega))
      have hb07 : Below w0.heap.size w0 w7 := hb01.trans (hb17.mono hb01.size)
      have hb27 : Below w2.heap.size w2 w7 := hb25.trans (t3.mono (by omega))
      refine ⟨⟨fun b j v _ _ h => (t3.cell (p := ⟨b, j, none⟩) (World.block_lt_of_cell? w5 _ h)).trans h, HR0.out.1.below hb07 (by omega), HR0.out.2.1.below hb07 (by omega), HR2.out.2.1.below hb27 (by omega), ⟨A4, n', c4, t1, by unfold LIM; omega, rfl, HO4.out.below t3⟩, HR0.out.2.2.1.trans (hb07.mono (by omega)), by omega⟩, t2, t4⟩
    have HCELL : Hid (∀ (k : Nat) (W : World), BwI F l bs w w5 (w1.heap.size + 1) k W → (∀ j v, (shV f)[j]? = some v → W.cell? ⟨w3.heap.size, j, none⟩ = some v) ∧ (∀ j, j < n → W.cell? ⟨ga, j * 2 + 1, none⟩ = some (.int .i64 (tK l (0, 0) j).2)) ∧ W.cell? ⟨w1.heap.size, 0, none⟩ = some (.slice (some ⟨ga, 0, none⟩) (n + 1) ct) ∧ ClAt W w2.heap.size f) := by
      intro k W hI
      have hs0 := HR0.out.2.2.2
      have hs2 := HR2.out.2.2.2
      refine ⟨fun j v hj => ?_, fun j hj => ?_, ?_, fun i hi => ?_⟩
      · exact hI.st _ _ _ (by omega) (by omega) ((HR4.out.below HB5.out (by omega)).cell hj)
      · refine hI.st _ _ _ (by omega) (by omega) ?_
        have hta := hcT j 1 (.int .i64 (tK l (0, 0) j).2) (by omega) (by
          have : (tysTo l (0, 0) n).getD j (0, 0) = tK l (0, 0) j := by unfold tysTo; simp [List.getD, show j < n + 1 by omega]
          rw [this]; rfl)
        exact (hb15.cell (p := ⟨ga, j * 2 + 1, none⟩) hga).trans hta
      · exact hI.st _ _ _ (by omega) (by omega) ((HR2.out.1.below hb25 (by omega)).cell rfl)
      · obtain ⟨p, e1, b, e2, hB, hc⟩ := HCA.out i hi
        refine ⟨p, e1, b, e2, hB, hI.st _ _ _ (by omega) (by omega) ?_⟩
        exact (HB5.out.cell (p := ⟨b, 0, none⟩) (World.block_lt_of_cell? w4 _ hc)).trans hc
    clear hge hga hcT hb15 hb25
    obtain ⟨P, hP⟩ : ∃ P, P = w1.heap.size + 1 := ⟨_, rfl⟩
    obtain ⟨S8, hS8⟩ : ∃ S8, S8 = w3.heap.size := ⟨_, rfl⟩
    refine wp_rangeFunc_rowM2 (G := fun d u v t => (((t.setIfInBounds 26 u).setIfInBounds 27 v).setIfInBounds 10 u).setIfInBounds 11 (.pointer (some ⟨d, 0, none⟩))) (u := fun k => .int .i64 ((n : Int) - 1 - k)) (v := fun k => .agg #[.int .i64 (sG l (n - 1 - k)).1, .int .i64 (sG l (n - 1 - k)).2]) (ob := fun k => .cells #[.int .i64 (sG l (n - 1 - k)).1, .int .i64 (sG l (n - 1 - k)).2] 50) rfl (enters_of Tryz.func63 (by kernel_rfl) rfl) (backS1_gives w A n c l HX.out hn (w5.heap.size + 1) (by have := HSZ.out; omega))
      (fun o1 o2 => ⟨(HI0.out.2.1.alloc _).alloc _, (HI0.out.1.below.alloc HI0.out.1.below.size _).alloc (by have := HI0.out.1.below.size; simp; omega) _⟩)
      (fun A B hab => by rw [hab]; exact KeepsFrom.refl _ _)
      (fun h1 h2 => ⟨h2.1.trans h1.1, h1.2.trans h2.2⟩)
      (fun W l0 o o' hl0 hlo ho => by
        have h7 := HI0.out.2.2
        exact ⟨World.putObj_heap_other (by omega), (Below.refl _ _).grown (grownBy_putObj' W l0 o') (by have := (Array.getElem?_eq_some_iff.1 hlo).1; have := HSZ.out; omega) (fun k e => by cases e; have := HSZ.out; omega)⟩)
      (fun W o hW => by
        have h7 := HI0.out.2.2
        exact ⟨Below.heap_alloc _ _ _ (by omega), (Below.refl _ _).alloc (by have := HSZ.out; omega) _⟩)
      (fun k => BwI F l bs w w5 (w1.heap.size + 1) k) (fun c' k W => c' = .ret ∧ BwE F l bs w W) ?hI ?hIx (fun k A B h hab => by rw [hab]; exact h) (fun _ _ _ _ h hab => by rw [hab]; exact h) HI0.out.1 ?assign ?body ?done ?stop (fun _ => rfl) (fun k W h => by rw [HI0.out.2.2]; exact h.size)
    case hI => exact fun s W W' row h hg hr => h.kept hg (fun r e => ⟨by have := (hr r e).1; have := HI0.out.2.2; have := HSZ.out; omega, (hr r e).2⟩)
    case hIx => exact fun c' s W W' row h hg hr => ⟨h.1, h.2.kept hg (fun r e => ⟨by have := (hr r e).1; have := HI0.out.2.2; have := HSZ.out; omega, (hr r e).2⟩)⟩
    case assign =>
      intro l0 k W K hK
      simp only [List.setIfInBounds_toArray, List.set_cons_succ, List.set_cons_zero] at hK ⊢
      gi_wp2
      exact hK
    case done =>
      intro D W hD hI hdef
      have h7 := HI0.out.2.2
      obtain ⟨A3, n3, c3, h9, hn3, h0, hy3⟩ := hI.out
      have q9 := h9.cell (j := 0) rfl
      have q1 := hI.r1.cell (j := 0) rfl
      have q2 := hI.r2.cell (j := 0) rfl
      have q5 := hI.r1.frozen 0
      have q6 := hI.r2.frozen 0
      obtain ⟨W', hW'⟩ : ∃ W', W' = (W.setCell ⟨w.heap.size, 0, none⟩ (.slice A3 n3 c3)).setCell ⟨w.heap.size + 1, 0, none⟩ (.int .i64 0) := ⟨_, rfl⟩
      obtain ⟨u1, u2, u3, -⟩ := res_laid hI.r1 hI.r2 hI.below hW'
      have hy' : Bytes W' A3 n3 c3 (bwS F l bs n).1 := by
        rw [hW']
        refine bytes_set (bytes_set hy3 hI.r1 (fun z e => by cases e) _) (t := 26) (v0 := .int .i64 0) ?_ (fun z e => by cases e) _
        exact (Below.heap_setCell _ ⟨w.heap.size, 0, none⟩ _ _ (by show w.heap.size + 1 ≠ w.heap.size; omega)).trans hI.r2
      have hd' : W'.heap[D]? = some (.deferred (some [])) := by rw [hW', far2 _ _ _ _ _ (by omega) (by omega)]; exact hdef
      have hgP := grownBy_putObj' W' D (.deferred none)
      have hcl : ∀ r, some D = some r → ∃ o : Obj, W'.heap[r]? = some o ∧ o.isCells = false := fun r e => by injection e with e; subst e; exact ⟨_, hd', rfl⟩
      have v1 := (u1.grown hgP (by intro e; injection e with e; omega)).cell (j := 0) rfl
      have v2 := (u2.grown hgP (by intro e; injection e with e; omega)).cell (j := 0) rfl
      have HFIN : Hid (Bytes (W'.putObj D (.deferred none)) A3 n3 c3 (bwS F l bs n).1 ∧ Below w.heap.size w (W'.putObj D (.deferred none)) ∧ (bwS F l bs n).2 = 0 ∧ W'.heap[D]? = some (.deferred (some []))) := ⟨bytes_kept hy' hgP hcl, u3.grown hgP u3.size (fun r e => by injection e with e; omega), h0, hd'⟩
      have HW' := Lib.hid hW'
      clear hW' u1 u2 u3 hy' hd' hgP hcl hI h9 hn3 h0 hy3 hdef
      go_wp2_with fail
      rw [← HW'.out, hl, fin_ok HFIN.out.2.2.1]
      refine .inr ⟨D, rfl, HFIN.out.2.2.2, .tuple #[.slice A3 n3 c3, .int .i64 0], ?_, RetBytes.mk HFIN.out.2.2.1.symm HFIN.out.1 HFIN.out.2.1⟩
      simp [results, Tryz.results9, go_sem, v1, v2]
    case stop =>
      intro D c' k W hD hk hI hdef
      obtain ⟨rfl, hI⟩ := hI
      have h7 := HI0.out.2.2
      obtain ⟨er, he0, hfin, hr2⟩ := hI.ex
      go_wp2_with fail
      rw [hfin]
      have hgP := grownBy_putObj' W D (.deferred none)
      have v1 := (hI.r1.grown hgP (by intro e; injection e with e; omega)).cell (j := 0) rfl
      have v2 := (hr2.grown hgP (by intro e; injection e with e; omega)).cell (j := 0) rfl
      refine .inr ⟨D, rfl, hdef, .tuple #[.slice none 0 0, .int .i64 er], ?_, RetBytes.err rfl (hI.below.grown hgP hI.below.size (fun r e => by injection e with e; omega))⟩
      simp [results, Tryz.results9, go_sem, v1, v2]
    case body =>
      intro l0 k d W hk hl0 hd0 hI hob
      obtain ⟨cS, cT, c6, hcl⟩ := HCELL.out k W hI
      have h7 := HI0.out.2.2
      obtain ⟨A3, n3, c3, h9, hn3, h0, hy3⟩ := hI.out
      obtain ⟨jj, hjj⟩ : ∃ jj, jj = n - 1 - k := ⟨_, rfl⟩
      have ejj : (n : Int) - 1 - k = (jj : Int) := by omega
      have hjn : jj < n := by omega
      have hnx := bwS_next (G := F) (l := l) (bs := bs) h0
      rw [hl, ← hjj] at hnx
      rw [← hjj] at hob ⊢
      rw [ejj]
      have hmem : sG l jj ∈ l := by unfold sG; rw [List.getD_eq_getElem?_getD, List.getElem?_eq_getElem (show jj < l.length by omega)]; exact List.getElem_mem _
      have hsok := HSO.out (sG l jj) hmem
      have hfc := HFC.out (sG l jj) hmem
      have hwd := HWD.out jj (by omega)
      have hta := cT jj hjn
      obtain ⟨⟨kd, ar⟩, hs⟩ : ∃ s, s = sG l jj := ⟨_, rfl⟩
      rw [← hs] at hob hsok hfc hnx ⊢
      clear hs hmem cT
      dsimp only at hob hnx hfc ⊢
      obtain ⟨hk0, hk1, -, -⟩ := hsok
      dsimp only at hk0 hk1
      obtain ⟨q, rfl⟩ : ∃ q : Nat, kd = (q : Int) := ⟨kd.toNat, by omega⟩
      have hq : q < 10 := by omega
      rw [Int.toNat_natCast] at hnx hfc
      obtain ⟨g, lb, hg, heg, hcal⟩ := hfc f w2.heap.size HF.out
      obtain ⟨wd, hwde⟩ : ∃ wd, wd = (tK l (0, 0) jj).2 := ⟨_, rfl⟩
      rw [← hwde] at hwd hta hnx
      obtain ⟨xs, hxs⟩ : ∃ xs, xs = (bwS F l bs k).1 := ⟨_, rfl⟩
      rw [← hxs] at hnx hy3
      obtain ⟨rs, hrs⟩ : ∃ rs, rs = F q wd xs := ⟨_, rfl⟩
      rw [← hrs] at hnx
      have hcall := hcal W.drew A3 n3 c3 xs wd (hcl.below ((Drawn.drewN W 1).below _)) trivial (hy3.below ((Drawn.drewN W 1).below _)) hn3 hwd
      rw [← hrs] at hcall
      obtain ⟨er, her⟩ : ∃ er, er = rs.2 := ⟨_, rfl⟩
      have HCALL : Hid (Calls Tryz.prog g (#[.slice A3 n3 c3, .int .i64 wd] ++ lb) W.drew (fun e w' => ∃ v, e = .returned v ∧ ∃ x, v = .tuple #[x, .int .i64 er] ∧ ∃ A5 n5 c5, x = .slice A5 n5 c5 ∧ Bytes w' A5 n5 c5 rs.1 ∧ Below W.heap.size W w')) := by
        refine hcall.1.mono ?_
        rintro e w' ⟨A2, n2, c2, rfl, h1, h2⟩
        exact ⟨_, rfl, _, by rw [her], A2, n2, c2, rfl, h1, ((Drawn.drewN W 1).below _).trans h2⟩
      have HER := Lib.hid her
      clear her
      have HLN := Lib.hid hcall.2
      have HNX := Lib.hid hnx
      have cf := cS (q * 5 + 4) _ hg
      have c9 := h9.cell (j := 0) rfl
      have c7 := hI.e.cell (j := 0) rfl
      have cd0 : W.cell? ⟨d, 0, none⟩ = some (.int .i64 (q : Int)) := rowV.cell (t := 50) (cs := #[.int .i64 (q : Int), .int .i64 ar]) (j := 0) hob rfl
      have HI := Lib.hid hI
      have HEG := heg
      unfold Enters at HEG
      clear hcal hcall hcl hnx hrs hxs hwde hwd hy3 h0 hfc hg cS heg hob hI h9 HCELL HFC HSO HWD
      simp only [List.setIfInBounds_toArray, List.set_cons_succ, List.set_cons_zero]
      gi_wp2
      obtain ⟨base, hbase⟩ : ∃ base : List (Nat × Value), base = [(4, .pointer (some ⟨w.heap.size, 0, none⟩)), (5, .pointer (some ⟨w.heap.size + 1, 0, none⟩)), (6, .pointer (some ⟨w1.heap.size, 0, none⟩)), (7, .pointer (some ⟨w1.heap.size + 1, 0, none⟩)), (8, .pointer (some ⟨w3.heap.size, 0, none⟩)), (9, .pointer (some ⟨w5.heap.size, 0, none⟩)), (10, .int .i64 (jj : Int)), (11, .pointer (some ⟨d, 0, none⟩))] := ⟨_, rfl⟩
      obtain ⟨V, hV⟩ : ∃ V, V = vR d w3.heap.size q ga jj (.func (.func g) #[] lb) (.slice A3 n3 c3) (.slice (some ⟨ga, 0, none⟩) (n + 1) ct) wd er := ⟨_, rfl⟩
      have hb28 : ∀ x ∈ base, x.1 < 28 := by
        rw [hbase]
        intro x hx
        simp only [List.mem_cons, List.not_mem_nil, or_false] at hx
        rcases hx with rfl | rfl | rfl | rfl | rfl | rfl | rfl | rfl <;> simp
      have f9 : ∀ W5 : World, Below W.heap.size W W5 → W5.cell? ⟨w5.heap.size, 0, none⟩ = some (.slice A3 n3 c3) ∧ W5.frozen? ⟨w5.heap.size, 0, none⟩ = false ∧ W5.cell? ⟨w1.heap.size + 1, 0, none⟩ = some (.int .i64 0) ∧ W5.frozen? ⟨w1.heap.size + 1, 0, none⟩ = false := fun W5 hb => by
        have hI := HI.out
        obtain ⟨A3', n3', c3', h9, -, -, -⟩ := hI.out
        have u9 := (h9.below hb h9.lt)
        have u7 := hI.e.below hb hI.e.lt
        exact ⟨(u9.cell (j := 0) rfl).trans ((h9.cell (j := 0) rfl).symm.trans c9), u9.frozen 0, u7.cell (j := 0) rfl, u7.frozen 0⟩
      have F9 := Lib.hid f9
      clear f9
      refine Bwt.wpIn_region_inv (fun listed a w' => ∃ x, RI base (V x) listed a ∧ rC W.drew w5.heap.size (w1.heap.size + 1) (fun x W5 => ∃ A5 n5 c5, x = .slice A5 n5 c5 ∧ Bytes W5 A5 n5 c5 rs.1 ∧ Below W.heap.size W W5) er x listed w') (by kernel_rfl) (by kernel_rfl) (by kernel_rfl) ?start ?step ?last
      case start =>
        refine ⟨.slice none 0 0, ⟨rfl, ?_, fun j _ h => absurd ((Bwt.getD_rep _ j).symm.trans h) (by decide), fun j h => absurd ((Bwt.getD_rep _ j).symm.trans h) (by decide)⟩, ?_⟩
        · rw [hbase]
          intro x hx
          simp only [List.mem_cons, List.not_mem_nil, or_false] at hx
          rcases hx with rfl | rfl | rfl | rfl | rfl | rfl | rfl | rfl <;> rfl
        · show rC W.drew w5.heap.size (w1.heap.size + 1) (fun x W5 => ∃ A5 n5 c5, x = .slice A5 n5 c5 ∧ Bytes W5 A5 n5 c5 rs.1 ∧ Below W.heap.size W W5) er _ _ _
          unfold rC
          rw [if_neg (by decide)]
      case last =>
        rintro listed a w' hall ⟨x, hJ, hC⟩
        unfold rC at hC
        rw [if_pos (hall 11 (by decide))] at hC
        obtain ⟨W5, ⟨A5, n5, c5, rfl, hy5, hb5⟩, hw'⟩ := hC
        rw [if_pos (hall 16 (by decide))] at hw'
        obtain ⟨s1, s2, s3, s4, s5', s6, s7, s8, s9⟩ := bw_step HI.out (by omega) (by omega) rfl (by have := World.block_lt_of_cell? W _ cd0; simp only at this; omega) hb5 hy5 er hw'
        have h0' := HNX.out
        have HS := Lib.hid (And.intro s1 (And.intro s2 (And.intro s3 (And.intro s4 (And.intro s5' (And.intro s6 (And.intro s7 (And.intro s8 s9))))))))
        have q7 := s6.cell (j := 0) rfl
        have q4 := s4.cell (j := 0) rfl
        have q5 := s5'.cell (j := 0) rfl
        have p4 := s4.frozen 0
        have p5 := s5'.frozen 0
        have b4 : a.eval (.tmp 4) = .pointer (some ⟨w.heap.size, 0, none⟩) := hJ.base (4, _) (by rw [hbase]; simp)
        have b5 : a.eval (.tmp 5) = .pointer (some ⟨w.heap.size + 1, 0, none⟩) := hJ.base (5, _) (by rw [hbase]; simp)
        have b7 : a.eval (.tmp 7) = .pointer (some ⟨w1.heap.size + 1, 0, none⟩) := hJ.base (7, _) (by rw [hbase]; simp)
        have hsz := hJ.size
        obtain ⟨ts, df⟩ := a
        obtain ⟨f0, hf0⟩ := arr47 ts hsz
        subst hf0
        simp [Act.eval, Array.getD_eq_getD_getElem?] at b4 b5 b7
        simp only [b4, b5, b7]
        clear s1 s2 s3 s4 s5' s6 s7 s8 s9 hJ hb5 hy5 hall h0' hw'
        by_cases he0 : er = 0
        · have q0 : (er != 0) = false := by simp [he0]
          gi_wp2
          obtain ⟨s1, s2, s3, s4, s5', s6, s7, s8, s9⟩ := HS.out
          have hlm := HLN.out (by rw [← HER.out]; exact he0)
          rw [s8.1] at hlm
          refine ⟨s1, s2, ⟨s3, s4, s5', by rw [← he0]; exact s6, ⟨A5, n5, c5, s7, hlm, by rw [HNX.out, ← HER.out]; exact he0, by rw [HNX.out]; exact s8⟩, s9, Nat.le_trans HI.out.size s1.size⟩⟩
        · have q0 : (er != 0) = true := by simpa using he0
          gi_wp2
          have HEX : Hid (fin (bwS F l bs l.length) = ([], er)) := by
            show _ = _
            have hst := bwS_stay (G := F) (l := l) (bs := bs) (k := k + 1) (by rw [HNX.out, ← HER.out]; exact he0) l.length (by omega)
            rw [HNX.out, ← HER.out] at hst
            unfold fin
            rw [hst, if_neg he0]
          refine wpIn_region_orders [[0, 1, 2], [1, 0, 2]] (by kernel_rfl) (by kernel_rfl) ?_
          intro W0 hW0
          obtain ⟨s1, s2, s3, s4, s5', s6, s7, s8, s9⟩ := HS.out
          have x4 : rowV W0 w.heap.size 23 #[.slice none 0 0] := by rw [hW0]; exact s4
          have x5 : rowV W0 (w.heap.size + 1) 26 #[.int .i64 0] := by rw [hW0]; exact s5'
          have x6 : rowV W0 (w1.heap.size + 1) 26 #[.int .i64 er] := by rw [hW0]; exact s6
          have x9 : Below w.heap.size w W0 := by rw [hW0]; exact s9.trans ((Drawn.drewN _ 1).below _)
          have x1 : KeepsFrom (w5.heap.size + 2) W W0 := by rw [hW0]; exact s1.trans ⟨Nat.le_refl _, fun j o _ hj _ => hj⟩
          obtain ⟨W2, hW2⟩ : ∃ W2, W2 = (W0.setCell ⟨w.heap.size, 0, none⟩ (.slice none 0 0)).setCell ⟨w.heap.size + 1, 0, none⟩ (.int .i64 er) := ⟨_, rfl⟩
          obtain ⟨u1, u2, u3, u4⟩ := res_laid x4 x5 x9 hW2
          have HEND : Hid (KeepsFrom (w5.heap.size + 2) W W2 ∧ BwE F l bs w W2) := ⟨x1.trans ⟨u4.size, fun j o hj ho hc => u4.same j o (by omega) ho hc⟩, ⟨er, he0, HEX.out, u2⟩, u1, u3⟩
          have z7 := x6.cell (j := 0) rfl
          have z4 := x4.cell (j := 0) rfl
          have z5 := x5.cell (j := 0) rfl
          have g4 := x4.frozen 0
          have g5 := x5.frozen 0
          have y7 : (W0.setCell ⟨w.heap.size, 0, none⟩ (.slice none 0 0)).cell? ⟨w1.heap.size + 1, 0, none⟩ = some (.int .i64 er) := (Bwt.cell_setCell_far (p := ⟨w.heap.size, 0, none⟩) (q := ⟨w1.heap.size + 1, 0, none⟩) _ (by show w1.heap.size + 1 ≠ w.heap.size; omega)).trans z7
          have y5 : (W0.setCell ⟨w.heap.size, 0, none⟩ (.slice none 0 0)).cell? ⟨w.heap.size + 1, 0, none⟩ = some (.int .i64 0) := (Bwt.cell_setCell_far (p := ⟨w.heap.size, 0, none⟩) (q := ⟨w.heap.size + 1, 0, none⟩) _ (by show w.heap.size + 1 ≠ w.heap.size; omega)).trans z5
          have v5 : (W0.setCell ⟨w.heap.size, 0, none⟩ (.slice none 0 0)).frozen? ⟨w.heap.size + 1, 0, none⟩ = false := (Bwt.frozen_setCell_far (p := ⟨w.heap.size, 0, none⟩) (q := ⟨w.heap.size + 1, 0, none⟩) _ (by show w.heap.size + 1 ≠ w.heap.size; omega)).trans g5
          have HW2 := Lib.hid hW2
          clear hW0 hW2 s1 s2 s3 s4 s5' s6 s7 s8 s9 u1 u2 u3 u4 x1 x9 x4 x5 x6 HS HEX q7 q4 q5 p4 p5
          refine List.forall_mem_cons.2 ⟨?_, List.forall_mem_cons.2 ⟨?_, fun _ h => nomatch h⟩⟩
          all_goals
            simp only [List.filterMap_cons, List.filterMap_nil, List.getElem?_toArray, List.getElem?_cons_zero, List.getElem?_cons_succ]
            change wpListIn _ _ _ _ _ [_, _, _] _ _
            gi_wp2
            rw [← HW2.out]
            exact ⟨by rw [h7]; exact HEND.out.1, rfl, HEND.out.2⟩
      case step =>
        rintro i o listed a w' ho hun hd hsz ⟨x, hJ, hC⟩
        have hsz' : listed.size = 17 := hsz
        have hi17 : i < 17 := (List.getElem?_eq_some_iff.1 ho).1
        have b6 : a.eval (.tmp 6) = .pointer (some ⟨w1.heap.size, 0, none⟩) := hJ.base (6, _) (by rw [hbase]; simp)
        have b7 : a.eval (.tmp 7) = .pointer (some ⟨w1.heap.size + 1, 0, none⟩) := hJ.base (7, _) (by rw [hbase]; simp)
        have b8 : a.eval (.tmp 8) = .pointer (some ⟨w3.heap.size, 0, none⟩) := hJ.base (8, _) (by rw [hbase]; simp)
        have b9 : a.eval (.tmp 9) = .pointer (some ⟨w5.heap.size, 0, none⟩) := hJ.base (9, _) (by rw [hbase]; simp)
        have b10 : a.eval (.tmp 10) = .int .i64 (jj : Int) := hJ.base (10, _) (by rw [hbase]; simp)
        have b11 : a.eval (.tmp 11) = .pointer (some ⟨d, 0, none⟩) := hJ.base (11, _) (by rw [hbase]; simp)
        simp only [Act.eval, Array.getD_eq_getD_getElem?] at b6 b7 b8 b9 b10 b11
        have early : i ≤ 11 → w' = W.drew := fun h => by
          unfold rC at hC
          rw [if_neg (by rw [hJ.cl.off h hun]; decide)] at hC
          exact hC
        match i, hi17 with
        | 0, _ =>
          injection (show some _ = some o from ho) with ho'
          subst ho'
          refine ⟨by simp [Region.wanted], Bwt.wp_value (v := V x 0) ?_ ⟨x, hJ.put (i := 0) (by omega) (by omega) hb28 (fun j hj => nomatch hj), hC.set (by omega) (by omega) (by omega)⟩⟩
          simp [go_sem, hV, vR, b11]
        | 1, _ =>
          injection (show some _ = some o from ho) with ho'
          subst ho'
          have hw1 := early (by decide)
          have e0 : a.eval (.tmp 29) = V x 0 := hJ.got 0 (by omega) (hd ⟨0, .data⟩ (by simp) rfl)
          simp only [hV, vR, Act.eval, Array.getD_eq_getD_getElem?] at e0
          refine ⟨by simp [Region.wanted], Bwt.wp_value (v := V x 1) ?_ ⟨x, hJ.put (i := 1) (by omega) (by omega) hb28 (dep1 (hd ⟨0, .data⟩ (by simp) rfl)), hC.set (by omega) (by omega) (by omega)⟩⟩
          simp [go_sem, hV, vR, e0, hw1, cd0]
        | 2, _ =>
          injection (show some _ = some o from ho) with ho'
          subst ho'
          have e1 : a.eval (.tmp 30) = V x 1 := hJ.got 1 (by omega) (hd ⟨1, .data⟩ (by simp) rfl)
          simp only [hV, vR, Act.eval, Array.getD_eq_getD_getElem?] at e1
          refine ⟨by simp [Region.wanted], Bwt.wp_value (v := V x 2) ?_ ⟨x, hJ.put (i := 2) (by omega) (by omega) hb28 (dep1 (hd ⟨1, .data⟩ (by simp) rfl)), hC.set (by omega) (by omega) (by omega)⟩⟩
          simp [go_sem, hV, vR, e1, b8, hq]
          intro h
          omega
        | 3, _ =>
          injection (show some _ = some o from ho) with ho'
          subst ho'
          have e2 : a.eval (.tmp 31) = V x 2 := hJ.got 2 (by omega) (hd ⟨2, .data⟩ (by simp) rfl)
          simp only [hV, vR, Act.eval, Array.getD_eq_getD_getElem?] at e2
          refine ⟨by simp [Region.wanted], Bwt.wp_value (v := V x 3) ?_ ⟨x, hJ.put (i := 3) (by omega) (by omega) hb28 (dep1 (hd ⟨2, .data⟩ (by simp) rfl)), hC.set (by omega) (by omega) (by omega)⟩⟩
          simp [go_sem, hV, vR, e2]
        | 4, _ =>
          injection (show some _ = some o from ho) with ho'
          subst ho'
          have hw1 := early (by decide)
          have e3 : a.eval (.tmp 32) = V x 3 := hJ.got 3 (by omega) (hd ⟨3, .data⟩ (by simp) rfl)
          simp only [hV, vR, Act.eval, Array.getD_eq_getD_getElem?] at e3
          refine ⟨by simp [Region.wanted], Bwt.wp_value (v := V x 4) ?_ ⟨x, hJ.put (i := 4) (by omega) (by omega) hb28 (dep1 (hd ⟨3, .data⟩ (by simp) rfl)), hC.set (by omega) (by omega) (by omega)⟩⟩
          simp [go_sem, hV, vR, e3, hw1, cf]
        | 5, _ =>
          injection (show some _ = some o from ho) with ho'
          subst ho'
          have hw1 := early (by decide)
          refine ⟨by simp [Region.wanted], Bwt.wp_value (v := V x 5) ?_ ⟨x, hJ.put (i := 5) (by omega) (by omega) hb28 (fun j hj => nomatch hj), hC.set (by omega) (by omega) (by omega)⟩⟩
          simp [go_sem, hV, vR, b9, hw1, c9]
        | 6, _ =>
          injection (show some _ = some o from ho) with ho'
          subst ho'
          have hw1 := early (by decide)
          refine ⟨by simp [Region.wanted], Bwt.wp_value (v := V x 6) ?_ ⟨x, hJ.put (i := 6) (by omega) (by omega) hb28 (fun j hj => nomatch hj), hC.set (by omega) (by omega) (by omega)⟩⟩
          simp [go_sem, hV, vR, b6, hw1, c6]
        | 7, _ =>
          injection (show some _ = some o from ho) with ho'
          subst ho'
          refine ⟨by simp [Region.wanted], Bwt.wp_value (v := V x 7) ?_ ⟨x, hJ.put (i := 7) (by omega) (by omega) hb28 (fun j hj => nomatch hj), hC.set (by omega) (by omega) (by omega)⟩⟩
          simp [go_sem, hV, vR, b10]
        | 8, _ =>
          injection (show some _ = some o from ho) with ho'
          subst ho'
          have hjn1 : (jj : Int) < (n : Int) + 1 := by omega
          have hjn2 : jj < n + 1 := by omega
          have e6 : a.eval (.tmp 35) = V x 6 := hJ.got 6 (by omega) (hd ⟨6, .data⟩ (by simp) rfl)
          simp only [hV, vR, Act.eval, Array.getD_eq_getD_getElem?] at e6
          have e7 : a.eval (.tmp 36) = V x 7 := hJ.got 7 (by omega) (hd ⟨7, .data⟩ (by simp) rfl)
          simp only [hV, vR, Act.eval, Array.getD_eq_getD_getElem?] at e7
          refine ⟨by simp [Region.wanted], Bwt.wp_value (v := V x 8) ?_ ⟨x, hJ.put (i := 8) (by omega) (by omega) hb28 (dep2 (hd ⟨6, .data⟩ (by simp) rfl) (hd ⟨7, .data⟩ (by simp) rfl)), hC.set (by omega) (by omega) (by omega)⟩⟩
          simp [go_sem, hV, vR, e6, e7, hjn1, hjn2]
        | 9, _ =>
          injection (show some _ = some o from ho) with ho'
          subst ho'
          have e8 : a.eval (.tmp 37) = V x 8 := hJ.got 8 (by omega) (hd ⟨8, .data⟩ (by simp) rfl)
          simp only [hV, vR, Act.eval, Array.getD_eq_getD_getElem?] at e8
          refine ⟨by simp [Region.wanted], Bwt.wp_value (v := V x 9) ?_ ⟨x, hJ.put (i := 9) (by omega) (by omega) hb28 (dep1 (hd ⟨8, .data⟩ (by simp) rfl)), hC.set (by omega) (by omega) (by omega)⟩⟩
          simp [go_sem, hV, vR, e8]
        | 10, _ =>
          injection (show some _ = some o from ho) with ho'
          subst ho'
          have hw1 := early (by decide)
          have e9 : a.eval (.tmp 38) = V x 9 := hJ.got 9 (by omega) (hd ⟨9, .data⟩ (by simp) rfl)
          simp only [hV, vR, Act.eval, Array.getD_eq_getD_getElem?] at e9
          refine ⟨by simp [Region.wanted], Bwt.wp_value (v := V x 10) ?_ ⟨x, hJ.put (i := 10) (by omega) (by omega) hb28 (dep1 (hd ⟨9, .data⟩ (by simp) rfl)), hC.set (by omega) (by omega) (by omega)⟩⟩
          simp [go_sem, hV, vR, e9, hw1, hta]
        | 11, _ =>
          injection (show some _ = some o from ho) with ho'
          subst ho'
          have hw1 := early (by decide)
          have e4 : a.eval (.tmp 33) = V x 4 := hJ.got 4 (by omega) (hd ⟨4, .data⟩ (by simp) rfl)
          simp only [hV, vR, Act.eval, Array.getD_eq_getD_getElem?] at e4
          have e5 : a.eval (.tmp 34) = V x 5 := hJ.got 5 (by omega) (hd ⟨5, .data⟩ (by simp) rfl)
          simp only [hV, vR, Act.eval, Array.getD_eq_getD_getElem?] at e5
          have e10 : a.eval (.tmp 39) = V x 10 := hJ.got 10 (by omega) (hd ⟨10, .data⟩ (by simp) rfl)
          simp only [hV, vR, Act.eval, Array.getD_eq_getD_getElem?] at e10
          subst hw1
          refine ⟨by simp [Region.wanted], ?_⟩
          have hc := HCALL.out
          unfold Oper.wp
          simp [go_sem, e4, e5, e10, HEG]
          refine hc.mono ?_
          rintro e w'' ⟨v, rfl, x', rfl, hx'⟩
          clear hc
          have off : ∀ j, 11 ≤ j ∧ j ≤ 16 → listed.getD j false = false := fun j hj => by
            cases hc : listed.getD j false with
            | false => rfl
            | true => have := hJ.cl.tail hj hc; rw [hun] at this; cases this
          have hJ' : RI base (V x') listed a := hJ.re fun j hj hl => by
            match j, hj with
            | 0, _ | 1, _ | 2, _ | 3, _ | 4, _ | 5, _ | 6, _ | 7, _ | 8, _ | 9, _ | 10, _ => rw [hV]; rfl
            | j + 11, hj => rw [off (j + 11) (by omega)] at hl; cases hl
          have hp := hJ'.put (i := 11) (by omega) (by omega) hb28 (dep3 (hd ⟨4, .data⟩ (by simp) rfl) (hd ⟨5, .data⟩ (by simp) rfl) (hd ⟨10, .data⟩ (by simp) rfl))
          rw [hV] at hp
          refine ⟨x', by rw [hV]; exact hp, ?_⟩
          show rC _ _ _ _ _ _ _ _
          unfold rC
          rw [if_pos (by rw [Bwt.getD_set' _ _ _ (by omega), if_pos rfl])]
          refine ⟨w'', hx', ?_⟩
          rw [if_neg (by rw [Bwt.getD_set' _ _ _ (by omega), if_neg (by decide), off 16 (by omega)]; decide), if_neg (by rw [Bwt.getD_set' _ _ _ (by omega), if_neg (by decide), off 15 (by omega)]; decide)]
        | 12, _ =>
          injection (show some _ = some o from ho) with ho'
          subst ho'
          have e11 : a.eval (.tmp 40) = V x 11 := hJ.got 11 (by omega) (hd ⟨11, .data⟩ (by simp) rfl)
          simp only [hV, vR, Act.eval, Array.getD_eq_getD_getElem?] at e11
          refine ⟨by simp [Region.wanted], Bwt.wp_value (v := V x 12) ?_ ⟨x, hJ.put (i := 12) (by omega) (by omega) hb28 (dep1 (hd ⟨11, .data⟩ (by simp) rfl)), hC.set (by omega) (by omega) (by omega)⟩⟩
          simp [go_sem, hV, vR, e11]
        | 13, _ =>
          injection (show some _ = some o from ho) with ho'
          subst ho'
          have e12 : a.eval (.tmp 28) = V x 12 := hJ.got 12 (by omega) (hd ⟨12, .data⟩ (by simp) rfl)
          simp only [hV, vR, Act.eval, Array.getD_eq_getD_getElem?] at e12
          refine ⟨by simp [Region.wanted], Bwt.wp_value (v := V x 13) ?_ ⟨x, hJ.put (i := 13) (by omega) (by omega) hb28 (dep1 (hd ⟨12, .data⟩ (by simp) rfl)), hC.set (by omega) (by omega) (by omega)⟩⟩
          simp [go_sem, hV, vR, e12]
        | 14, _ =>
          injection (show some _ = some o from ho) with ho'
          subst ho'
          have e12 : a.eval (.tmp 28) = V x 12 := hJ.got 12 (by omega) (hd ⟨12, .data⟩ (by simp) rfl)
          simp only [hV, vR, Act.eval, Array.getD_eq_getD_getElem?] at e12
          refine ⟨by simp [Region.wanted], Bwt.wp_value (v := V x 14) ?_ ⟨x, hJ.put (i := 14) (by omega) (by omega) hb28 (dep1 (hd ⟨12, .data⟩ (by simp) rfl)), hC.set (by omega) (by omega) (by omega)⟩⟩
          simp [go_sem, hV, vR, e12]
        | 15, _ =>
          injection (show some _ = some o from ho) with ho'
          subst ho'
          have l13 := hd ⟨13, .data⟩ (by simp) rfl
          have e13 : a.eval (.tmp 41) = V x 13 := hJ.got 13 (by omega) (l13)
          simp only [hV, vR, Act.eval, Array.getD_eq_getD_getElem?] at e13
          have l11 := hJ.cl.tail (j := 13) (by omega) l13
          have l16 : listed.getD 16 false = false := by
            cases hc : listed.getD 16 false with
            | false => rfl
            | true => have := hJ.cl 16 hc 15 (by decide); rw [hun] at this; cases this
          unfold rC at hC
          rw [if_pos l11] at hC
          obtain ⟨W5, hR5, hw5⟩ := hC
          rw [if_neg (by rw [l16]; decide), if_neg (by rw [hun]; decide)] at hw5
          subst hw5
          obtain ⟨g1, g2, -, -⟩ := F9.out w' (by obtain ⟨_, _, _, _, _, h⟩ := hR5; exact h)
          refine ⟨by simp [Region.wanted], Bwt.wp_store (w' := w'.setCell ⟨w5.heap.size, 0, none⟩ x) ?_ ⟨x, hJ.none (i := 15) (by omega) (by omega) (dep1 (hd ⟨13, .data⟩ (by simp) rfl)), ?_⟩⟩
          · obtain ⟨A5, n5, c5, rfl, -, -⟩ := hR5
            simp [go_sem, e13, b9, g1, g2]
          · show rC _ _ _ _ _ _ _ _
            unfold rC
            rw [if_pos (by rw [Bwt.getD_set' _ _ _ (by omega), l11]; split <;> rfl)]
            refine ⟨w', hR5, ?_⟩
            rw [if_neg (by rw [Bwt.getD_set' _ _ _ (by omega), if_neg (by decide), l16]; decide), if_pos (by rw [Bwt.getD_set' _ _ _ (by omega), if_pos rfl])]
        | 16, _ =>
          injection (show some _ = some o from ho) with ho'
          subst ho'
          have l14 := hd ⟨14, .data⟩ (by simp) rfl
          have l15 := hd ⟨15, .chain⟩ (by simp) rfl
          have e14 : a.eval (.tmp 42) = V x 14 := hJ.got 14 (by omega) (l14)
          simp only [hV, vR, Act.eval, Array.getD_eq_getD_getElem?] at e14
          have l11 := hJ.cl.tail (j := 14) (by omega) l14
          unfold rC at hC
          rw [if_pos l11] at hC
          obtain ⟨W5, hR5, hw5⟩ := hC
          rw [if_neg (by rw [hun]; decide), if_pos l15] at hw5
          obtain ⟨-, -, g3, g4⟩ := F9.out W5 (by obtain ⟨_, _, _, _, _, h⟩ := hR5; exact h)
          have hne : w1.heap.size + 1 ≠ w5.heap.size := by omega
          have g5 : (W5.setCell ⟨w5.heap.size, 0, none⟩ x).cell? ⟨w1.heap.size + 1, 0, none⟩ = some (.int .i64 0) := (Bwt.cell_setCell_far (p := ⟨w5.heap.size, 0, none⟩) (q := ⟨w1.heap.size + 1, 0, none⟩) x hne).trans g3
          have g6 : (W5.setCell ⟨w5.heap.size, 0, none⟩ x).frozen? ⟨w1.heap.size + 1, 0, none⟩ = false := (Bwt.frozen_setCell_far (p := ⟨w5.heap.size, 0, none⟩) (q := ⟨w1.heap.size + 1, 0, none⟩) x hne).trans g4
          obtain ⟨W6, hW6⟩ : ∃ W6, W6 = W5.setCell ⟨w5.heap.size, 0, none⟩ x := ⟨_, rfl⟩
          rw [← hW6] at g5 g6 hw5
          subst hw5
          refine ⟨by simp [Region.wanted], Bwt.wp_store (w' := w'.setCell ⟨w1.heap.size + 1, 0, none⟩ (.int .i64 er)) ?_ ⟨x, hJ.none (i := 16) (by omega) (by omega) (dep2 (hd ⟨14, .data⟩ (by simp) rfl) (hd ⟨15, .chain⟩ (by simp) rfl)), ?_⟩⟩
          · simp [go_sem, e14, b7, g5, g6]
          · show rC _ _ _ _ _ _ _ _
            unfold rC
            rw [if_pos (by rw [Bwt.getD_set' _ _ _ (by omega), l11]; split <;> rfl)]
            refine ⟨W5, hR5, ?_⟩
            rw [if_pos (by rw [Bwt.getD_set' _ _ _ (by omega), if_pos rfl]), hW6]
  ·
    simp only [if_neg he] at HC ⊢
    have q0 : (begE l n' == 0) = false := by simpa using he
    obtain ⟨er, her⟩ : ∃ er, er = begE l n' := ⟨_, rfl⟩
    rw [← her] at HC q0 ⊢
    replace HC := Lib.hid HC
    clear her he hF hx hy
    refine calls_of_marks Tryz.func9 rfl ?_
    simp only [Tryz.ntmps9, List.size_toArray, List.length_cons, List.length_nil, Nat.reduceAdd, Nat.reduceSub, Array.replicate_succ, Array.replicate_zero, List.push_toArray, List.append_toArray, List.nil_append, List.cons_append]
    go_wp2_with fail
    rw [← HW0.out]
    refine HC.out.mono ?_
    rintro e w1 ⟨⟨At, nt, ct, rfl⟩, hb1⟩
    have HB1 := Lib.hid hb1
    have z2 := HR0.out.2.2.2
    have x4 : rowV w1 w.heap.size 23 #[.slice none 0 0] := HR0.out.1.below hb1 (by omega)
    have x5 : rowV w1 (w.heap.size + 1) 26 #[.int .i64 0] := HR0.out.2.1.below hb1 (by omega)
    have x9 : Below w.heap.size w w1 := HR0.out.2.2.1.trans (hb1.mono (by omega))
    clear hb1
    obtain ⟨w2, hw2⟩ : ∃ w2, w2 = (w1.alloc (.cells #[.slice At nt ct] 39)).alloc (.cells #[.int .i64 er] 26) := ⟨_, rfl⟩
    obtain ⟨-, k7, hb12, -⟩ := twoB w1 (.cells #[.slice At nt ct] 39) (.cells #[.int .i64 er] 26)
    rw [← hw2] at k7 hb12
    have hz1 := HB1.out.size
    have y4 := x4.below hb12 x4.lt
    have y5 := x5.below hb12 x5.lt
    have y9 : Below w.heap.size w w2 := x9.trans (hb12.mono x9.size)
    have y6 : rowV w2 (w1.heap.size + 1) 26 #[.int .i64 er] := k7
    have HW2 := Lib.hid hw2
    have HY := Lib.hid (And.intro y4 (And.intro y5 (And.intro y6 y9)))
    have z7 := y6.cell (j := 0) rfl
    have z4 := y4.cell (j := 0) rfl
    have z5 := y5.cell (j := 0) rfl
    have g4 := y4.frozen 0
    have g5 := y5.frozen 0
    have g7 := y6.frozen 0
    clear hw2 k7 hb12 x4 x5 x9 y4 y5 y6 y9
    go_wp2_with fail
    rw [← HW2.out]
    obtain ⟨W2, hW2⟩ : ∃ W2, W2 = (w2.setCell ⟨w.heap.size, 0, none⟩ (.slice none 0 0)).setCell ⟨w.heap.size + 1, 0, none⟩ (.int .i64 er) := ⟨_, rfl⟩
    obtain ⟨u1, u2, u3, -⟩ := res_laid HY.out.1 HY.out.2.1 HY.out.2.2.2 hW2
    have v1 := u1.cell (j := 0) rfl
    have v2 := u2.cell (j := 0) rfl
    have HV := Lib.hid (And.intro v1 (And.intro v2 u3))
    have HWW := Lib.hid hW2
    clear hW2 u1 u2 u3 v1 v2
    go_region
    all_goals
      rw [← HWW.out]
      go_wp2_with fail
      refine .inl ⟨rfl, .tuple #[.slice none 0 0, .int .i64 er], ?_, RetBytes.err rfl (HV.out.2.2.trans ((Drawn.drewN _ 1).below _))⟩
      have v1 : W2.drew.cell? ⟨w.heap.size, 0, none⟩ = some (.slice none 0 0) := HV.out.1
      have v2 : W2.drew.cell? ⟨w.heap.size + 1, 0, none⟩ = some (.int .i64 er) := HV.out.2.1
      simp [results, Tryz.results9, go_sem, v1, v2]
end Go.Proofs.YtohadkmaemmfgaaGreatDoor
namespace Go.Proofs.YtohadkmaemmfgaaGreatDoor
open Go.RowKit Go.Proofs
set_option linter.unusedVariables false
set_option linter.unusedSimpArgs false
theorem inverseAll_any (A : Option Addr) (n c : Nat) (l : List Stg) (A' : Option Addr) (n' c' : Nat) (bs : List UInt8) (w : World) (hx : Stgs w A n c l) (hn : n ≤ 1000000000) (hy : Bytes w A' n' c' bs) (hn' : n' ≤ 1000000) :
    Calls Tryz.prog 9 #[.slice A n c, .slice A' n' c'] w (RetBytes w (bwP trI l bs).1 (bwP trI l bs).2) :=
  inverse_any trI A n c l A' n' c' bs w hx hn hy hn' fun h s hs => by
    obtain ⟨h0, h1, -, -⟩ := (typE_ok h).2.2.2 s hs
    exact bwAll _ _ (by omega)
section
variable (A : Option Addr) (n c : Nat) (l : List Stg) (B : Option Addr) (nb cb : Nat) (bs : List UInt8) (w : World)
end
end Go.Proofs.YtohadkmaemmfgaaGreatDoor

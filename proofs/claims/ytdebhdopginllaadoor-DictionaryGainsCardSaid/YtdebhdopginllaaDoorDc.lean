/- Rows of strings; SameWords, place, Gain, IsWord, Few of the reference. -/
import Derived.Test.YtdebhdopginllaaDoorDa
import Derived.Lib.ConvBytes
namespace Go.Proofs.YtdebhdopginllaaDoor
open Go.RowKit Go.Proofs
set_option linter.unusedVariables false

def gs (ss : List (List UInt8)) (k : Nat) : List UInt8 := ss.getD k []
def Strs (w : World) (A : Option Addr) (n c : Nat) (ss : List (List UInt8)) : Prop := ss.length = n ∧ n ≤ c ∧ Cells w A n (fun i => .string (strB (gs ss i)))
section
variable {w w' : World} {A : Option Addr} {n c k : Nat} {ss : List (List UInt8)}
theorem Strs.get (h : Strs w A n c ss) (hk : k < n) : ∃ b off, A = some ⟨b, off, none⟩ ∧ b < w.heap.size ∧ ∀ i, i < n → w.cell? ⟨b, off + i, none⟩ = some (.string (strB (gs ss i))) := h.2.2 (by omega)
theorem Strs.below (h : Strs w A n c ss) (hb : Below w.heap.size w w') : Strs w' A n c ss := ⟨h.1, h.2.1, h.2.2.below hb⟩
theorem Strs.drewN (h : Strs w A n c ss) (q : Nat) : Strs (w.drewN q) A n c ss := h
theorem gs_get (h : k < ss.length) : gs ss k = ss[k] := by simp [gs, List.getD, h]
theorem gs_ext {xs ys : List (List UInt8)} (hl : xs.length = ys.length) (h : ∀ i, i < xs.length → gs xs i = gs ys i) : xs = ys := by
  apply List.ext_getElem hl
  intro i h1 h2
  have := h i h1
  rwa [gs_get h1, gs_get h2] at this
end
theorem strB_size (x : List UInt8) : (strB x).size = x.length := by simp [strB, ByteArray.size]

/-- the place of a string in a list, or -1. -/
def placeL (ss : List (List UInt8)) (s : List UInt8) : Int := if ss.idxOf s < ss.length then (ss.idxOf s : Int) else -1
theorem idxOf_at {ss : List (List UInt8)} {s : List UInt8} {k : Nat} (hk : k < ss.length) (h1 : ∀ j, j < k → gs ss j ≠ s) (h2 : gs ss k = s) : ss.idxOf s = k := by
  induction ss generalizing k with
  | nil => simp at hk
  | cons x r ih =>
    cases k with
    | zero => have : x = s := h2; subst this; simp
    | succ k =>
      have hx : x ≠ s := h1 0 (by omega)
      rw [List.idxOf_cons, ih (k := k) (by simpa using hk) (fun j hj => h1 (j + 1) (by omega)) h2, beq_eq_false_iff_ne.2 hx]
      rfl
theorem placeL_at {ss : List (List UInt8)} {s : List UInt8} {k : Nat} (hk : k < ss.length) (h1 : ∀ j, j < k → gs ss j ≠ s) (h2 : gs ss k = s) : placeL ss s = k := by
  unfold placeL; rw [idxOf_at hk h1 h2, if_pos hk]
theorem placeL_none {ss : List (List UInt8)} {s : List UInt8} (h : ∀ j, j < ss.length → gs ss j ≠ s) : placeL ss s = -1 := by
  unfold placeL
  rw [if_neg]
  rw [List.idxOf_lt_length_iff]
  intro hm
  obtain ⟨i, hi, e⟩ := List.mem_iff_getElem.1 hm
  exact h i hi (by rw [gs_get hi]; exact e)

/-- the gain of a word that comes k times. -/
def gainL (k len : Nat) : Int := (k : Int) * ((len : Int) - 1) - ((len : Int) + 1)
def cntS (ss : List (List UInt8)) (s : List UInt8) : Nat → Nat
  | 0 => 0
  | k + 1 => cntS ss s k + if gs ss k = s then 1 else 0
theorem cntS_le (ss : List (List UInt8)) (s : List UInt8) : ∀ k, cntS ss s k ≤ k
  | 0 => Nat.le_refl _
  | k + 1 => by rw [cntS]; have := cntS_le ss s k; split <;> omega

end Go.Proofs.YtdebhdopginllaaDoor

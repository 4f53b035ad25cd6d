/- The plain functions of the dictionary: letters, runs of letters, the pieces of a byte string. No program in sight. -/
import Derived.Test.YtdebhdopginllaaDoorKit
namespace Go.Proofs.YtdebhdopginllaaDoor
open Go.RowKit Go.Proofs
set_option linter.unusedVariables false

def letterI (x : Int) : Bool := if 97 ≤ x then (if x ≤ 122 then true else (if 65 ≤ x then decide (x ≤ 90) else false)) else (if 65 ≤ x then decide (x ≤ 90) else false)
def isL (b : UInt8) : Bool := letterI (b.toNat : Int)
/-- how many letters stand at the head. -/
def runL : List UInt8 → Nat
  | [] => 0
  | b :: r => if isL b then runL r + 1 else 0
theorem runL_le : ∀ bs : List UInt8, runL bs ≤ bs.length
  | [] => Nat.le_refl _
  | b :: r => by rw [runL]; have := runL_le r; split <;> simp <;> omega
theorem runL_letter : ∀ {bs : List UInt8} {k : Nat}, k < runL bs → letterI (gb bs k) = true
  | [], k, h => by simp [runL] at h
  | b :: r, k, h => by
    rw [runL] at h
    split at h
    · rename_i hb
      cases k with
      | zero => exact hb
      | succ k => exact runL_letter (bs := r) (k := k) (by omega)
    · omega
theorem runL_stop : ∀ {bs : List UInt8}, runL bs < bs.length → letterI (gb bs (runL bs)) = false
  | [], h => by simp at h
  | b :: r, h => by
    rw [runL] at h ⊢
    by_cases hb : isL b = true
    · rw [if_pos hb] at h ⊢
      have := runL_stop (bs := r) (by simp at h; omega)
      exact this
    · rw [if_neg hb]
      exact Bool.eq_false_iff.2 hb
theorem runL_eq {bs : List UInt8} {k : Nat} (h1 : ∀ i, i < k → letterI (gb bs i) = true) (h2 : k ≤ bs.length) (h3 : k < bs.length → letterI (gb bs k) = false) : runL bs = k := by
  rcases Nat.lt_trichotomy (runL bs) k with h | h | h
  · have := runL_stop (bs := bs) (by omega)
    rw [h1 _ h] at this
    cases this
  · exact h
  · have := runL_letter h
    rw [h3 (by have := runL_le bs; omega)] at this
    cases this
/-- the length of the first piece. -/
def plen (bs : List UInt8) : Nat := max (runL bs) 1
theorem plen_pos (bs : List UInt8) : 1 ≤ plen bs := by unfold plen; omega
theorem plen_le {bs : List UInt8} (h : bs ≠ []) : plen bs ≤ bs.length := by
  have := runL_le bs
  have : 0 < bs.length := List.length_pos_iff.2 h
  unfold plen; omega
/-- the pieces, by fuel. -/
def piecesF : Nat → List UInt8 → List (List UInt8)
  | 0, _ => []
  | f + 1, bs => if bs = [] then [] else bs.take (plen bs) :: piecesF f (bs.drop (plen bs))
def piecesL (bs : List UInt8) : List (List UInt8) := piecesF bs.length bs
theorem piecesF_fuel : ∀ {f g : Nat} {bs : List UInt8}, bs.length ≤ f → bs.length ≤ g → piecesF f bs = piecesF g bs
  | 0, 0, _, _, _ => rfl
  | 0, g + 1, bs, h, _ => by
    have : bs = [] := List.length_eq_zero_iff.1 (by omega)
    subst this; simp [piecesF]
  | f + 1, 0, bs, _, h => by
    have : bs = [] := List.length_eq_zero_iff.1 (by omega)
    subst this; simp [piecesF]
  | f + 1, g + 1, bs, h1, h2 => by
    rw [piecesF, piecesF]
    by_cases h : bs = []
    · rw [if_pos h, if_pos h]
    · rw [if_neg h, if_neg h]
      have := plen_pos bs
      have hl : 0 < bs.length := List.length_pos_iff.2 h
      rw [piecesF_fuel (f := f) (g := g) (by simp; omega) (by simp; omega)]
theorem piecesL_nil : piecesL [] = [] := rfl
theorem piecesL_cons {bs : List UInt8} (h : bs ≠ []) : piecesL bs = bs.take (plen bs) :: piecesL (bs.drop (plen bs)) := by
  have hl : 0 < bs.length := List.length_pos_iff.2 h
  have := plen_pos bs
  unfold piecesL
  obtain ⟨m, hm⟩ : ∃ m, bs.length = m + 1 := ⟨bs.length - 1, by omega⟩
  rw [hm, piecesF, if_neg h]
  congr 1
  exact piecesF_fuel (by simp; omega) (Nat.le_refl _)
theorem piecesL_flat : ∀ (m : Nat) (bs : List UInt8), bs.length ≤ m → (piecesL bs).flatten = bs
  | 0, bs, h => by
    have : bs = [] := List.length_eq_zero_iff.1 (by omega)
    subst this; rfl
  | m + 1, bs, h => by
    by_cases hb : bs = []
    · subst hb; rfl
    · have := plen_pos bs
      have hl : 0 < bs.length := List.length_pos_iff.2 hb
      rw [piecesL_cons hb, List.flatten_cons, piecesL_flat m _ (by simp; omega), List.take_append_drop]
/-- where piece k begins. -/
def stP (bs : List UInt8) : Nat → Nat
  | 0 => 0
  | k + 1 => stP bs k + plen (bs.drop (stP bs k))
/-- piece k. -/
def pcP (bs : List UInt8) (k : Nat) : List UInt8 := (bs.drop (stP bs k)).take (plen (bs.drop (stP bs k)))
def wdP (bs : List UInt8) (k : Nat) : Bool := decide (0 < runL (bs.drop (stP bs k)))
theorem pieces_at {bs : List UInt8} : ∀ {k : Nat}, k ≤ (piecesL bs).length → stP bs k ≤ bs.length ∧ piecesL (bs.drop (stP bs k)) = (piecesL bs).drop k
  | 0, _ => by simp [stP]
  | k + 1, h => by
    obtain ⟨h1, h2⟩ := pieces_at (bs := bs) (k := k) (by omega)
    have hne : bs.drop (stP bs k) ≠ [] := fun e => by
      rw [e, piecesL_nil] at h2
      have := congrArg List.length h2
      simp at this
      omega
    have hp := plen_le hne
    rw [List.length_drop] at hp
    refine ⟨by rw [stP]; omega, ?_⟩
    rw [piecesL_cons hne, List.drop_drop] at h2
    rw [stP]
    have := congrArg List.tail h2
    rw [List.tail_cons, List.tail_drop] at this
    exact this
theorem pieces_ne {bs : List UInt8} {k : Nat} (h : k < (piecesL bs).length) : bs.drop (stP bs k) ≠ [] := fun e => by
  have h2 := (pieces_at (bs := bs) (k := k) (by omega)).2
  rw [e, piecesL_nil] at h2
  have := congrArg List.length h2
  simp at this
  omega
theorem pieces_get {bs : List UInt8} {k : Nat} (h : k < (piecesL bs).length) : (piecesL bs)[k]? = some (pcP bs k) := by
  have h2 := (pieces_at (bs := bs) (k := k) (by omega)).2
  rw [piecesL_cons (pieces_ne h)] at h2
  have := congrArg (·[0]?) h2
  simp at this
  rw [← this]; rfl
theorem pieces_end (bs : List UInt8) : stP bs (piecesL bs).length = bs.length := by
  obtain ⟨h1, h2⟩ := pieces_at (bs := bs) (k := (piecesL bs).length) (Nat.le_refl _)
  rw [List.drop_length] at h2
  rcases Nat.lt_or_ge (stP bs (piecesL bs).length) bs.length with h | h
  · rw [piecesL_cons (fun e => by have := congrArg List.length e; simp at this; omega)] at h2
    cases h2
  · omega
theorem pieces_more {bs : List UInt8} {k : Nat} (h : k ≤ (piecesL bs).length) (hl : stP bs k < bs.length) : k < (piecesL bs).length := by
  rcases Nat.lt_or_ge k (piecesL bs).length with h1 | h1
  · exact h1
  · have : k = (piecesL bs).length := by omega
    rw [this, pieces_end] at hl
    omega
end Go.Proofs.YtdebhdopginllaaDoor

/- The fields of a byte string, plainly: the spans that bytes.FieldsFunc finds are the words. No program in sight. -/
import Derived.Test.YtdebhdopginllaaDoorDp
namespace Go.Proofs.YtdebhdopginllaaDoor
open Go.RowKit Go.Proofs
set_option linter.unusedVariables false

def isLt (bs : List UInt8) (i : Nat) : Bool := letterI (gb bs i)
/-- the spans that are closed ahead of place i, and the start of an open one. -/
def stF (bs : List UInt8) : Nat → List (Nat × Nat) × Option Nat
  | 0 => ([], none)
  | i + 1 => if isLt bs i = true then ((stF bs i).1, some ((stF bs i).2.getD i)) else match (stF bs i).2 with
    | none => ((stF bs i).1, none)
    | some s => ((stF bs i).1 ++ [(s, i)], none)
def closeF (bs : List UInt8) (i : Nat) : List (Nat × Nat) := match (stF bs i).2 with
  | none => (stF bs i).1
  | some s => (stF bs i).1 ++ [(s, i)]
theorem stF_letter {bs : List UInt8} {i : Nat} (h : isLt bs i = true) : stF bs (i + 1) = ((stF bs i).1, some ((stF bs i).2.getD i)) := by rw [stF, if_pos h]
theorem stF_other {bs : List UInt8} {i : Nat} (h : isLt bs i = false) : stF bs (i + 1) = (closeF bs i, none) := by
  rw [stF, if_neg (by rw [h]; simp)]
  unfold closeF
  cases (stF bs i).2 <;> rfl
theorem stF_others {bs : List UInt8} {i : Nat} : ∀ (z : Nat), (∀ j, j < z + 1 → isLt bs (i + j) = false) → stF bs (i + (z + 1)) = (closeF bs i, none)
  | 0, h => stF_other (by simpa using h 0 (by omega))
  | z + 1, h => by
    have ih := stF_others z (fun j hj => h j (by omega))
    rw [show i + (z + 1 + 1) = (i + (z + 1)) + 1 by omega, stF_other (by simpa using h (z + 1) (by omega))]
    unfold closeF
    rw [ih]
    rfl
theorem stF_run {bs : List UInt8} {i s : Nat} {sp : List (Nat × Nat)} : ∀ (z : Nat), (stF bs i).1 = sp → (stF bs i).2.getD i = s → (∀ j, j < z + 1 → isLt bs (i + j) = true) → stF bs (i + (z + 1)) = (sp, some s)
  | 0, h1, h2, h => by rw [stF_letter (by simpa using h 0 (by omega)), h1, h2]
  | z + 1, h1, h2, h => by
    have ih := stF_run z h1 h2 (fun j hj => h j (by omega))
    rw [show i + (z + 1 + 1) = (i + (z + 1)) + 1 by omega, stF_letter (by simpa using h (z + 1) (by omega)), ih]
    rfl
/-- the bytes of a span. -/
def spB (bs : List UInt8) (p : Nat × Nat) : List UInt8 := (bs.drop p.1).take (p.2 - p.1)
/-- at a piece's border: the spans are the words so far; an open one has just ended. -/
theorem stF_pieces (bs : List UInt8) : ∀ k, k ≤ (piecesL bs).length → (closeF bs (stP bs k)).map (spB bs) = wordsTo bs k ∧ ((stF bs (stP bs k)).2 ≠ none → stP bs k < bs.length → isLt bs (stP bs k) = false)
  | 0, _ => ⟨rfl, fun h => absurd rfl h⟩
  | k + 1, hk => by
    obtain ⟨ih1, ih2⟩ := stF_pieces bs k (by omega)
    have hk' : k < (piecesL bs).length := by omega
    have hne := pieces_ne hk'
    have hlt : stP bs k < bs.length := by
      rcases Nat.lt_or_ge (stP bs k) bs.length with h | h
      · exact h
      · exact absurd (List.drop_of_length_le h) hne
    have hlen := pcP_length hk'
    have hw : wordsTo bs (k + 1) = wordsTo bs k ++ if wdP bs k then [pcP bs k] else [] := rfl
    rcases Nat.eq_zero_or_pos (runL (bs.drop (stP bs k))) with h0 | h0
    · have hp : plen (bs.drop (stP bs k)) = 1 := by unfold plen; omega
      have hnl : isLt bs (stP bs k) = false := by
        have := runL_stop (bs := bs.drop (stP bs k)) (by rw [h0]; exact List.length_pos_iff.2 hne)
        rw [h0, gb_drop] at this
        exact this
      have hwd : wdP bs k = false := by simp [wdP, h0]
      have hs : stP bs (k + 1) = stP bs k + 1 := by rw [stP, hp]
      have e := stF_other hnl
      rw [hs]
      refine ⟨?_, fun h => absurd (by rw [e]) h⟩
      have ec : closeF bs (stP bs k + 1) = closeF bs (stP bs k) := by
        rw [closeF, e]
      rw [ec, ih1, hw, hwd]
      simp
    · have hp : plen (bs.drop (stP bs k)) = runL (bs.drop (stP bs k)) := by unfold plen; omega
      have hwd : wdP bs k = true := by simpa [wdP] using h0
      have hs : stP bs (k + 1) = stP bs k + runL (bs.drop (stP bs k)) := by rw [stP, hp]
      have hall : ∀ j, j < runL (bs.drop (stP bs k)) → isLt bs (stP bs k + j) = true := fun j hj => by
        have := runL_letter hj
        rw [gb_drop] at this
        exact this
      have hnone : (stF bs (stP bs k)).2 = none := by
        rcases h : (stF bs (stP bs k)).2 with _ | s
        · rfl
        · have := ih2 (by rw [h]; simp) hlt
          rw [show stP bs k = stP bs k + 0 from rfl, hall 0 h0] at this
          cases this
      obtain ⟨z, hz⟩ : ∃ z, runL (bs.drop (stP bs k)) = z + 1 := ⟨runL (bs.drop (stP bs k)) - 1, by omega⟩
      have e := stF_run (bs := bs) (i := stP bs k) (s := stP bs k) z rfl (by rw [hnone]; rfl) (fun j hj => hall j (by omega))
      rw [← hz] at e
      rw [hs]
      refine ⟨?_, fun _ h2 => ?_⟩
      · have ec : closeF bs (stP bs k + runL (bs.drop (stP bs k))) = (stF bs (stP bs k)).1 ++ [(stP bs k, stP bs k + runL (bs.drop (stP bs k)))] := by
          rw [closeF, e]
        have ec0 : closeF bs (stP bs k) = (stF bs (stP bs k)).1 := by rw [closeF, hnone]
        rw [ec, List.map_append, ← ec0, ih1, hw, hwd, if_pos rfl]
        congr 1
        simp only [List.map_cons, List.map_nil, spB]
        unfold pcP
        rw [hp, Nat.add_sub_cancel_left]
      · have := runL_stop (bs := bs.drop (stP bs k)) (by rw [List.length_drop]; omega)
        rw [gb_drop] at this
        exact this
theorem fields_words (bs : List UInt8) : (closeF bs bs.length).map (spB bs) = wordsL bs := by
  have := (stF_pieces bs _ (Nat.le_refl _)).1
  rwa [pieces_end] at this
/-- the spans lie in order inside the string. -/
theorem stF_in (bs : List UInt8) : ∀ i, i ≤ bs.length → (∀ p ∈ (stF bs i).1, p.1 ≤ p.2 ∧ p.2 ≤ i) ∧ (stF bs i).1.length ≤ i ∧ ∀ s, (stF bs i).2 = some s → s < i
  | 0, _ => ⟨(fun p hp => by cases hp), Nat.le_refl _, (fun s hs => by cases hs)⟩
  | i + 1, hi => by
    obtain ⟨h1, h2, h3⟩ := stF_in bs i (by omega)
    by_cases hl : isLt bs i = true
    · rw [stF_letter hl]
      refine ⟨(fun p hp => by have := h1 p hp; omega), (by simp only; omega), fun s hs => ?_⟩
      simp only at hs
      injection hs with hs
      rcases h : (stF bs i).2 with _ | t
      · rw [h] at hs; simp at hs; omega
      · rw [h] at hs; have := h3 t h; simp at hs; omega
    · rw [stF_other (by simpa using hl)]
      unfold closeF
      rcases h : (stF bs i).2 with _ | t
      · exact ⟨(fun p hp => by have := h1 p hp; omega), (by simp only; omega), (fun s hs => by cases hs)⟩
      · have ht := h3 t h
        refine ⟨fun p hp => ?_, (by simp only [List.length_append, List.length_singleton]; omega), (fun s hs => by cases hs)⟩
        rcases List.mem_append.1 hp with hp | hp
        · have := h1 p hp; omega
        · rw [List.mem_singleton] at hp; subst hp; simp only; omega
theorem closeF_in (bs : List UInt8) : (∀ p ∈ closeF bs bs.length, p.1 ≤ p.2 ∧ p.2 ≤ bs.length) ∧ (closeF bs bs.length).length ≤ bs.length + 1 := by
  obtain ⟨h1, h2, h3⟩ := stF_in bs bs.length (Nat.le_refl _)
  unfold closeF
  rcases h : (stF bs bs.length).2 with _ | t
  · exact ⟨h1, (by simp only; omega)⟩
  · have ht := h3 t h
    refine ⟨fun p hp => ?_, (by simp; omega)⟩
    rcases List.mem_append.1 hp with hp | hp
    · exact h1 p hp
    · rw [List.mem_singleton] at hp; subst hp; simp only; omega
end Go.Proofs.YtdebhdopginllaaDoor

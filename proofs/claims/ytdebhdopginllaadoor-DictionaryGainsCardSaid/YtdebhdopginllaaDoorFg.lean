/- The learnt words, plainly: a smaller bound gives a prefix; the gains fall. No program in sight. -/
import Derived.Test.YtdebhdopginllaaDoorEk
namespace Go.Proofs.YtdebhdopginllaaDoor
open Go.RowKit Go.Proofs
set_option linter.unusedVariables false

theorem sel_pre {ws : List (List UInt8)} : ∀ (m : Nat) (out : List (List UInt8)), ∃ t, learnSel ws m out = out ++ t
  | 0, out => ⟨[], by simp [learnSel]⟩
  | m + 1, out => by
    rw [learnSel]
    split
    · exact ⟨[], by simp⟩
    · obtain ⟨t, ht⟩ := sel_pre (ws := ws) m (out ++ [(bestTo ws out ws.length).1])
      exact ⟨[(bestTo ws out ws.length).1] ++ t, by rw [ht, List.append_assoc]⟩
theorem sel_take {ws : List (List UInt8)} : ∀ (m k : Nat) (out : List (List UInt8)), learnSel ws m out = (learnSel ws (m + k) out).take (out.length + m)
  | 0, k, out => by
    obtain ⟨t, ht⟩ := sel_pre (ws := ws) (0 + k) out
    rw [ht]
    simp [learnSel]
  | m + 1, k, out => by
    rw [show m + 1 + k = (m + k) + 1 by omega, learnSel, learnSel]
    split
    · rw [List.take_of_length_le (by omega)]
    · rw [sel_take m k, List.length_append]
      congr 1
      simp
      omega
/-- the words so far fall by gain, and none that is left gains more. -/
structure Falls (ws out : List (List UInt8)) : Prop where
  ord : out.Pairwise (fun x y => gainS ws y ≤ gainS ws x)
  dom : ∀ x ∈ out, ∀ s ∈ ws, isWordB s = true → s ∉ out → gainS ws s ≤ gainS ws x
theorem sel_falls {ws : List (List UInt8)} : ∀ (m : Nat) (out : List (List UInt8)), Falls ws out → Falls ws (learnSel ws m out)
  | 0, out, h => h
  | m + 1, out, h => by
    rw [learnSel]
    have B := best_any (ws := ws) (out := out) (Nat.le_refl _)
    by_cases h0 : (bestTo ws out ws.length).2 ≤ 0
    · rw [if_pos h0]; exact h
    · rw [if_neg h0]
      obtain ⟨b1, b2, b3, b4⟩ := B.mem (by omega)
      refine sel_falls m _ ⟨?_, ?_⟩
      · rw [List.pairwise_append]
        refine ⟨h.ord, by simp, fun x hx y hy => ?_⟩
        rw [List.mem_singleton] at hy
        subst hy
        exact h.dom x hx _ b1 b2.1 b3
      · intro x hx s hs hw hn
        rw [List.mem_append, List.mem_singleton] at hx
        rw [List.mem_append, List.mem_singleton, not_or] at hn
        rcases hx with hx | rfl
        · exact h.dom x hx s hs hw hn.1
        · obtain ⟨j, hj, rfl⟩ := List.mem_iff_getElem.1 hs
          have hb := B.all j hj (by rw [gs_get hj]; exact hw) (by rw [gs_get hj]; exact hn.1)
          rw [gs_get hj] at hb
          rcases hb with hb | ⟨_, hb | hb | hb⟩
          · have := b2.2; omega
          · exact absurd hb hn.2
          · omega
          · omega
theorem learn_take (bs : List UInt8) {m : Nat} (h : m ≤ 64) : learnL bs m = (learnL bs 64).take m := by
  have e := sel_take (ws := wordsL bs) m (64 - m) []
  rw [show m + (64 - m) = 64 by omega, List.length_nil, Nat.zero_add] at e
  exact e
/-- the words that are learnt: how often, and what each gains. -/
theorem learn_gains (bs : List UInt8) (m : Nat) {j : Nat} (hj : j < (learnL bs m).length) :
    2 ≤ (wordsL bs).count (gs (learnL bs m) j) ∧ 2 ≤ (gs (learnL bs m) j).length ∧ (gs (learnL bs m) j).length ≤ 32 ∧ 0 < gainS (wordsL bs) (gs (learnL bs m) j) ∧ ∀ i, i < j → gainS (wordsL bs) (gs (learnL bs m) j) ≤ gainS (wordsL bs) (gs (learnL bs m) i) := by
  have hF := sel_falls (ws := wordsL bs) m [] ⟨List.Pairwise.nil, fun x hx => by cases hx⟩
  obtain ⟨h1, h2, h3⟩ := learnSel_ok (ws := wordsL bs) m [] List.nodup_nil (fun s hs => by cases hs)
  have hc := h2 _ (List.getElem_mem hj)
  rw [gs_get hj]
  obtain ⟨c1, c2, c3⟩ := hc
  have l2 : 2 ≤ ((learnL bs m)[j]).length := by have := c2; simp [isWordB] at this; exact this.1
  have l3 := word_le c2
  refine ⟨?_, l2, l3, c3, fun i hi => ?_⟩
  · have c3' := c3
    unfold gainS gainL at c3'
    rcases Nat.lt_or_ge ((wordsL bs).count (learnL bs m)[j]) 2 with h | h
    · exfalso
      have e : (wordsL bs).count (learnL bs m)[j] = 0 ∨ (wordsL bs).count (learnL bs m)[j] = 1 := by omega
      rcases e with e | e
      · have c4 := c3'
        rw [e] at c4
        simp at c4
        omega
      · have c4 := c3'
        rw [e] at c4
        simp at c4
        omega
    · exact h
  · rw [gs_get (by omega)]
    exact List.pairwise_iff_getElem.1 hF.ord i j (by show i < (learnL bs m).length; omega) hj hi
end Go.Proofs.YtdebhdopginllaaDoor

/- Learn of the reference. -/
import Derived.Test.YtdebhdopginllaaDoorDn
namespace Go.Proofs.YtdebhdopginllaaDoor
open Go.RowKit Go.Proofs Go.Sort
set_option linter.unusedVariables false

theorem words_len {bs : List UInt8} {k : Nat} (h : k < (wordsL bs).length) : (gs (wordsL bs) k).length ≤ bs.length := by
  rw [gs_get h]; exact wordsTo_mem (Nat.le_refl _) _ (List.getElem_mem h)
theorem best_next_skip {ws out : List (List UInt8)} {k : Nat} (h : isWordB (gs ws k) = false ∨ gs ws k ∈ out) : bestTo ws out (k + 1) = bestTo ws out k := by rw [bestTo, if_pos h]
theorem best_next_take {ws out : List (List UInt8)} {k : Nat} (h1 : isWordB (gs ws k) = true) (h2 : gs ws k ∉ out) (h : (bestTo ws out k).2 < gainS ws (gs ws k) ∨ (gainS ws (gs ws k) = (bestTo ws out k).2 ∧ 0 < gainS ws (gs ws k) ∧ gs ws k < (bestTo ws out k).1)) : bestTo ws out (k + 1) = (gs ws k, gainS ws (gs ws k)) := by
  rw [bestTo, if_neg (by rw [h1]; simpa using h2), if_pos h]
theorem best_next_keep {ws out : List (List UInt8)} {k : Nat} (h1 : isWordB (gs ws k) = true) (h2 : gs ws k ∉ out) (h : ¬ ((bestTo ws out k).2 < gainS ws (gs ws k) ∨ (gainS ws (gs ws k) = (bestTo ws out k).2 ∧ 0 < gainS ws (gs ws k) ∧ gs ws k < (bestTo ws out k).1))) : bestTo ws out (k + 1) = bestTo ws out k := by
  rw [bestTo, if_neg (by rw [h1]; simpa using h2), if_neg h]

end Go.Proofs.YtdebhdopginllaaDoor

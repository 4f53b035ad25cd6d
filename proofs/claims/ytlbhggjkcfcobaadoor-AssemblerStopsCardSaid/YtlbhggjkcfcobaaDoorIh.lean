/- The reference of layer 15: Form. -/
import Derived.Test.YtlbhggjkcfcobaaDoorIg
namespace Go.Proofs.YtlbhggjkcfcobaaDoor
open Go.RowKit Go.Proofs
set_option linter.unusedVariables false

def sumA : List Arr → Int
  | [] => 0
  | x :: l => x.size + sumA l
theorem arrGo_bad : ∀ (l : List Arr) (left : Int), left ≤ 65536 → (∃ x ∈ l, x.size < 1 ∨ 65536 < x.size) → arrGo left l = 2
  | [], _, _, ⟨x, hx, _⟩ => by simp at hx
  | y :: l, left, hl, ⟨x, hx, hb⟩ => by
    rw [arrGo]
    by_cases h1 : y.size < 1 ∨ left < y.size
    · rw [if_pos h1]
    · rw [if_neg h1]
      rcases List.mem_cons.1 hx with rfl | hx
      · omega
      · exact arrGo_bad l _ (by omega) ⟨x, hx, hb⟩
theorem arrGo_sum : ∀ (l : List Arr) (left : Int), 0 ≤ left → (∀ x ∈ l, 1 ≤ x.size) → arrGo left l = if left < sumA l then 2 else 0
  | [], left, hl, _ => by rw [arrGo, sumA, if_neg (by omega)]
  | y :: l, left, hl, h => by
    have hy := h y (by simp)
    have hs : 0 ≤ sumA l := by
      have : ∀ m : List Arr, (∀ x ∈ m, 1 ≤ x.size) → 0 ≤ sumA m := fun m => by
        induction m with
        | nil => intro _; exact Int.le_refl _
        | cons z m ih => intro hm; have := hm z (by simp); have := ih (fun x hx => hm x (by simp [hx])); rw [sumA]; omega
      exact this l (fun x hx => h x (by simp [hx]))
    rw [arrGo, sumA]
    by_cases h1 : y.size < 1 ∨ left < y.size
    · rw [if_pos h1, if_pos (by omega)]
    · rw [if_neg h1, arrGo_sum l _ (by omega) (fun x hx => h x (by simp [hx]))]
      by_cases h2 : left - y.size < sumA l
      · rw [if_pos h2, if_pos (by omega)]
      · rw [if_neg h2, if_neg (by omega)]
theorem sumA_take {l : List Arr} {k : Nat} (hk : k < l.length) : sumA (l.take (k + 1)) = sumA (l.take k) + (gA l k).size := by
  have : ∀ (m : List Arr) (x : Arr), sumA (m ++ [x]) = sumA m + x.size := fun m x => by
    induction m with
    | nil => show x.size + 0 = 0 + x.size; omega
    | cons z m ih => rw [List.cons_append, sumA, sumA, ih]; omega
  rw [List.take_succ_eq_append_getElem hk, this, gA_get hk]

end Go.Proofs.YtlbhggjkcfcobaaDoor

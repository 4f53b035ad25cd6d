/- The reference of layer 15: late, Name, HasArg, Check. (Printed by wip/mkref15.py.) The reference of layer 15: Form. The reference of layer 15: Encode (its error; what it writes is left open). -/
import Derived.Test.YtmijalhilalaoaaGreatDoorIf
namespace Go.Proofs.YtmijalhilalaoaaGreatDoor
open Go.RowKit Go.Proofs
set_option linter.unusedVariables false

theorem opX_out {op : Int} (h : op < 0 ∨ 36 ≤ op) : opX op = ⟨[], [], [], 0, false⟩ := by unfold opX; rw [if_neg (by omega)]
theorem arg_tab : ∀ k : Fin 36, (opO k.val).arg = decide (k.val ≤ 4 ∨ k.val = 35) := by decide +kernel
theorem lim_tab : ∀ k : Fin 36, (opO k.val).limit = if k.val = 0 then 4294967296 else if k.val = 1 ∨ k.val = 2 ∨ k.val = 35 then 16 else if k.val = 3 ∨ k.val = 4 then 8 else 1 := by decide +kernel
theorem arg_eq (op : Int) : (opX op).arg = decide (0 ≤ op ∧ op ≤ 4 ∨ op = 35) := by
  by_cases h : 0 ≤ op ∧ op < 36
  · obtain ⟨k, rfl⟩ : ∃ k : Nat, op = (k : Int) := ⟨op.toNat, by omega⟩
    have : opX (k : Int) = opO k := by unfold opX; rw [if_pos h]; rfl
    rw [this, arg_tab ⟨k, by omega⟩]
    apply decide_eq_decide.2
    show k ≤ 4 ∨ k = 35 ↔ _
    omega
  · rw [opX_out (by omega)]
    symm
    apply decide_eq_false
    omega
theorem chk_in {k : Nat} (hk : k < 36) (arg : Int) : chkE ⟨(k : Int), arg⟩ = if ((opO k).limit : Int) ≤ arg then 2 else 0 := by
  have h1 : okX (k : Int) = true := by unfold okX; exact decide_eq_true (by omega)
  have h2 : opX (k : Int) = opO k := by unfold opX; rw [if_pos (by omega)]; rfl
  show (if okX (k : Int) = false then 1 else if ((opX (k : Int)).limit : Int) ≤ arg then 2 else 0) = _
  rw [h1, h2, if_neg (by simp)]
theorem chk_out {op : Int} (h : op < 0 ∨ 36 ≤ op) (arg : Int) : chkE ⟨op, arg⟩ = 1 := by
  have h1 : okX op = false := by unfold okX; exact decide_eq_false (by omega)
  show (if okX op = false then 1 else _) = _
  rw [h1, if_pos rfl]
end Go.Proofs.YtmijalhilalaoaaGreatDoor
namespace Go.Proofs.YtmijalhilalaoaaGreatDoor
open Go.RowKit Go.Proofs
set_option linter.unusedVariables false

def sumA : List Arr → Int
  | [] => 0
  | x :: l => x.size + sumA l
theorem arrGo_bad : ∀ (l : List Arr) (left : Int), left ≤ 65536 → (∃ x ∈ l, x.size < 1 ∨ 65536 < x.size) → arrGo left l = 2
  | [], _, _, ⟨x, hx, _⟩ => by simp at hx
  | y :: l, left, hl, ⟨x, hx, hb⟩ => by
    rw [arrGo]
    by_cases h1 : y.size < 1 ∨ left < y.size
    · rw [if_pos h1]
    · rw [if_neg h1]
      rcases List.mem_cons.1 hx with rfl | hx
      · omega
      · exact arrGo_bad l _ (by omega) ⟨x, hx, hb⟩
theorem arrGo_sum : ∀ (l : List Arr) (left : Int), 0 ≤ left → (∀ x ∈ l, 1 ≤ x.size) → arrGo left l = if left < sumA l then 2 else 0
  | [], left, hl, _ => by rw [arrGo, sumA, if_neg (by omega)]
  | y :: l, left, hl, h => by
    have hy := h y (by simp)
    have hs : 0 ≤ sumA l := by
      have : ∀ m : List Arr, (∀ x ∈ m, 1 ≤ x.size) → 0 ≤ sumA m := fun m => by
        induction m with
        | nil => intro _; exact Int.le_refl _
        | cons z m ih => intro hm; have := hm z (by simp); have := ih (fun x hx => hm x (by simp [hx])); rw [sumA]; omega
      exact this l (fun x hx => h x (by simp [hx]))
    rw [arrGo, sumA]
    by_cases h1 : y.size < 1 ∨ left < y.size
    · rw [if_pos h1, if_pos (by omega)]
    · rw [if_neg h1, arrGo_sum l _ (by omega) (fun x hx => h x (by simp [hx]))]
      by_cases h2 : left - y.size < sumA l
      · rw [if_pos h2, if_pos (by omega)]
      · rw [if_neg h2, if_neg (by omega)]
theorem sumA_take {l : List Arr} {k : Nat} (hk : k < l.length) : sumA (l.take (k + 1)) = sumA (l.take k) + (gA l k).size := by
  have : ∀ (m : List Arr) (x : Arr), sumA (m ++ [x]) = sumA m + x.size := fun m x => by
    induction m with
    | nil => show x.size + 0 = 0 + x.size; omega
    | cons z m ih => rw [List.cons_append, sumA, sumA, ih]; omega
  rw [List.take_succ_eq_append_getElem hk, this, gA_get hk]

end Go.Proofs.YtmijalhilalaoaaGreatDoor
namespace Go.Proofs.YtmijalhilalaoaaGreatDoor
open Go.RowKit Go.Proofs
set_option linter.unusedVariables false

end Go.Proofs.YtmijalhilalaoaaGreatDoor

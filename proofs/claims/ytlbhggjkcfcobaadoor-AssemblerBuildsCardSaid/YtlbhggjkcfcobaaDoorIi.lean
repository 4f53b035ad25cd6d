/- The reference of layer 15: late, Name, HasArg, Check. (Printed by wip/mkref15.py.) The reference of layer 15: Form. The reference of layer 15: Encode (its error; what it writes is left open). -/
import Derived.Test.YtlbhggjkcfcobaaDoorIf
namespace Go.Proofs.YtlbhggjkcfcobaaDoor
open Go.RowKit Go.Proofs
set_option linter.unusedVariables false

theorem opX_out {op : Int} (h : op < 0 ∨ 36 ≤ op) : opX op = ⟨[], [], [], 0, false⟩ := by unfold opX; rw [if_neg (by omega)]
theorem lateR_any (op : Int) (w : World) (h : op < 0 ∨ 18 ≤ op) : Calls Tryd.prog 107 #[.int .i64 op] w fun e w' => e = .returned (.string (strB (opX op).name)) ∧ w' = w := by
  rcases (by omega : op = 18 ∨ op = 19 ∨ op = 20 ∨ op = 21 ∨ op = 22 ∨ op = 23 ∨ op = 24 ∨ op = 25 ∨ op = 26 ∨ op = 27 ∨ op = 28 ∨ op = 29 ∨ op = 30 ∨ op = 31 ∨ op = 32 ∨ op = 33 ∨ op = 34 ∨ op = 35 ∨ (op < 0 ∨ 36 ≤ op)) with rfl | rfl | rfl | rfl | rfl | rfl | rfl | rfl | rfl | rfl | rfl | rfl | rfl | rfl | rfl | rfl | rfl | rfl | hb
  · go_enter Tryd.func107, Tryd.ntmps107
    go_wp2_with fail
    go_ret
    exact ⟨by kernel_rfl, rfl⟩
  · go_enter Tryd.func107, Tryd.ntmps107
    go_wp2_with fail
    go_ret
    exact ⟨by kernel_rfl, rfl⟩
  · go_enter Tryd.func107, Tryd.ntmps107
    go_wp2_with fail
    go_ret
    exact ⟨by kernel_rfl, rfl⟩
  · go_enter Tryd.func107, Tryd.ntmps107
    go_wp2_with fail
    go_ret
    exact ⟨by kernel_rfl, rfl⟩
  · go_enter Tryd.func107, Tryd.ntmps107
    go_wp2_with fail
    go_ret
    exact ⟨by kernel_rfl, rfl⟩
  · go_enter Tryd.func107, Tryd.ntmps107
    go_wp2_with fail
    go_ret
    exact ⟨by kernel_rfl, rfl⟩
  · go_enter Tryd.func107, Tryd.ntmps107
    go_wp2_with fail
    go_ret
    exact ⟨by kernel_rfl, rfl⟩
  · go_enter Tryd.func107, Tryd.ntmps107
    go_wp2_with fail
    go_ret
    exact ⟨by kernel_rfl, rfl⟩
  · go_enter Tryd.func107, Tryd.ntmps107
    go_wp2_with fail
    go_ret
    exact ⟨by kernel_rfl, rfl⟩
  · go_enter Tryd.func107, Tryd.ntmps107
    go_wp2_with fail
    go_ret
    exact ⟨by kernel_rfl, rfl⟩
  · go_enter Tryd.func107, Tryd.ntmps107
    go_wp2_with fail
    go_ret
    exact ⟨by kernel_rfl, rfl⟩
  · go_enter Tryd.func107, Tryd.ntmps107
    go_wp2_with fail
    go_ret
    exact ⟨by kernel_rfl, rfl⟩
  · go_enter Tryd.func107, Tryd.ntmps107
    go_wp2_with fail
    go_ret
    exact ⟨by kernel_rfl, rfl⟩
  · go_enter Tryd.func107, Tryd.ntmps107
    go_wp2_with fail
    go_ret
    exact ⟨by kernel_rfl, rfl⟩
  · go_enter Tryd.func107, Tryd.ntmps107
    go_wp2_with fail
    go_ret
    exact ⟨by kernel_rfl, rfl⟩
  · go_enter Tryd.func107, Tryd.ntmps107
    go_wp2_with fail
    go_ret
    exact ⟨by kernel_rfl, rfl⟩
  · go_enter Tryd.func107, Tryd.ntmps107
    go_wp2_with fail
    go_ret
    exact ⟨by kernel_rfl, rfl⟩
  · go_enter Tryd.func107, Tryd.ntmps107
    go_wp2_with fail
    go_ret
    exact ⟨by kernel_rfl, rfl⟩
  · have hX := Lib.hid (opX_out hb)
    have d18 : (op == 18) = false := by simp; omega
    have d19 : (op == 19) = false := by simp; omega
    have d20 : (op == 20) = false := by simp; omega
    have d21 : (op == 21) = false := by simp; omega
    have d22 : (op == 22) = false := by simp; omega
    have d23 : (op == 23) = false := by simp; omega
    have d24 : (op == 24) = false := by simp; omega
    have d25 : (op == 25) = false := by simp; omega
    have d26 : (op == 26) = false := by simp; omega
    have d27 : (op == 27) = false := by simp; omega
    have d28 : (op == 28) = false := by simp; omega
    have d29 : (op == 29) = false := by simp; omega
    have d30 : (op == 30) = false := by simp; omega
    have d31 : (op == 31) = false := by simp; omega
    have d32 : (op == 32) = false := by simp; omega
    have d33 : (op == 33) = false := by simp; omega
    have d34 : (op == 34) = false := by simp; omega
    have d35 : (op == 35) = false := by simp; omega
    go_enter Tryd.func107, Tryd.ntmps107
    go_wp2_with fail
    go_ret
    exact ⟨by rw [hX.out]; rfl, rfl⟩
theorem nameR_any (op : Int) (w : World) : Calls Tryd.prog 80 #[.int .i64 op] w fun e w' => e = .returned (.string (strB (opX op).name)) ∧ w' = w := by
  rcases (by omega : op = 0 ∨ op = 1 ∨ op = 2 ∨ op = 3 ∨ op = 4 ∨ op = 5 ∨ op = 6 ∨ op = 7 ∨ op = 8 ∨ op = 9 ∨ op = 10 ∨ op = 11 ∨ op = 12 ∨ op = 13 ∨ op = 14 ∨ op = 15 ∨ op = 16 ∨ op = 17 ∨ (op < 0 ∨ 18 ≤ op)) with rfl | rfl | rfl | rfl | rfl | rfl | rfl | rfl | rfl | rfl | rfl | rfl | rfl | rfl | rfl | rfl | rfl | rfl | hb
  · go_enter Tryd.func80, Tryd.ntmps80
    go_wp2_with fail
    go_ret
    exact ⟨by kernel_rfl, rfl⟩
  · go_enter Tryd.func80, Tryd.ntmps80
    go_wp2_with fail
    go_ret
    exact ⟨by kernel_rfl, rfl⟩
  · go_enter Tryd.func80, Tryd.ntmps80
    go_wp2_with fail
    go_ret
    exact ⟨by kernel_rfl, rfl⟩
  · go_enter Tryd.func80, Tryd.ntmps80
    go_wp2_with fail
    go_ret
    exact ⟨by kernel_rfl, rfl⟩
  · go_enter Tryd.func80, Tryd.ntmps80
    go_wp2_with fail
    go_ret
    exact ⟨by kernel_rfl, rfl⟩
  · go_enter Tryd.func80, Tryd.ntmps80
    go_wp2_with fail
    go_ret
    exact ⟨by kernel_rfl, rfl⟩
  · go_enter Tryd.func80, Tryd.ntmps80
    go_wp2_with fail
    go_ret
    exact ⟨by kernel_rfl, rfl⟩
  · go_enter Tryd.func80, Tryd.ntmps80
    go_wp2_with fail
    go_ret
    exact ⟨by kernel_rfl, rfl⟩
  · go_enter Tryd.func80, Tryd.ntmps80
    go_wp2_with fail
    go_ret
    exact ⟨by kernel_rfl, rfl⟩
  · go_enter Tryd.func80, Tryd.ntmps80
    go_wp2_with fail
    go_ret
    exact ⟨by kernel_rfl, rfl⟩
  · go_enter Tryd.func80, Tryd.ntmps80
    go_wp2_with fail
    go_ret
    exact ⟨by kernel_rfl, rfl⟩
  · go_enter Tryd.func80, Tryd.ntmps80
    go_wp2_with fail
    go_ret
    exact ⟨by kernel_rfl, rfl⟩
  · go_enter Tryd.func80, Tryd.ntmps80
    go_wp2_with fail
    go_ret
    exact ⟨by kernel_rfl, rfl⟩
  · go_enter Tryd.func80, Tryd.ntmps80
    go_wp2_with fail
    go_ret
    exact ⟨by kernel_rfl, rfl⟩
  · go_enter Tryd.func80, Tryd.ntmps80
    go_wp2_with fail
    go_ret
    exact ⟨by kernel_rfl, rfl⟩
  · go_enter Tryd.func80, Tryd.ntmps80
    go_wp2_with fail
    go_ret
    exact ⟨by kernel_rfl, rfl⟩
  · go_enter Tryd.func80, Tryd.ntmps80
    go_wp2_with fail
    go_ret
    exact ⟨by kernel_rfl, rfl⟩
  · go_enter Tryd.func80, Tryd.ntmps80
    go_wp2_with fail
    go_ret
    exact ⟨by kernel_rfl, rfl⟩
  · have H := Lib.hid (lateR_any op w hb)
    obtain ⟨x, hx⟩ : ∃ x, x = opX op := ⟨_, rfl⟩
    rw [← hx] at H ⊢
    clear hx
    have d0 : (op == 0) = false := by simp; omega
    have d1 : (op == 1) = false := by simp; omega
    have d2 : (op == 2) = false := by simp; omega
    have d3 : (op == 3) = false := by simp; omega
    have d4 : (op == 4) = false := by simp; omega
    have d5 : (op == 5) = false := by simp; omega
    have d6 : (op == 6) = false := by simp; omega
    have d7 : (op == 7) = false := by simp; omega
    have d8 : (op == 8) = false := by simp; omega
    have d9 : (op == 9) = false := by simp; omega
    have d10 : (op == 10) = false := by simp; omega
    have d11 : (op == 11) = false := by simp; omega
    have d12 : (op == 12) = false := by simp; omega
    have d13 : (op == 13) = false := by simp; omega
    have d14 : (op == 14) = false := by simp; omega
    have d15 : (op == 15) = false := by simp; omega
    have d16 : (op == 16) = false := by simp; omega
    have d17 : (op == 17) = false := by simp; omega
    go_enter Tryd.func80, Tryd.ntmps80
    go_wp2_with fail
    refine H.out.mono ?_
    rintro e w1 ⟨rfl, hw1⟩
    obtain rfl : w = w1 := hw1.symm
    go_wp2_with fail
    go_ret
    exact ⟨rfl, rfl⟩

theorem arg_tab : ∀ k : Fin 36, (opO k.val).arg = decide (k.val ≤ 4 ∨ k.val = 35) := by decide +kernel
theorem lim_tab : ∀ k : Fin 36, (opO k.val).limit = if k.val = 0 then 4294967296 else if k.val = 1 ∨ k.val = 2 ∨ k.val = 35 then 16 else if k.val = 3 ∨ k.val = 4 then 8 else 1 := by decide +kernel
theorem arg_eq (op : Int) : (opX op).arg = decide (0 ≤ op ∧ op ≤ 4 ∨ op = 35) := by
  by_cases h : 0 ≤ op ∧ op < 36
  · obtain ⟨k, rfl⟩ : ∃ k : Nat, op = (k : Int) := ⟨op.toNat, by omega⟩
    have : opX (k : Int) = opO k := by unfold opX; rw [if_pos h]; rfl
    rw [this, arg_tab ⟨k, by omega⟩]
    apply decide_eq_decide.2
    show k ≤ 4 ∨ k = 35 ↔ _
    omega
  · rw [opX_out (by omega)]
    symm
    apply decide_eq_false
    omega
theorem hasArg_any (op : Int) (w : World) : Calls Tryd.prog 49 #[.int .i64 op] w fun e w' => e = .returned (.bool (opX op).arg) ∧ w' = w := by
  have hA := Lib.hid (arg_eq op)
  by_cases h1 : 0 ≤ op
  · have d1 : decide (0 ≤ op) = true := by simpa using h1
    by_cases h2 : op ≤ 4
    · have d2 : decide (op ≤ 4) = true := by simpa using h2
      go_enter Tryd.func49, Tryd.ntmps49
      go_wp2_with fail
      go_ret
      exact ⟨ret_bool (by rw [hA.out]; symm; apply decide_eq_true; omega), rfl⟩
    · have d2 : decide (op ≤ 4) = false := by simpa using h2
      by_cases h3 : op = 35
      · subst h3
        go_enter Tryd.func49, Tryd.ntmps49
        go_wp2_with fail
        go_ret
        exact ⟨ret_bool (by rw [hA.out]; rfl), rfl⟩
      · have d3 : (op == 35) = false := by simpa using h3
        go_enter Tryd.func49, Tryd.ntmps49
        go_wp2_with fail
        go_ret
        exact ⟨ret_bool (by rw [hA.out]; symm; apply decide_eq_false; omega), rfl⟩
  · have d1 : decide (0 ≤ op) = false := by simpa using h1
    have d3 : (op == 35) = false := by simp; omega
    go_enter Tryd.func49, Tryd.ntmps49
    go_wp2_with fail
    go_ret
    exact ⟨ret_bool (by rw [hA.out]; symm; apply decide_eq_false; omega), rfl⟩

theorem chk_in {k : Nat} (hk : k < 36) (arg : Int) : chkE ⟨(k : Int), arg⟩ = if ((opO k).limit : Int) ≤ arg then 2 else 0 := by
  have h1 : okX (k : Int) = true := by unfold okX; exact decide_eq_true (by omega)
  have h2 : opX (k : Int) = opO k := by unfold opX; rw [if_pos (by omega)]; rfl
  show (if okX (k : Int) = false then 1 else if ((opX (k : Int)).limit : Int) ≤ arg then 2 else 0) = _
  rw [h1, h2, if_neg (by simp)]
theorem chk_out {op : Int} (h : op < 0 ∨ 36 ≤ op) (arg : Int) : chkE ⟨op, arg⟩ = 1 := by
  have h1 : okX op = false := by unfold okX; exact decide_eq_false (by omega)
  show (if okX op = false then 1 else _) = _
  rw [h1, if_pos rfl]
end Go.Proofs.YtlbhggjkcfcobaaDoor
namespace Go.Proofs.YtlbhggjkcfcobaaDoor
open Go.RowKit Go.Proofs
set_option linter.unusedVariables false

def sumA : List Arr → Int
  | [] => 0
  | x :: l => x.size + sumA l
theorem arrGo_bad : ∀ (l : List Arr) (left : Int), left ≤ 65536 → (∃ x ∈ l, x.size < 1 ∨ 65536 < x.size) → arrGo left l = 2
  | [], _, _, ⟨x, hx, _⟩ => by simp at hx
  | y :: l, left, hl, ⟨x, hx, hb⟩ => by
    rw [arrGo]
    by_cases h1 : y.size < 1 ∨ left < y.size
    · rw [if_pos h1]
    · rw [if_neg h1]
      rcases List.mem_cons.1 hx with rfl | hx
      · omega
      · exact arrGo_bad l _ (by omega) ⟨x, hx, hb⟩
theorem arrGo_sum : ∀ (l : List Arr) (left : Int), 0 ≤ left → (∀ x ∈ l, 1 ≤ x.size) → arrGo left l = if left < sumA l then 2 else 0
  | [], left, hl, _ => by rw [arrGo, sumA, if_neg (by omega)]
  | y :: l, left, hl, h => by
    have hy := h y (by simp)
    have hs : 0 ≤ sumA l := by
      have : ∀ m : List Arr, (∀ x ∈ m, 1 ≤ x.size) → 0 ≤ sumA m := fun m => by
        induction m with
        | nil => intro _; exact Int.le_refl _
        | cons z m ih => intro hm; have := hm z (by simp); have := ih (fun x hx => hm x (by simp [hx])); rw [sumA]; omega
      exact this l (fun x hx => h x (by simp [hx]))
    rw [arrGo, sumA]
    by_cases h1 : y.size < 1 ∨ left < y.size
    · rw [if_pos h1, if_pos (by omega)]
    · rw [if_neg h1, arrGo_sum l _ (by omega) (fun x hx => h x (by simp [hx]))]
      by_cases h2 : left - y.size < sumA l
      · rw [if_pos h2, if_pos (by omega)]
      · rw [if_neg h2, if_neg (by omega)]
theorem sumA_take {l : List Arr} {k : Nat} (hk : k < l.length) : sumA (l.take (k + 1)) = sumA (l.take k) + (gA l k).size := by
  have : ∀ (m : List Arr) (x : Arr), sumA (m ++ [x]) = sumA m + x.size := fun m x => by
    induction m with
    | nil => show x.size + 0 = 0 + x.size; omega
    | cons z m ih => rw [List.cons_append, sumA, sumA, ih]; omega
  rw [List.take_succ_eq_append_getElem hk, this, gA_get hk]

end Go.Proofs.YtlbhggjkcfcobaaDoor
namespace Go.Proofs.YtlbhggjkcfcobaaDoor
open Go.RowKit Go.Proofs
set_option linter.unusedVariables false

end Go.Proofs.YtlbhggjkcfcobaaDoor

/- Plain facts about the laws ListingOrders, ListingParts. -/
import Derived.Test.YtmijalhilalaoaaDoorTq
namespace Go.Proofs.YtmijalhilalaoaaDoor
open Go.RowKit Go.Proofs
set_option linter.unusedVariables false

theorem eqI (a b : Ins) (W : World) : (binOp .eql 41 (.agg #[.int .i64 a.op, .int .u32 a.arg]) (.agg #[.int .i64 b.op, .int .u32 b.arg])).run Tryd.prog W = .ok (.bool (decide (a = b))) W := by
  obtain ⟨o1, x1⟩ := a
  obtain ⟨o2, x2⟩ := b
  rw [run_eql_struct, run_equalIn_agg W 9999 _ _ _ utI stI]
  by_cases h1 : o1 = o2
  · by_cases h2 : x1 = x2
    · subst h1 h2; simp [go_sem, part]
    · subst h1; simp [go_sem, part, h2]
  · simp [go_sem, part, h1]
theorem cmn_spec : ∀ a b : List Ins, cmn a b ≤ a.length ∧ cmn a b ≤ b.length ∧ (∀ j, j < cmn a b → gI a j = gI b j) ∧ (cmn a b < a.length → cmn a b < b.length → gI a (cmn a b) ≠ gI b (cmn a b))
  | [], b => ⟨by simp [cmn], by simp [cmn], fun j hj => by simp [cmn] at hj, fun h => by simp [cmn] at h⟩
  | x :: a, [] => ⟨by simp [cmn], by simp [cmn], fun j hj => by simp [cmn] at hj, fun _ h => by simp [cmn] at h⟩
  | x :: a, y :: b => by
    by_cases h : x = y
    · obtain ⟨h1, h2, h3, h4⟩ := cmn_spec a b
      rw [cmn, if_pos h]
      refine ⟨by simp; omega, by simp; omega, fun j hj => ?_, fun ha hb => ?_⟩
      · cases j with
        | zero => simpa [gI] using h
        | succ j => have := h3 j (by omega); simpa [gI] using this
      · have := h4 (by simpa using ha) (by simpa using hb)
        simpa [gI] using this
    · rw [cmn, if_neg h]
      exact ⟨Nat.zero_le _, Nat.zero_le _, fun j hj => absurd hj (by omega), fun _ _ => by simpa [gI] using h⟩
theorem cmn_symm : ∀ a b : List Ins, cmn a b = cmn b a
  | [], [] => rfl
  | [], y :: b => by simp [cmn]
  | x :: a, [] => by simp [cmn]
  | x :: a, y :: b => by
    rw [cmn, cmn, cmn_symm a b]
    by_cases h : x = y
    · rw [if_pos h, if_pos h.symm]
    · rw [if_neg h, if_neg (fun e => h e.symm)]
theorem difN_symm (a b : List Ins) : difN a b = difN b a := by
  unfold difN
  by_cases h : a = b
  · rw [if_pos h, if_pos h.symm]
  · rw [if_neg h, if_neg (fun e => h e.symm), cmn_symm]
theorem dec_symm {α : Type} [DecidableEq α] (a b : α) : decide (a = b) = decide (b = a) := by
  by_cases h : a = b
  · rw [decide_eq_true h, decide_eq_true h.symm]
  · rw [decide_eq_false h, decide_eq_false (fun e => h e.symm)]
theorem sameB_symm (p q : Prg) : sameB p q = sameB q p := by
  unfold sameB
  rw [dec_symm p.arrs, dec_symm p.locs, dec_symm p.code]
theorem printE_zero {p : Prg} (h : printE p = 0) : formE p = 0 ∧ printT p = textL p := by
  refine ⟨?_, by unfold printT; rw [if_pos h]⟩
  by_cases hf : formE p = 0
  · exact hf
  · rw [(printE_form hf).1] at h; exact absurd h hf
theorem print_same {p q : Prg} (hp : printE p = 0) (hq : printE q = 0) (ap : ∀ i ∈ p.code, 0 ≤ i.arg) (aq : ∀ i ∈ q.code, 0 ≤ i.arg) : ((strB (printT p)).toList == (strB (printT q)).toList) = sameB p q := by
  obtain ⟨f1, t1⟩ := printE_zero hp
  obtain ⟨f2, t2⟩ := printE_zero hq
  rw [strB_beq, t1, t2]
  by_cases h : textL p = textL q
  · rw [decide_eq_true h, sameB_iff.2 (textL_inj (prgOk_of f1 ap) (prgOk_of f2 aq) h)]
  · rw [decide_eq_false h]
    cases hs : sameB p q with
    | false => rfl
    | true => exact absurd (by rw [sameB_iff.1 hs]) h

end Go.Proofs.YtmijalhilalaoaaDoor

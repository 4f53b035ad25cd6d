/- Contracts of newRows and of the iterator 'all' of layer 33. -/
import Derived.Test.YtoodfmilleodaaaBb
namespace Go.Proofs.Ytoodfmilleodaaa
open Go.RowKit Go.Proofs
set_option linter.unusedVariables false

/-- what newRows hands back. -/
def newV (A : Option Addr) (n c : Nat) (p : Int) : Value := if limE n p = 0 then .agg #[.slice A n c, .int .i64 p] else .agg #[.slice none 0 0, .int .i64 0]
theorem newRows_any (A : Option Addr) (n c : Nat) (p : Int) (w : World) (hn : n ≤ 1000000000) :
    Calls Try.prog 36 #[.slice A n c, .int .i64 p] w fun e w' => e = .returned (.tuple #[newV A n c p, .int .i64 (limE n p)]) ∧ Below w.heap.size w w' := by
  unfold newV
  have hbel := fun o => (Below.refl w.heap.size w).alloc (Nat.le_refl _) o
  by_cases h1 : 65536 < n
  · have d1 : decide ((65536 : Int) < (n : Int)) = true := by simp; omega
    have hE : limE n p = 5 := by unfold limE; rw [if_pos h1]
    rw [hE, if_neg (by decide)]
    go_enter Try.func36, Try.ntmps36
    go_wp2_with fail
    refine bodyPost_ret (v := .tuple #[.agg #[.slice none 0 0, .int .i64 0], .int .i64 5]) (by simp [results, Try.results36, go_sem]) rfl ⟨rfl, hbel _⟩
  · have d1 : decide ((65536 : Int) < (n : Int)) = false := by simp; omega
    by_cases h2 : p < 0
    · have d2 : decide (p < 0) = true := by simp; omega
      have hE : limE n p = 2 := by unfold limE; rw [if_neg h1, if_pos (.inl h2)]
      rw [hE, if_neg (by decide)]
      go_enter Try.func36, Try.ntmps36
      go_wp2_with fail
      refine bodyPost_ret (v := .tuple #[.agg #[.slice none 0 0, .int .i64 0], .int .i64 2]) (by simp [results, Try.results36, go_sem]) rfl ⟨rfl, hbel _⟩
    · have d2 : decide (p < 0) = false := by simp; omega
      by_cases h3 : (n : Int) < p
      · have d3 : decide ((n : Int) < p) = true := by simp; omega
        have hE : limE n p = 2 := by unfold limE; rw [if_neg h1, if_pos (.inr h3)]
        rw [hE, if_neg (by decide)]
        go_enter Try.func36, Try.ntmps36
        go_wp2_with fail
        refine bodyPost_ret (v := .tuple #[.agg #[.slice none 0 0, .int .i64 0], .int .i64 2]) (by simp [results, Try.results36, go_sem]) rfl ⟨rfl, hbel _⟩
      · have d3 : decide ((n : Int) < p) = false := by simp; omega
        have hE : limE n p = 0 := by unfold limE; rw [if_neg h1, if_neg (by omega)]
        rw [hE, if_pos rfl]
        go_enter Try.func36, Try.ntmps36
        go_wp2_with fail
        refine bodyPost_ret (v := .tuple #[.agg #[.slice A n c, .int .i64 p], .int .i64 0]) (by simp [results, Try.results36, go_sem]) rfl ⟨rfl, hbel _⟩
end Go.Proofs.Ytoodfmilleodaaa

/- Contracts of layer 2 at the bytecode chapters: Clone, PutInt; the reference's power, Size, PutInt. -/
import Derived.Test.YtlbhggjkcfcobaaDoorId
namespace Go.Proofs.YtlbhggjkcfcobaaDoor
open Go.RowKit Go.Proofs
set_option linter.unusedVariables false

theorem own_empty (w : World) (e : TypeId) : Own encB (w.alloc (.cells #[] e)) w.heap.size e (some ⟨w.heap.size, 0, none⟩) 0 0 [] :=
  ⟨rfl, .inr ⟨w.heap.size, 0, #[], rfl, Nat.le_refl _, heap_alloc_new w _, Nat.le_refl _, by simp [maxLen], rfl, rfl⟩⟩
set_option maxHeartbeats 1000000 in
theorem clone_any (A : Option Addr) (m c : Nat) (xs : List UInt8) (w : World) (hx : Bytes w A m c xs) (hm : m ≤ 1000000) :
    Calls Tryd.prog 61 #[.slice A m c] w (RetOwn w.heap.size w xs) := by
  have hq := Lib.run_eql_slice_nil (P := Tryd.prog)
  cases A with
  | none =>
    have h0 : m = 0 := by
      rcases Nat.eq_zero_or_pos m with h | h
      · exact h
      · obtain ⟨b, off, e, _⟩ := hx.2.2 h; cases e
    subst h0
    have hxs : xs = [] := List.length_eq_zero_iff.1 hx.1
    subst hxs
    have hr : ∀ w : World, (binOp .eql 41 (.slice none 0 c) (.slice none 0 0)).run Tryd.prog w = .ok (.bool true) w := fun w => by rw [hq w _ _ _ _ _ _ _ uB]; rfl
    clear hq
    go_enter Tryd.func61, Tryd.ntmps61
    go_wp2_with fail
    go_ret
    exact RetOwn.mk (Own.nil _ _ _ _) (Below.refl _ _)
  | some a =>
    have hr : ∀ w : World, (binOp .eql 41 (.slice (some a) m c) (.slice none 0 0)).run Tryd.prog w = .ok (.bool false) w := fun w => by rw [hq w _ _ _ _ _ _ _ uB]; rfl
    clear hq
    have hb0 : Below w.heap.size w (w.alloc (.cells #[] 5)) := (Below.refl _ _).alloc (Nat.le_refl _) _
    have hx1 := hx.below hb0
    have m1 : Hid (0 + m ≤ maxLen ∧ (0 + m) * 1 ≤ 140737488355328) := ⟨by simp [maxLen]; omega, by omega⟩
    have hB : Hid (w.heap.size ≤ (w.alloc (.cells #[] 5)).heap.size) := hb0.size
    go_enter Tryd.func61, Tryd.ntmps61
    go_wp2_with (at_builtin; refine wpList_app (enc := encB) rfl (.tmp 5) (.tmp 6) rfl uB infoB encB_one rfl rfl (own_empty w _) hB.out (some a) m c xs 0 hx1.1 hx1.2.2 rfl m1.out.1 m1.out.2 ?_; intro A6 c6 W6 ho6 hb6 hg6)
    go_ret
    rw [List.nil_append, Nat.zero_add] at ho6
    exact RetOwn.mk ho6 (hb0.trans hb6)

set_option maxHeartbeats 1000000 in
theorem putInt_any (A : Option Addr) (m c : Nat) (xs : List UInt8) (n : Nat) (w : World) (hx : Bytes w A m c xs) (hm : m ≤ 900000) (hn : n ≤ 9007199254740991) :
    Calls Tryd.prog 37 #[.slice A m c, .int .i64 (n : Int)] w (RetOwn w.heap.size w (xs ++ putG n)) := by
  have hcal := Lib.hid (clone_any A m c xs w hx (by omega))
  have Hm := Lib.hid hx.1
  go_enter Tryd.func37, Tryd.ntmps37
  go_wp2_with fail
  refine hcal.out.mono ?_
  rintro e w1 ⟨A1, n1, c1, rfl, ho1, hb1⟩
  have hn1 : n1 ≤ 900000 := by rw [← ho1.length, Hm.out]; exact hm
  have hcal2 := Lib.hid (put_any w.heap.size A1 n1 c1 xs n w1 ho1 hb1.size (by omega) hn)
  go_wp2_with fail
  refine hcal2.out.mono ?_
  rintro e w2 ⟨A2, n2, c2, rfl, ho2, hb2⟩
  go_wp2_with fail
  go_ret
  exact RetOwn.mk ho2 (hb1.trans hb2)

/-- 2 to the power of k. -/
def pw (k : Nat) : Nat := 2 ^ k
theorem pw_succ (k : Nat) : pw (k + 1) = 2 * pw k := by unfold pw; rw [Nat.pow_succ]; omega
theorem pw_mono {a b : Nat} (h : a ≤ b) : pw a ≤ pw b := Nat.pow_le_pow_right (by omega) h
theorem pw_pos (k : Nat) : 1 ≤ pw k := Nat.one_le_two_pow
theorem bitLen_bounds {n : Nat} (h : n < 18446744073709551616) (h0 : n ≠ 0) : 1 ≤ Lib.bitLen n ∧ 2 ^ (Lib.bitLen n - 1) ≤ n ∧ n < 2 ^ Lib.bitLen n := Lib.bitLenAux_bounds 64 n (by omega) h0
theorem furL_iff {n k : Nat} (hn : n < 72057594037927936) : pw (7 * (k + 1)) ≤ n ↔ k < furL n := by
  unfold furL pw
  rcases Nat.eq_zero_or_pos n with h | h
  · subst h
    have : Lib.bitLen 0 = 0 := by decide
    rw [this]
    have := Nat.one_le_two_pow (n := 7 * (k + 1))
    simp
  · obtain ⟨h1, h2, h3⟩ := bitLen_bounds (n := n) (by omega) (by omega)
    constructor
    · intro h4
      have h5 : 2 ^ (7 * (k + 1)) < 2 ^ Lib.bitLen n := Nat.lt_of_le_of_lt h4 h3
      have := (Nat.pow_lt_pow_iff_right (by omega : 1 < 2)).1 h5
      omega
    · intro h4
      exact Nat.le_trans (Nat.pow_le_pow_right (by omega) (by omega)) h2
theorem headR_val {n : Nat} (hn : n ≤ 9007199254740991) : 256 - pw (8 - furL n) + n / pw (8 * furL n) < 256 ∧ pw (8 - furL n) ≤ 256 ∧ encB (headG n) = .int .u8 ((256 - pw (8 - furL n) + n / pw (8 * furL n) : Nat) : Int) := by
  have hk := furL_le hn
  have h1 := furL_lt hn
  unfold headG pw
  obtain ⟨k, hke⟩ : ∃ k, k = furL n := ⟨_, rfl⟩
  rw [← hke] at hk h1 ⊢
  have h2 : n / 2 ^ (8 * k) < 2 ^ (7 - k) := by
    rw [Nat.div_lt_iff_lt_mul (Nat.two_pow_pos _), ← Nat.pow_add, show 7 - k + 8 * k = 7 * (k + 1) by omega]
    exact h1
  have h3 : 2 ^ (7 - k) ≤ 2 ^ 7 := Nat.pow_le_pow_right (by omega) (by omega)
  have h4 : 2 ^ (8 - k) = 2 * 2 ^ (7 - k) := by rw [show 8 - k = (7 - k) + 1 by omega, Nat.pow_succ, Nat.mul_comm]
  have h5 : 2 ^ 7 = 128 := rfl
  exact ⟨by omega, by omega, encB_ofNat (by omega)⟩
theorem tdiv_nat (a b : Nat) : (a : Int).tdiv (b : Int) = ((a / b : Nat) : Int) := by rw [Int.tdiv_eq_ediv_of_nonneg (by omega)]; exact (Int.natCast_ediv a b).symm
theorem tmod_nat (a b : Nat) : (a : Int).tmod (b : Int) = ((a % b : Nat) : Int) := by rw [Int.tmod_eq_emod_of_nonneg (by omega)]; exact (Int.natCast_emod a b).symm

end Go.Proofs.YtlbhggjkcfcobaaDoor

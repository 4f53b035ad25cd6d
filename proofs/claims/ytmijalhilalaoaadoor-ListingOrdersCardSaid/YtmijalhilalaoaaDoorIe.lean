/- Contracts of layer 2 at the bytecode chapters: Clone, PutInt; the reference's power, Size, PutInt. -/
import Derived.Test.YtmijalhilalaoaaDoorId
namespace Go.Proofs.YtmijalhilalaoaaDoor
open Go.RowKit Go.Proofs
set_option linter.unusedVariables false

theorem own_empty (w : World) (e : TypeId) : Own encB (w.alloc (.cells #[] e)) w.heap.size e (some ⟨w.heap.size, 0, none⟩) 0 0 [] :=
  ⟨rfl, .inr ⟨w.heap.size, 0, #[], rfl, Nat.le_refl _, heap_alloc_new w _, Nat.le_refl _, by simp [maxLen], rfl, rfl⟩⟩
set_option maxHeartbeats 1000000 in
theorem clone_any (A : Option Addr) (m c : Nat) (xs : List UInt8) (w : World) (hx : Bytes w A m c xs) (hm : m ≤ 1000000) :
    Calls Tryd.prog 67 #[.slice A m c] w (RetOwn w.heap.size w xs) := by
  have hq := Lib.run_eql_slice_nil (P := Tryd.prog)
  cases A with
  | none =>
    have h0 : m = 0 := by
      rcases Nat.eq_zero_or_pos m with h | h
      · exact h
      · obtain ⟨b, off, e, _⟩ := hx.2.2 h; cases e
    subst h0
    have hxs : xs = [] := List.length_eq_zero_iff.1 hx.1
    subst hxs
    have hr : ∀ w : World, (binOp .eql 50 (.slice none 0 c) (.slice none 0 0)).run Tryd.prog w = .ok (.bool true) w := fun w => by rw [hq w _ _ _ _ _ _ _ uB]; rfl
    clear hq
    go_enter Tryd.func67, Tryd.ntmps67
    go_wp2_with fail
    go_ret
    exact RetOwn.mk (Own.nil _ _ _ _) (Below.refl _ _)
  | some a =>
    have hr : ∀ w : World, (binOp .eql 50 (.slice (some a) m c) (.slice none 0 0)).run Tryd.prog w = .ok (.bool false) w := fun w => by rw [hq w _ _ _ _ _ _ _ uB]; rfl
    clear hq
    have hb0 : Below w.heap.size w (w.alloc (.cells #[] 5)) := (Below.refl _ _).alloc (Nat.le_refl _) _
    have hx1 := hx.below hb0
    have m1 : Hid (0 + m ≤ maxLen ∧ (0 + m) * 1 ≤ 140737488355328) := ⟨by simp [maxLen]; omega, by omega⟩
    have hB : Hid (w.heap.size ≤ (w.alloc (.cells #[] 5)).heap.size) := hb0.size
    go_enter Tryd.func67, Tryd.ntmps67
    go_wp2_with (at_builtin; refine wpList_app (enc := encB) rfl (.tmp 5) (.tmp 6) rfl uB infoB encB_one rfl rfl (own_empty w _) hB.out (some a) m c xs 0 hx1.1 hx1.2.2 rfl m1.out.1 m1.out.2 ?_; intro A6 c6 W6 ho6 hb6 hg6)
    go_ret
    rw [List.nil_append, Nat.zero_add] at ho6
    exact RetOwn.mk ho6 (hb0.trans hb6)

set_option maxHeartbeats 1000000 in
theorem putInt_any (A : Option Addr) (m c : Nat) (xs : List UInt8) (n : Nat) (w : World) (hx : Bytes w A m c xs) (hm : m ≤ 900000) (hn : n ≤ 9007199254740991) :
    Calls Tryd.prog 43 #[.slice A m c, .int .i64 (n : Int)] w (RetOwn w.heap.size w (xs ++ putG n)) := by
  have hcal := Lib.hid (clone_any A m c xs w hx (by omega))
  have Hm := Lib.hid hx.1
  go_enter Tryd.func43, Tryd.ntmps43
  go_wp2_with fail
  refine hcal.out.mono ?_
  rintro e w1 ⟨A1, n1, c1, rfl, ho1, hb1⟩
  have hn1 : n1 ≤ 900000 := by rw [← ho1.length, Hm.out]; exact hm
  have hcal2 := Lib.hid (put_any w.heap.size A1 n1 c1 xs n w1 ho1 hb1.size (by omega) hn)
  go_wp2_with fail
  refine hcal2.out.mono ?_
  rintro e w2 ⟨A2, n2, c2, rfl, ho2, hb2⟩
  go_wp2_with fail
  go_ret
  exact RetOwn.mk ho2 (hb1.trans hb2)

/-- 2 to the power of k. -/
def pw (k : Nat) : Nat := 2 ^ k
theorem pw_succ (k : Nat) : pw (k + 1) = 2 * pw k := by unfold pw; rw [Nat.pow_succ]; omega
theorem pw_mono {a b : Nat} (h : a ≤ b) : pw a ≤ pw b := Nat.pow_le_pow_right (by omega) h
theorem pw_pos (k : Nat) : 1 ≤ pw k := Nat.one_le_two_pow
set_option maxHeartbeats 400000 in
theorem power_any (n : Nat) (w : World) (hn : n ≤ 62) : Calls Tryd.prog 77 #[.int .i64 (n : Int)] w fun e w' => e = .returned (.int .i64 ((pw n : Nat) : Int)) ∧ w' = w := by
  go_enter Tryd.func77, Tryd.ntmps77
  go_wp2
  go_loop [3, 4] (fun p i => ∃ k : Nat, k ≤ n ∧ i = .int .i64 (k : Int) ∧ p = .int .i64 ((pw k : Nat) : Int)) (fun _ i => n - (intOf i).toNat)
  case atStart => exact ⟨0, Nat.zero_le _, rfl, rfl⟩
  case round =>
    obtain ⟨k, hk, rfl, rfl⟩ := hrel
    by_cases hlt : k < n
    · have hb : pw k ≤ 2305843009213693952 := Nat.le_trans (pw_mono (b := 61) (by omega)) (by decide)
      have hs := Lib.hid (pw_succ k)
      obtain ⟨p, hp⟩ : ∃ p, p = pw k := ⟨_, rfl⟩
      rw [← hp] at hb hs
      rw [← hp]
      clear hp
      have dk : decide ((k : Int) < (n : Int)) = true := by simp; omega
      have dk' : decide (k < n) = true := by simp; omega
      go_wp2
      go_round
      case rel => exact ⟨k + 1, by omega, by go_num, by rw [hs.out]; go_num⟩
      case measure => simp [intOf]; omega
    · have dk : decide ((k : Int) < (n : Int)) = false := by simp; omega
      have dk' : decide (k < n) = false := by simp; omega
      obtain rfl : n = k := by omega
      go_wp2
      go_ret
      exact ⟨rfl, rfl⟩

theorem numberR_any (n : Nat) (w : World) (hn : n ≤ 9007199254740991) : Calls Tryd.prog 75 #[.int .i64 (n : Int)] w fun e w' => e = .returned (.int .i64 (n : Int)) ∧ w' = w := by
  have d1 : decide ((n : Int) < 0) = false := by simp
  have d2 : decide ((9007199254740991 : Int) < (n : Int)) = false := by simp; omega
  go_enter Tryd.func75, Tryd.ntmps75
  go_wp2
  go_ret
  exact ⟨rfl, rfl⟩

theorem bitLen_bounds {n : Nat} (h : n < 18446744073709551616) (h0 : n ≠ 0) : 1 ≤ Lib.bitLen n ∧ 2 ^ (Lib.bitLen n - 1) ≤ n ∧ n < 2 ^ Lib.bitLen n := Lib.bitLenAux_bounds 64 n (by omega) h0
theorem furL_iff {n k : Nat} (hn : n < 72057594037927936) : pw (7 * (k + 1)) ≤ n ↔ k < furL n := by
  unfold furL pw
  rcases Nat.eq_zero_or_pos n with h | h
  · subst h
    have : Lib.bitLen 0 = 0 := by decide
    rw [this]
    have := Nat.one_le_two_pow (n := 7 * (k + 1))
    simp
  · obtain ⟨h1, h2, h3⟩ := bitLen_bounds (n := n) (by omega) (by omega)
    constructor
    · intro h4
      have h5 : 2 ^ (7 * (k + 1)) < 2 ^ Lib.bitLen n := Nat.lt_of_le_of_lt h4 h3
      have := (Nat.pow_lt_pow_iff_right (by omega : 1 < 2)).1 h5
      omega
    · intro h4
      exact Nat.le_trans (Nat.pow_le_pow_right (by omega) (by omega)) h2
set_option maxHeartbeats 400000 in
theorem sizeR_any (n : Nat) (w : World) (hn : n ≤ 9007199254740991) : Calls Tryd.prog 76 #[.int .i64 (n : Int)] w fun e w' => e = .returned (.int .i64 ((furL n : Nat) + 1 : Int)) ∧ w' = w := by
  have h1 := Lib.hid (numberR_any n w hn)
  have hle := furL_le hn
  have hlt := Lib.hid (fun k => furL_iff (n := n) (k := k) (by omega))
  obtain ⟨fu, hfu⟩ : ∃ fu, fu = furL n := ⟨_, rfl⟩
  rw [← hfu] at hle hlt
  rw [← hfu]
  clear hfu
  go_enter Tryd.func76, Tryd.ntmps76
  go_wp2
  go_loop [3] (fun i => ∃ k : Nat, k ≤ fu ∧ i = .int .i64 (k : Int)) (fun i => fu - (intOf i).toNat)
  case atStart => exact ⟨0, Nat.zero_le _, rfl⟩
  case round =>
    obtain ⟨k, hk, rfl⟩ := hrel
    have h2 := power_any (7 * (k + 1)) w (by omega)
    rw [show ((7 * (k + 1) : Nat) : Int) = 7 * ((k : Int) + 1) by omega] at h2
    have H2 := Lib.hid h2; clear h2
    have hiff := hlt.out k
    obtain ⟨p, hp⟩ : ∃ p, p = pw (7 * (k + 1)) := ⟨_, rfl⟩
    rw [← hp] at H2 hiff
    clear hp
    by_cases hkf : k < fu
    · have hpn : p ≤ n := hiff.2 hkf
      have d1 : decide ((p : Int) ≤ (n : Int)) = true := by simp; omega
      have d1' : decide (p ≤ n) = true := by simp; omega
      clear hiff
      go_wp2_with (first
        | (go_at_call 75; refine h1.out.mono ?_; rintro e w1 ⟨rfl, hw1⟩; obtain rfl : w = w1 := hw1.symm)
        | (go_at_call 77; refine H2.out.mono ?_; rintro e w1 ⟨rfl, hw1⟩; obtain rfl : w = w1 := hw1.symm))
      go_round
      case rel => exact ⟨k + 1, by omega, by go_num⟩
      case measure => simp [intOf]; omega
    · have hpn : ¬ p ≤ n := fun h => hkf (hiff.1 h)
      have d1 : decide ((p : Int) ≤ (n : Int)) = false := by simp; omega
      have d1' : decide (p ≤ n) = false := by simp; omega
      clear hiff
      go_wp2_with (first
        | (go_at_call 75; refine h1.out.mono ?_; rintro e w1 ⟨rfl, hw1⟩; obtain rfl : w = w1 := hw1.symm)
        | (go_at_call 77; refine H2.out.mono ?_; rintro e w1 ⟨rfl, hw1⟩; obtain rfl : w = w1 := hw1.symm))
      go_ret
      exact ⟨ret_int (by omega), rfl⟩

theorem headR_val {n : Nat} (hn : n ≤ 9007199254740991) : 256 - pw (8 - furL n) + n / pw (8 * furL n) < 256 ∧ pw (8 - furL n) ≤ 256 ∧ encB (headG n) = .int .u8 ((256 - pw (8 - furL n) + n / pw (8 * furL n) : Nat) : Int) := by
  have hk := furL_le hn
  have h1 := furL_lt hn
  unfold headG pw
  obtain ⟨k, hke⟩ : ∃ k, k = furL n := ⟨_, rfl⟩
  rw [← hke] at hk h1 ⊢
  have h2 : n / 2 ^ (8 * k) < 2 ^ (7 - k) := by
    rw [Nat.div_lt_iff_lt_mul (Nat.two_pow_pos _), ← Nat.pow_add, show 7 - k + 8 * k = 7 * (k + 1) by omega]
    exact h1
  have h3 : 2 ^ (7 - k) ≤ 2 ^ 7 := Nat.pow_le_pow_right (by omega) (by omega)
  have h4 : 2 ^ (8 - k) = 2 * 2 ^ (7 - k) := by rw [show 8 - k = (7 - k) + 1 by omega, Nat.pow_succ, Nat.mul_comm]
  have h5 : 2 ^ 7 = 128 := rfl
  exact ⟨by omega, by omega, encB_ofNat (by omega)⟩
theorem tdiv_nat (a b : Nat) : (a : Int).tdiv (b : Int) = ((a / b : Nat) : Int) := by rw [Int.tdiv_eq_ediv_of_nonneg (by omega)]; exact (Int.natCast_ediv a b).symm
theorem tmod_nat (a b : Nat) : (a : Int).tmod (b : Int) = ((a % b : Nat) : Int) := by rw [Int.tmod_eq_emod_of_nonneg (by omega)]; exact (Int.natCast_emod a b).symm

set_option maxHeartbeats 1000000 in
theorem putIntR_any (A : Option Addr) (m c : Nat) (xs : List UInt8) (n : Nat) (w : World) (hx : Bytes w A m c xs) (hm : m ≤ 900000) (hn : n ≤ 9007199254740991) :
    Calls Tryd.prog 55 #[.slice A m c, .int .i64 (n : Int)] w (RetOwn w.heap.size w (xs ++ putG n)) := by
  have h1 := Lib.hid (numberR_any n w (by omega))
  have H2 := Lib.hid (sizeR_any n w (by omega))
  have hk := furL_le hn
  have hv3 := headR_val hn
  have hP : Hid (xs ++ putG n = (xs ++ [headG n]) ++ tailG n (furL n)) := by show _ = _; rw [List.append_assoc]; rfl
  obtain ⟨k, hke⟩ : ∃ k, k = furL n := ⟨_, rfl⟩
  rw [← hke] at H2 hk hP hv3
  clear hke
  obtain ⟨hd, hhd⟩ : ∃ hd, hd = headG n := ⟨_, rfl⟩
  rw [← hhd] at hP hv3
  clear hhd
  obtain ⟨hv1, hv2, hv⟩ := hv3
  have Hx := Lib.hid hx.1
  have m1 : Hid (0 + m ≤ maxLen ∧ (0 + m) * 1 ≤ 140737488355328) := ⟨by simp [maxLen]; omega, by omega⟩
  have m2 : Hid (m + 1 ≤ maxLen ∧ (m + 1) * 1 ≤ 140737488355328) := ⟨by simp [maxLen]; omega, by omega⟩
  go_enter Tryd.func55, Tryd.ntmps55
  go_wp2_with (first
    | (go_at_call 75; refine h1.out.mono ?_; rintro e w1 ⟨rfl, hw1⟩; obtain rfl : w = w1 := hw1.symm)
    | (go_at_call 76; refine H2.out.mono ?_; rintro e w1 ⟨rfl, hw1⟩; obtain rfl : w = w1 := hw1.symm)
    | (at_builtin; refine wpList_app (enc := encB) rfl (.tmp 13) (.tmp 14) rfl uB infoB encB_one rfl rfl (Own.nil encB w w.heap.size _) (Nat.le_refl _) A m c xs 0 Hx.out hx.2.2 rfl m1.out.1 m1.out.2 ?_; intro A6 c6 W6 ho6 hb6 hg6))
  rw [List.nil_append, Nat.zero_add] at ho6
  have H8 := power_any (8 - k) W6 (by omega)
  have H0 := power_any (8 * k) W6 (by omega)
  rw [show ((8 - k : Nat) : Int) = 8 - (k : Int) by omega] at H8
  rw [show ((8 * k : Nat) : Int) = 8 * (k : Int) by omega] at H0
  have hq := tdiv_nat n (pw (8 * k))
  have hp0 := pw_pos (8 * k)
  obtain ⟨p, hp⟩ : ∃ p, p = pw (8 - k) := ⟨_, rfl⟩
  obtain ⟨q, hqe⟩ : ∃ q, q = pw (8 * k) := ⟨_, rfl⟩
  rw [← hp] at H8 hv1 hv2 hv
  rw [← hqe] at H0 hv1 hv hq hp0
  clear hp hqe
  obtain ⟨d, hd'⟩ : ∃ d, d = n / q := ⟨_, rfl⟩
  rw [← hd'] at hv1 hv hq
  have hdn : d ≤ n := by rw [hd']; exact Nat.div_le_self _ _
  clear hd'
  have hq0 : ((q : Int) == 0) = false := by simp; omega
  have hvv : Hid (encB hd = .int .u8 ((256 : Int) - (p : Int) + (d : Int))) := by show _ = _; rw [hv]; congr 1; omega
  have G8 := Lib.hid H8; clear H8
  have G0 := Lib.hid H0; clear H0
  have hsz6 := Lib.hid hb6.size
  have hw1 : ((256 : Int) - (p : Int) + (d : Int)) % 256 = 256 - (p : Int) + (d : Int) := by omega
  clear hv
  refine G8.out.mono ?_
  rintro e w1 ⟨rfl, hw1'⟩
  obtain rfl : W6 = w1 := hw1'.symm
  clear G8
  go_wp2_with fail
  refine G0.out.mono ?_
  rintro e w1 ⟨rfl, hw1'⟩
  obtain rfl : W6 = w1 := hw1'.symm
  clear G0
  go_wp2_with (at_builtin; refine wpList_pushv (enc := encB) rfl (.tmp 16) (.tmp 28) rfl uB infoB encB_one rfl rfl ho6 hsz6.out hd _ hvv.out rfl m2.out.1 m2.out.2 ?_; intro A7 c7 W7 ho7 hb7)
  have b7 := hb6.trans hb7
  clear h1 H2 m1 m2 hvv hw1 hq hq0 hv1 hv2 hb6 hb7 ho6 hsz6 hg6 hdn hp0
  go_loopw [6, 7] (fun dd i wr => ∃ (j n3 c3 : Nat) (A3 : Option Addr) (ys : List UInt8), j ≤ k ∧ i = .int .i64 ((j : Int) - 1) ∧ dd = .slice A3 n3 c3 ∧ n3 ≤ m + 1 + (k - j) ∧ Own encB wr w.heap.size 5 A3 n3 c3 ys ∧ Hid (ys ++ tailG n j = xs ++ putG n) ∧ Below w.heap.size w wr) (fun _ i _ => (intOf i + 1).toNat)
  case atStart => exact ⟨k, _, _, _, _, Nat.le_refl _, by go_num, rfl, by omega, ho7, hP.out.symm, b7⟩
  case round =>
    clear ho7 b7
    obtain ⟨j, n3, c3, A3, ys, hj, rfl, rfl, hn3, ho3, HY, hb3⟩ := hrel
    cases j with
    | zero =>
      have HY' : Hid (ys = xs ++ putG n) := by show _ = _; rw [← HY.out]; exact (List.append_nil _).symm
      have d1 : decide ((0 : Int) ≤ ((0 : Nat) : Int) - 1) = false := by decide
      go_wp2_with fail
      go_ret
      rw [HY'.out] at ho3
      exact RetOwn.mk ho3 hb3
    | succ j =>
      have m1 : Hid (n3 + 1 ≤ maxLen ∧ (n3 + 1) * 1 ≤ 140737488355328) := ⟨by simp [maxLen]; omega, by omega⟩
      have HY' : Hid ((ys ++ [UInt8.ofNat (n / 2 ^ (8 * j))]) ++ tailG n j = xs ++ putG n) := by show _ = _; rw [← HY.out, List.append_assoc]; rfl
      have e1 : ((j + 1 : Nat) : Int) - 1 = (j : Int) := by omega
      rw [e1]
      have hv : Hid (encB (UInt8.ofNat (n / 2 ^ (8 * j))) = .int .u8 ((n / pw (8 * j) % 256 : Nat) : Int)) := encB_mod _
      have H0 := power_any (8 * j) wr (by omega)
      rw [show ((8 * j : Nat) : Int) = 8 * (j : Int) by omega] at H0
      have hq := tdiv_nat n (pw (8 * j))
      have hp0 := pw_pos (8 * j)
      obtain ⟨q, hqe⟩ : ∃ q, q = pw (8 * j) := ⟨_, rfl⟩
      rw [← hqe] at H0 hq hp0 hv
      clear hqe
      obtain ⟨d, hd'⟩ : ∃ d, d = n / q := ⟨_, rfl⟩
      rw [← hd'] at hq hv
      have hdn : d ≤ n := by rw [hd']; exact Nat.div_le_self _ _
      clear hd'
      have hq0 : ((q : Int) == 0) = false := by simp; omega
      have hr := tmod_nat d 256
      have hr' : (d : Int).tmod 256 = ((d % 256 : Nat) : Int) := hr
      have hw1 : ((d % 256 : Nat) : Int) % 256 = ((d % 256 : Nat) : Int) := by omega
      have G0 := Lib.hid H0; clear H0 hr
      obtain ⟨bt, hbt⟩ : ∃ bt, bt = UInt8.ofNat (n / 2 ^ (8 * j)) := ⟨_, rfl⟩
      rw [← hbt] at hv HY'
      clear hbt HY e1
      obtain ⟨dm, hdm⟩ : ∃ dm, dm = d % 256 := ⟨_, rfl⟩
      have hdm2 : dm < 256 := by omega
      rw [← hdm] at hv hr' hw1
      clear hdm
      have hsz := hb3.size
      go_wp2_with fail
      refine G0.out.mono ?_
      rintro e w1 ⟨rfl, hw1'⟩
      obtain rfl : wr = w1 := hw1'.symm
      clear G0
      go_wp2_with (at_builtin; refine wpList_pushv (enc := encB) rfl (.tmp 36) (.tmp 44) rfl uB infoB encB_one rfl rfl ho3 hsz bt _ hv.out rfl m1.out.1 m1.out.2 ?_; intro A7 c7 W7 ho7 hb7)
      go_roundw
      case rel => exact ⟨j, n3 + 1, c7, A7, _, by omega, by go_num, rfl, by omega, ho7, HY'.out, hb3.trans hb7⟩
      case measure => simp [intOf]
end Go.Proofs.YtmijalhilalaoaaDoor

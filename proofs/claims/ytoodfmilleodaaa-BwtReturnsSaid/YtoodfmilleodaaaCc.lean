/- wire.PutInt of the program and of the reference: numbers from 128 to 255 (two bytes). -/
import Derived.Test.YtoodfmilleodaaaCb
namespace Go.Proofs.Ytoodfmilleodaaa
open Go.RowKit Go.Proofs Go.Sort
set_option linter.unusedVariables false

theorem furL_two : ∀ n : Fin 256, 128 ≤ n.val → furL n.val = 1 := by decide +kernel
theorem or_128 : bits BinOp.or IntKind.u8 128 0 = 128 := by decide +kernel
set_option maxHeartbeats 1000000 in
theorem put_two (B : Nat) (A : Option Addr) (m c : Nat) (xs : List UInt8) (n : Nat) (w : World) (hown : Own encB w B 5 A m c xs) (hB : B ≤ w.heap.size) (hm : m ≤ 1000000) (h1 : 128 ≤ n) (h2 : n ≤ 255) :
    Calls Try.prog 70 #[.slice A m c, .int .i64 (n : Int)] w (RetOwn B w (xs ++ [128, UInt8.ofNat n])) := by
  have g1 := Lib.hid (number_any n w (by omega))
  have g2 := further_any n w (by omega)
  rw [furL_two ⟨n, by omega⟩ h1] at g2
  have G2 := Lib.hid g2; clear g2
  have hor := or_128
  have hdiv : (n : Int) / 256 = 0 := by omega
  have hdiv1 : (n : Int) / 1 = n := by omega
  have hv0 : Hid (encB 128 = .int .u8 128) := rfl
  have hv : Hid (encB (UInt8.ofNat n) = .int .u8 (n : Int)) := by show _ = _; unfold encB; rw [UInt8.toNat_ofNat', Nat.mod_eq_of_lt (by omega)]
  have m1 : Hid (m + 1 ≤ maxLen ∧ (m + 1) * 1 ≤ 140737488355328) := ⟨by simp [maxLen]; omega, by omega⟩
  have m2 : Hid (m + 1 + 1 ≤ maxLen ∧ (m + 1 + 1) * 1 ≤ 140737488355328) := ⟨by simp [maxLen]; omega, by omega⟩
  go_enter Try.func70, Try.ntmps70
  go_wp2_with (first
    | (go_at_call 86; refine g1.out.mono ?_; rintro e w1 ⟨rfl, hw1⟩; obtain rfl : w = w1 := hw1.symm)
    | (go_at_call 75; refine G2.out.mono ?_; rintro e w1 ⟨rfl, hw1⟩; obtain rfl : w = w1 := hw1.symm)
    | (at_builtin; refine wpList_pushv (enc := encB) rfl (.tmp 15) (.tmp 23) rfl uB infoB encB_one rfl rfl hown hB 128 _ hv0.out rfl m1.out.1 m1.out.2 ?_; intro A6 c6 W6 ho6 hb6; have hB6 := Nat.le_trans hB hb6.size))
  refine wp_loop_rounds 2 ?_
  rw [rounds_succ]
  go_wp2_with (at_builtin; refine wpList_pushv (enc := encB) rfl (.tmp 31) (.tmp 37) rfl uB infoB encB_one rfl rfl ho6 hB6 (UInt8.ofNat n) _ hv.out rfl m2.out.1 m2.out.2 ?_; intro A7 c7 W7 ho7 hb7)
  rw [rounds_succ]
  go_wp2_with fail
  go_ret
  rw [List.append_assoc] at ho7
  exact RetOwn.mk ho7 (hb6.trans hb7)
/-- the bytes of a number below 256. -/
def putL (n : Nat) : List UInt8 := if n ≤ 127 then [UInt8.ofNat n] else [128, UInt8.ofNat n]
theorem put_255 (B : Nat) (A : Option Addr) (m c : Nat) (xs : List UInt8) (n : Nat) (w : World) (hown : Own encB w B 5 A m c xs) (hB : B ≤ w.heap.size) (hm : m ≤ 1000000) (h2 : n ≤ 255) :
    Calls Try.prog 70 #[.slice A m c, .int .i64 (n : Int)] w (RetOwn B w (xs ++ putL n)) := by
  unfold putL
  by_cases h : n ≤ 127
  · rw [if_pos h]; exact put_small B A m c xs n w hown hB hm h
  · rw [if_neg h]; exact put_two B A m c xs n w hown hB hm (by omega) h2
set_option maxHeartbeats 1000000 in
theorem putInt_255 (A : Option Addr) (m c : Nat) (xs : List UInt8) (n : Nat) (w : World) (hx : Bytes w A m c xs) (hm : m ≤ 900000) (hn : n ≤ 255) :
    Calls Try.prog 49 #[.slice A m c, .int .i64 (n : Int)] w (RetOwn w.heap.size w (xs ++ putL n)) := by
  have hcal := Lib.hid (clone_any A m c xs w hx (by omega))
  have Hm := Lib.hid hx.1
  go_enter Try.func49, Try.ntmps49
  go_wp2_with fail
  refine hcal.out.mono ?_
  rintro e w1 ⟨A1, n1, c1, rfl, ho1, hb1⟩
  have hn1 : n1 ≤ 900000 := by rw [← ho1.length, Hm.out]; exact hm
  have hcal2 := Lib.hid (put_255 w.heap.size A1 n1 c1 xs n w1 ho1 hb1.size (by omega) hn)
  go_wp2_with fail
  refine hcal2.out.mono ?_
  rintro e w2 ⟨A2, n2, c2, rfl, ho2, hb2⟩
  go_wp2_with fail
  go_ret
  exact RetOwn.mk ho2 (hb1.trans hb2)

set_option maxHeartbeats 1000000 in
theorem putIntR_two (A : Option Addr) (m c : Nat) (xs : List UInt8) (n : Nat) (w : World) (hx : Bytes w A m c xs) (hm : m ≤ 900000) (h1 : 128 ≤ n) (h2 : n ≤ 255) :
    Calls Try.prog 50 #[.slice A m c, .int .i64 (n : Int)] w (RetOwn w.heap.size w (xs ++ [128, UInt8.ofNat n])) := by
  have g1 := Lib.hid (numberR_any n w (by omega))
  have g2 := sizeR_any n w (by omega)
  rw [furL_two ⟨n, by omega⟩ h1] at g2
  have G2 := Lib.hid g2; clear g2
  have Hx := Lib.hid hx.1
  have m1 : Hid (0 + m ≤ maxLen ∧ (0 + m) * 1 ≤ 140737488355328) := ⟨by simp [maxLen]; omega, by omega⟩
  have m2 : Hid (m + 1 ≤ maxLen ∧ (m + 1) * 1 ≤ 140737488355328) := ⟨by simp [maxLen]; omega, by omega⟩
  have m3 : Hid (m + 1 + 1 ≤ maxLen ∧ (m + 1 + 1) * 1 ≤ 140737488355328) := ⟨by simp [maxLen]; omega, by omega⟩
  have hdiv : (n : Int).tdiv 256 = 0 := by rw [Int.tdiv_eq_ediv_of_nonneg (by omega)]; omega
  have hdiv1 : (n : Int).tdiv 1 = n := by rw [Int.tdiv_one]
  have hmod : (n : Int).tmod 256 = n := by rw [Int.tmod_eq_emod_of_nonneg (by omega)]; omega
  have hv0 : Hid (encB 128 = .int .u8 128) := rfl
  have hv : Hid (encB (UInt8.ofNat n) = .int .u8 (n : Int)) := by show _ = _; unfold encB; rw [UInt8.toNat_ofNat', Nat.mod_eq_of_lt (by omega)]
  go_enter Try.func50, Try.ntmps50
  go_wp2_with (first
    | (go_at_call 71; refine g1.out.mono ?_; rintro e w1 ⟨rfl, hw1⟩; obtain rfl : w = w1 := hw1.symm)
    | (go_at_call 72; refine G2.out.mono ?_; rintro e w1 ⟨rfl, hw1⟩; obtain rfl : w = w1 := hw1.symm)
    | (at_builtin; refine wpList_app (enc := encB) rfl (.tmp 13) (.tmp 14) rfl uB infoB encB_one rfl rfl (Own.nil encB w w.heap.size _) (Nat.le_refl _) A m c xs 0 Hx.out hx.2.2 rfl m1.out.1 m1.out.2 ?_; intro A6 c6 W6 ho6 hb6 hg6))
  rw [List.nil_append, Nat.zero_add] at ho6
  have H7 := power_any 7 W6 (by omega)
  have H8 := power_any 8 W6 (by omega)
  rw [show pw 8 = 256 from rfl] at H8
  rw [show pw 7 = 128 from rfl] at H7
  have G8 := Lib.hid H8; clear H8
  have G7 := Lib.hid H7; clear H7
  have hsz6 := Lib.hid hb6.size
  refine G7.out.mono ?_
  rintro e w1 ⟨rfl, hw1⟩
  obtain rfl : W6 = w1 := hw1.symm
  go_wp2_with fail
  refine G8.out.mono ?_
  rintro e w1 ⟨rfl, hw1⟩
  obtain rfl : W6 = w1 := hw1.symm
  go_wp2_with (at_builtin; refine wpList_pushv (enc := encB) rfl (.tmp 16) (.tmp 28) rfl uB infoB encB_one rfl rfl ho6 hsz6.out 128 _ hv0.out rfl m2.out.1 m2.out.2 ?_; intro A7 c7 W7 ho7 hb7; have hB7 := Nat.le_trans hsz6.out hb7.size)
  refine wp_loop_rounds 2 ?_
  rw [rounds_succ]
  have H0 := power_any 0 W7 (by omega)
  rw [show pw 0 = 1 from rfl] at H0
  have G0 := Lib.hid H0; clear H0
  go_wp2_with fail
  refine G0.out.mono ?_
  rintro e w1 ⟨rfl, hw1⟩
  obtain rfl : W7 = w1 := hw1.symm
  go_wp2_with (at_builtin; refine wpList_pushv (enc := encB) rfl (.tmp 36) (.tmp 44) rfl uB infoB encB_one rfl rfl ho7 hB7 (UInt8.ofNat n) _ hv.out rfl m3.out.1 m3.out.2 ?_; intro A8 c8 W8 ho8 hb8)
  rw [rounds_succ]
  go_wp2_with fail
  go_ret
  rw [List.append_assoc] at ho8
  exact RetOwn.mk ho8 ((hb6.trans hb7).trans hb8)
theorem putIntR_255 (A : Option Addr) (m c : Nat) (xs : List UInt8) (n : Nat) (w : World) (hx : Bytes w A m c xs) (hm : m ≤ 900000) (hn : n ≤ 255) :
    Calls Try.prog 50 #[.slice A m c, .int .i64 (n : Int)] w (RetOwn w.heap.size w (xs ++ putL n)) := by
  unfold putL
  by_cases h : n ≤ 127
  · rw [if_pos h]; exact putIntR_small A m c xs n w hx hm h
  · rw [if_neg h]; exact putIntR_two A m c xs n w hx hm (by omega) hn
end Go.Proofs.Ytoodfmilleodaaa

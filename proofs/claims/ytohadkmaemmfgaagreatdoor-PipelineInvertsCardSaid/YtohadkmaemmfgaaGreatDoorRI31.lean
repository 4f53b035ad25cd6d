/- Dw Dx Ca Cb Cc. -/
import Derived.Test.YtohadkmaemmfgaaGreatDoorRI30
import Derived.Lib.ItoaNum
import Derived.Laws.BitsLemmas
import Derived.IntWalk
import Derived.Test.YtohadkmaemmfgaaGreatDoorRI09
import Derived.Test.YtohadkmaemmfgaaGreatDoorRI15
import Derived.Test.YtohadkmaemmfgaaGreatDoorRI06
import Derived.WalkSpells
set_option maxRecDepth 100000
set_option maxHeartbeats 4000000
namespace Go.Proofs.YtohadkmaemmfgaaGreatDoor.Dic
open Go.RowKit Go.Proofs Go.Sort
set_option linter.unusedVariables false
def pw (k : Nat) : Nat := 2 ^ k
theorem pw_succ (k : Nat) : pw (k + 1) = 2 * pw k := by unfold pw; rw [Nat.pow_succ]; omega
theorem pw_mono {a b : Nat} (h : a ≤ b) : pw a ≤ pw b := Nat.pow_le_pow_right (by omega) h
theorem pw_pos (k : Nat) : 1 ≤ pw k := Nat.one_le_two_pow
theorem power_any (n : Nat) (w : World) (hn : n ≤ 62) : Calls Tryz.prog 169 #[.int .i64 (n : Int)] w fun e w' => e = .returned (.int .i64 ((pw n : Nat) : Int)) ∧ w' = w := by
  go_enter Tryz.func169, Tryz.ntmps169
  go_wp2
  go_loop [3, 4] (fun p i => ∃ k : Nat, k ≤ n ∧ i = .int .i64 (k : Int) ∧ p = .int .i64 ((pw k : Nat) : Int)) (fun _ i => n - (intOf i).toNat)
  case atStart => exact ⟨0, Nat.zero_le _, rfl, rfl⟩
  case round =>
    obtain ⟨k, hk, rfl, rfl⟩ := hrel
    by_cases hlt : k < n
    · have hb : pw k ≤ 2305843009213693952 := Nat.le_trans (pw_mono (b := 61) (by omega)) (by decide)
      have hs := Lib.hid (pw_succ k)
      obtain ⟨p, hp⟩ : ∃ p, p = pw k := ⟨_, rfl⟩
      rw [← hp] at hb hs
      rw [← hp]
      clear hp
      have dk : decide ((k : Int) < (n : Int)) = true := by simp; omega
      have dk' : decide (k < n) = true := by simp; omega
      go_wp2
      go_round
      case rel => exact ⟨k + 1, by omega, by go_num, by rw [hs.out]; go_num⟩
      case measure => simp [intOf]; omega
    · have dk : decide ((k : Int) < (n : Int)) = false := by simp; omega
      have dk' : decide (k < n) = false := by simp; omega
      obtain rfl : n = k := by omega
      go_wp2
      go_ret
      exact ⟨rfl, rfl⟩
theorem numberR_any (n : Nat) (w : World) (hn : n ≤ 9007199254740991) : Calls Tryz.prog 179 #[.int .i64 (n : Int)] w fun e w' => e = .returned (.int .i64 (n : Int)) ∧ w' = w := by
  have d1 : decide ((n : Int) < 0) = false := by simp
  have d2 : decide ((9007199254740991 : Int) < (n : Int)) = false := by simp; omega
  go_enter Tryz.func179, Tryz.ntmps179
  go_wp2
  go_ret
  exact ⟨rfl, rfl⟩
theorem bitLen_bounds {n : Nat} (h : n < 18446744073709551616) (h0 : n ≠ 0) : 1 ≤ Lib.bitLen n ∧ 2 ^ (Lib.bitLen n - 1) ≤ n ∧ n < 2 ^ Lib.bitLen n := Lib.bitLenAux_bounds 64 n (by omega) h0
theorem furL_lt {n k : Nat} (hn : n < 72057594037927936) : pw (7 * (k + 1)) ≤ n ↔ k < furL n := by
  unfold furL pw
  rcases Nat.eq_zero_or_pos n with h | h
  · subst h
    have : Lib.bitLen 0 = 0 := by decide
    rw [this]
    have := Nat.one_le_two_pow (n := 7 * (k + 1))
    simp
  · obtain ⟨h1, h2, h3⟩ := bitLen_bounds (n := n) (by omega) (by omega)
    constructor
    · intro h4
      have h5 : 2 ^ (7 * (k + 1)) < 2 ^ Lib.bitLen n := Nat.lt_of_le_of_lt h4 h3
      have := (Nat.pow_lt_pow_iff_right (by omega : 1 < 2)).1 h5
      omega
    · intro h4
      exact Nat.le_trans (Nat.pow_le_pow_right (by omega) (by omega)) h2
theorem furL_le {n : Nat} (hn : n < 72057594037927936) : furL n ≤ 7 := by
  have : Lib.bitLen n ≤ 56 := Lib.bitLen_le n 56 (by omega) (by omega)
  unfold furL; omega
theorem sizeR_any (n : Nat) (w : World) (hn : n ≤ 9007199254740991) : Calls Tryz.prog 170 #[.int .i64 (n : Int)] w fun e w' => e = .returned (.int .i64 ((furL n : Nat) + 1 : Int)) ∧ w' = w := by
  have h1 := Lib.hid (numberR_any n w hn)
  have hle := furL_le (n := n) (by omega)
  have hlt := Lib.hid (fun k => furL_lt (n := n) (k := k) (by omega))
  obtain ⟨fu, hfu⟩ : ∃ fu, fu = furL n := ⟨_, rfl⟩
  rw [← hfu] at hle hlt
  rw [← hfu]
  clear hfu
  go_enter Tryz.func170, Tryz.ntmps170
  go_wp2
  go_loop [3] (fun i => ∃ k : Nat, k ≤ fu ∧ i = .int .i64 (k : Int)) (fun i => fu - (intOf i).toNat)
  case atStart => exact ⟨0, Nat.zero_le _, rfl⟩
  case round =>
    obtain ⟨k, hk, rfl⟩ := hrel
    have h2 := power_any (7 * (k + 1)) w (by omega)
    rw [show ((7 * (k + 1) : Nat) : Int) = 7 * ((k : Int) + 1) by omega] at h2
    have H2 := Lib.hid h2; clear h2
    have hiff := hlt.out k
    obtain ⟨p, hp⟩ : ∃ p, p = pw (7 * (k + 1)) := ⟨_, rfl⟩
    rw [← hp] at H2 hiff
    clear hp
    by_cases hkf : k < fu
    · have hpn : p ≤ n := hiff.2 hkf
      have d1 : decide ((p : Int) ≤ (n : Int)) = true := by simp; omega
      have d1' : decide (p ≤ n) = true := by simp; omega
      clear hiff
      go_wp2_with (first
        | (go_at_call 179; refine h1.out.mono ?_; rintro e w1 ⟨rfl, hw1⟩; obtain rfl : w = w1 := hw1.symm)
        | (go_at_call 169; refine H2.out.mono ?_; rintro e w1 ⟨rfl, hw1⟩; obtain rfl : w = w1 := hw1.symm))
      go_round
      case rel => exact ⟨k + 1, by omega, by go_num⟩
      case measure => simp [intOf]; omega
    · have hpn : ¬ p ≤ n := fun h => hkf (hiff.1 h)
      have d1 : decide ((p : Int) ≤ (n : Int)) = false := by simp; omega
      have d1' : decide (p ≤ n) = false := by simp; omega
      clear hiff
      go_wp2_with (first
        | (go_at_call 179; refine h1.out.mono ?_; rintro e w1 ⟨rfl, hw1⟩; obtain rfl : w = w1 := hw1.symm)
        | (go_at_call 169; refine H2.out.mono ?_; rintro e w1 ⟨rfl, hw1⟩; obtain rfl : w = w1 := hw1.symm))
      go_ret
      exact ⟨ret_int (by omega), rfl⟩
theorem restR_any (A : Option Addr) (m c : Nat) (xs : List UInt8) (w : World) (hx : Bytes w A m c xs) (hm : m ≤ 1000000) :
    Calls Tryz.prog 171 #[.slice A m c] w (RetOwn w.heap.size w xs) := by
  have m1 : Hid (0 + m ≤ maxLen ∧ (0 + m) * 1 ≤ 140737488355328) := ⟨by simp [maxLen]; omega, by omega⟩
  have Hx := Lib.hid hx.1
  go_enter Tryz.func171, Tryz.ntmps171
  go_wp2_with (at_builtin; refine wpList_app (enc := encB) rfl (.tmp 4) (.tmp 5) rfl uB infoB encB_one rfl rfl (Own.nil encB w w.heap.size _) (Nat.le_refl _) A m c xs 0 Hx.out hx.2.2 rfl m1.out.1 m1.out.2 ?_; intro A6 c6 W6 ho6 hb6 hg6)
  go_ret
  rw [List.nil_append, Nat.zero_add] at ho6
  exact RetOwn.mk ho6 hb6
def onesN (b : Nat) : Nat := 8 - Lib.bitLen (255 - b)
def headN (b : Nat) : Nat := b - (256 - 2 ^ (8 - onesN b))
def numTo (src : List UInt8) (b0 : Nat) : Nat → Nat
  | 0 => b0
  | j + 1 => 256 * numTo src b0 j + (src.getD (j + 1) 0).toNat
def intL (src : List UInt8) : Nat × List UInt8 × Nat :=
  if src = [] then (0, [], 9)
  else if (src.getD 0 0).toNat = 255 then (0, [], 3)
  else if src.length ≤ onesN (src.getD 0 0).toNat then (0, [], 9)
  else if 9007199254740991 < numTo src (headN (src.getD 0 0).toNat) (onesN (src.getD 0 0).toNat) ∨ furL (numTo src (headN (src.getD 0 0).toNat) (onesN (src.getD 0 0).toNat)) ≠ onesN (src.getD 0 0).toNat then (0, [], 3)
  else (numTo src (headN (src.getD 0 0).toNat) (onesN (src.getD 0 0).toNat), src.drop (onesN (src.getD 0 0).toNat + 1), 0)
theorem ones_le : ∀ b : Fin 255, onesN b.val ≤ 7 := by decide +kernel
theorem ones_255 : onesN 255 = 8 := by decide +kernel
theorem ones_step : ∀ b : Fin 255, ∀ k : Fin 8, (256 - pw (7 - k.val) ≤ b.val ↔ k.val < onesN b.val) := by decide +kernel
theorem head_lt : ∀ b : Fin 255, headN b.val < pw (7 - onesN b.val) := by decide +kernel
theorem head_eq : ∀ b : Fin 255, 256 - pw (8 - onesN b.val) + headN b.val = b.val ∧ pw (8 - onesN b.val) ≤ 256 := by decide +kernel
theorem head_and : ∀ b : Fin 255, bits BinOp.and IntKind.u8 (b.val : Int) (127 / 2 ^ onesN b.val : Int) = ((headN b.val : Nat) : Int) := by decide +kernel
theorem xor_255 : ∀ b : Fin 256, bits BinOp.xor IntKind.u8 IntKind.u8.max (b.val : Int) = ((255 - b.val : Nat) : Int) := by decide +kernel
theorem ones_int : ∀ b : Fin 256, (8 : Int) - ((Lib.bitLen (255 - b.val) : Nat) : Int) = ((onesN b.val : Nat) : Int) := by decide +kernel
theorem numTo_lt (src : List UInt8) (b0 k : Nat) (h : b0 < pw (7 - k)) : ∀ j, numTo src b0 j < pw (7 - k + 8 * j)
  | 0 => h
  | j + 1 => by
    have ih := numTo_lt src b0 k h j
    have hb := (src.getD (j + 1) 0).toNat_lt
    have e : pw (7 - k + 8 * (j + 1)) = 256 * pw (7 - k + 8 * j) := by
      unfold pw
      rw [show 7 - k + 8 * (j + 1) = 8 + (7 - k + 8 * j) by omega, Nat.pow_add]
    rw [numTo, e]
    omega
theorem numTo_small {src : List UInt8} {b0 k j : Nat} (h : b0 < pw (7 - k)) (hk : k ≤ 7) (hj : j ≤ k) : numTo src b0 j < 72057594037927936 := by
  have h1 := numTo_lt src b0 k h j
  have h2 : pw (7 - k + 8 * j) ≤ pw 56 := pw_mono (by omega)
  have h3 : pw 56 = 72057594037927936 := rfl
  omega
theorem numTo_smaller {src : List UInt8} {b0 k j : Nat} (h : b0 < pw (7 - k)) (hk : k ≤ 7) (hj : j < k) : numTo src b0 j < 281474976710656 := by
  have h1 := numTo_lt src b0 k h j
  have h2 : pw (7 - k + 8 * j) ≤ pw 48 := pw_mono (by omega)
  have h3 : pw 48 = 281474976710656 := rfl
  omega
theorem or_join {N y : Nat} (hN : N < 281474976710656) (hy : y < 256) : bits BinOp.or IntKind.i64 ((N : Int) * 256) (y : Int) = (N : Int) * 256 + (y : Int) :=
  bits_join .i64 63 (by decide) (fun n h1 h2 => IntWalk.i64_in n ⟨by omega, by omega⟩) 8 _ _ (by omega) (by omega) (by omega) (by omega) (by omega) (by omega)
def RetIntB (w : World) (x : Nat × List UInt8 × Nat) (e : Ending) (w' : World) : Prop := ∃ A m c, e = .returned (.tuple #[.int .i64 (x.1 : Int), .slice A m c, .int .i64 (x.2.2 : Int)]) ∧ Own encB w' w.heap.size 5 A m c x.2.1 ∧ Below w.heap.size w w'
theorem RetIntB.err {w w' : World} {x : Nat × List UInt8 × Nat} {k : Nat} (hx : x = (0, [], k)) (hb : Below w.heap.size w w') : RetIntB w x (.returned (.tuple #[.int .i64 0, .slice none 0 0, .int .i64 (k : Int)])) w' := by
  subst hx
  exact ⟨none, 0, 0, rfl, Own.nil _ _ _ _, hb⟩
theorem intP_any (A : Option Addr) (m c : Nat) (src : List UInt8) (w : World) (hx : Bytes w A m c src) (hm : m ≤ 1000000) :
    Calls Tryz.prog 82 #[.slice A m c] w (RetIntB w (intL src)) := by
  have Hl := Lib.hid hx.1
  rcases Nat.eq_zero_or_pos m with h0 | h0
  · have hR : Hid (intL src = (0, [], 9)) := by show _ = _; unfold intL; rw [if_pos (List.length_eq_zero_iff.1 (by rw [Hl.out]; exact h0))]
    have d0 : ((m : Int) == 0) = true := by simp; omega
    clear h0
    go_enter Tryz.func82, Tryz.ntmps82
    go_wp2_with fail
    go_ret3
    exact RetIntB.err hR.out (Below.refl _ _)
  · have hne : src ≠ [] := fun e => by have := Hl.out; rw [e] at this; simp at this; omega
    have d0 : ((m : Int) == 0) = false := by simp; omega
    have b0 : (0 : Int) < (m : Int) := by omega
    have hI : Hid (intL src = if (src.getD 0 0).toNat = 255 then (0, [], 3) else if src.length ≤ onesN (src.getD 0 0).toNat then (0, [], 9) else if 9007199254740991 < numTo src (headN (src.getD 0 0).toNat) (onesN (src.getD 0 0).toNat) ∨ furL (numTo src (headN (src.getD 0 0).toNat) (onesN (src.getD 0 0).toNat)) ≠ onesN (src.getD 0 0).toNat then (0, [], 3) else (numTo src (headN (src.getD 0 0).toNat) (onesN (src.getD 0 0).toNat), src.drop (onesN (src.getD 0 0).toNat + 1), 0)) := by
      show _ = _; unfold intL; rw [if_neg hne]
    clear hne
    obtain ⟨bb, off, rfl, hbk, hcell⟩ := hx.get h0
    have c0 := hcell 0 h0
    clear hcell
    rw [Nat.add_zero] at c0
    have hgb : gb src 0 = ((src.getD 0 0).toNat : Int) := rfl
    rw [hgb] at c0
    clear hgb
    have hb256 := (src.getD 0 0).toNat_lt
    obtain ⟨b, hbd⟩ : ∃ b, b = (src.getD 0 0).toNat := ⟨_, rfl⟩
    rw [← hbd] at c0 hb256 hI
    clear hbd
    have hxor := xor_255 ⟨b, hb256⟩
    have hlz := Tryz.bits_LeadingZeros8 ((255 - b : Nat) : Int) w (by omega) (by omega)
    rw [Int.toNat_natCast, ones_int ⟨b, hb256⟩] at hlz
    simp only at hlz hxor
    have Hlz := Lib.hid hlz; clear hlz
    by_cases h255 : b = 255
    · rw [if_pos h255] at hI
      have hk8 : onesN b = 8 := by rw [h255]; exact ones_255
      rw [hk8] at Hlz
      clear hk8 h255
      go_enter Tryz.func82, Tryz.ntmps82
      go_wp2_with fail
      refine Hlz.out.mono ?_
      rintro e w1 ⟨rfl, hw1⟩
      obtain rfl : w = w1 := hw1.symm
      go_wp2_with fail
      go_ret3
      exact RetIntB.err hI.out (Below.refl _ _)
    · rw [if_neg h255] at hI
      have hk7 := ones_le ⟨b, by omega⟩
      have hhd := head_lt ⟨b, by omega⟩
      have hand := head_and ⟨b, by omega⟩
      simp only at hk7 hhd hand
      obtain ⟨k, hk⟩ : ∃ k, k = onesN b := ⟨_, rfl⟩
      obtain ⟨hd, hhd'⟩ : ∃ hd, hd = headN b := ⟨_, rfl⟩
      rw [← hk] at Hlz hk7 hhd hand hI
      rw [← hhd'] at hhd hand hI
      clear hk hhd'
      have d1 : decide ((7 : Int) < (k : Int)) = false := by simp; omega
      have d1' : decide (7 < k) = false := by simp; omega
      by_cases hle : m ≤ k
      · rw [if_pos (by rw [Hl.out]; exact hle)] at hI
        have d2 : decide ((m : Int) ≤ (k : Int)) = true := by simp; omega
        have d2' : decide (m ≤ k) = true := by simp; omega
        clear h255 hand
        go_enter Tryz.func82, Tryz.ntmps82
        go_wp2_with fail
        refine Hlz.out.mono ?_
        rintro e w1 ⟨rfl, hw1⟩
        obtain rfl : w = w1 := hw1.symm
        go_wp2_with fail
        go_ret3
        exact RetIntB.err hI.out (Below.refl _ _)
      · rw [if_neg (by rw [Hl.out]; exact hle)] at hI
        have d2 : decide ((m : Int) ≤ (k : Int)) = false := by simp; omega
        have d2' : decide (m ≤ k) = false := by simp; omega
        have hhd128 : hd < 128 := by
          have h1 := pw_mono (a := 7 - k) (b := 7) (by omega)
          have h2 : pw 7 = 128 := rfl
          omega
        obtain ⟨A4, r4, v4⟩ := hx.cut_lh tB eB sB (1 : Int) ((k : Int) + 1) (by omega) (by omega) (by omega)
        rw [show (1 : Int).toNat = 1 from rfl, show ((k : Int) + 1).toNat - 1 = k by omega] at r4 v4
        clear h255
        go_enter Tryz.func82, Tryz.ntmps82
        go_wp2_with fail
        refine Hlz.out.mono ?_
        rintro e w1 ⟨rfl, hw1⟩
        obtain rfl : w = w1 := hw1.symm
        go_wp2_with fail
        go_quiet (fail)
        go_wp2_with fail
        clear hand hxor
        go_loopw [6, 8, 35] (fun nn _ i wr => ∃ j : Nat, j ≤ k ∧ i = .int .i64 (j : Int) ∧ nn = .int .i64 ((numTo src hd j : Nat) : Int) ∧ Drawn w wr) (fun _ _ i _ => k - (intOf i).toNat)
        case atStart => exact ⟨0, Nat.zero_le _, rfl, rfl, Drawn.drewN _ _⟩
        case round =>
          obtain ⟨j, hj, rfl, rfl, q, rfl⟩ := hrel
          by_cases hjk : j < k
          · have dj : decide ((j : Int) < (k : Int)) = true := by simp; omega
            have dj' : decide (j < k) = true := by simp; omega
            have hsm := numTo_smaller (src := src) (j := j) hhd hk7 hjk
            have hnx : Hid (numTo src hd (j + 1) = 256 * numTo src hd j + (src.getD (j + 1) 0).toNat) := rfl
            obtain ⟨b5, off5, rfl, hb5, hc5⟩ := v4.get hjk
            have c5 := hc5 j hjk
            clear hc5
            have hgb : gb ((src.drop 1).take k) j = ((src.getD (j + 1) 0).toNat : Int) := by
              rw [gb_take _ _ _ hjk, gb_drop, Nat.add_comm]; rfl
            rw [hgb] at c5
            clear hgb
            have hy256 := (src.getD (j + 1) 0).toNat_lt
            obtain ⟨y, hyd⟩ : ∃ y, y = (src.getD (j + 1) 0).toNat := ⟨_, rfl⟩
            rw [← hyd] at c5 hy256 hnx
            clear hyd
            obtain ⟨N, hN⟩ : ∃ N, N = numTo src hd j := ⟨_, rfl⟩
            rw [← hN] at hsm hnx ⊢
            clear hN
            have hor := or_join hsm hy256
            go_wp2_with fail
            go_roundw
            case rel => exact ⟨j + 1, by omega, by go_num, by rw [hnx.out]; go_num, q, rfl⟩
            case measure => simp [intOf]; omega
          · have dj : decide ((j : Int) < (k : Int)) = false := by simp; omega
            have dj' : decide (j < k) = false := by simp; omega
            obtain rfl : k = j := by omega
            have hsm := numTo_small (src := src) (j := k) hhd hk7 (Nat.le_refl _)
            obtain ⟨N, hN⟩ : ∃ N, N = numTo src hd k := ⟨_, rfl⟩
            rw [← hN] at hsm hI ⊢
            clear hN
            by_cases hbig : 9007199254740991 < N
            · rw [if_pos (.inl hbig)] at hI
              have d3 : decide ((9007199254740991 : Int) < (N : Int)) = true := by simp; omega
              go_wp2_with fail
              go_ret3
              exact RetIntB.err hI.out ((Drawn.drewN _ _).below _)
            · have d3 : decide ((9007199254740991 : Int) < (N : Int)) = false := by simp; omega
              have hfu := Lib.hid (further_any N (w.drewN q) (by omega))
              by_cases hne : furL N = k
              · rw [if_neg (by omega)] at hI
                have d4 : (((furL N : Nat) : Int) != (k : Int)) = false := by rw [hne]; simp
                obtain ⟨A6, r6, v6⟩ := hx.cut_l tB eB sB ((k : Int) + 1) (by omega) (by omega)
                rw [show ((k : Int) + 1).toNat = k + 1 by omega] at r6 v6
                have hcl := Lib.hid (clone_any A6 _ _ _ (w.drewN q) (v6.drewN q) (by omega))
                clear hne
                go_wp2_with fail
                refine hfu.out.mono ?_
                rintro e w1 ⟨rfl, hw1⟩
                obtain rfl := hw1
                go_wp2_with fail
                refine hcl.out.mono ?_
                rintro e w2 ⟨A2, n2, c2, rfl, ho2, hb2⟩
                go_wp2_with fail
                go_ret3
                rw [hI.out]
                exact ⟨A2, n2, c2, rfl, ho2, ((Drawn.drewN w q).below _).trans hb2⟩
              · rw [if_pos (.inr hne)] at hI
                have d4 : (((furL N : Nat) : Int) != (k : Int)) = true := by simp; omega
                clear hne
                go_wp2_with fail
                refine hfu.out.mono ?_
                rintro e w1 ⟨rfl, hw1⟩
                obtain rfl := hw1
                go_wp2_with fail
                go_ret3
                exact RetIntB.err hI.out ((Drawn.drewN _ _).below _)
theorem intR_any (A : Option Addr) (m c : Nat) (src : List UInt8) (w : World) (hx : Bytes w A m c src) (hm : m ≤ 1000000) :
    Calls Tryz.prog 105 #[.slice A m c] w (RetIntB w (intL src)) := by
  have Hl := Lib.hid hx.1
  rcases Nat.eq_zero_or_pos m with h0 | h0
  · have hR : Hid (intL src = (0, [], 9)) := by show _ = _; unfold intL; rw [if_pos (List.length_eq_zero_iff.1 (by rw [Hl.out]; exact h0))]
    have d0 : ((m : Int) == 0) = true := by simp; omega
    clear h0
    go_enter Tryz.func105, Tryz.ntmps105
    go_wp2_with fail
    go_ret3
    exact RetIntB.err hR.out (Below.refl _ _)
  · have hne : src ≠ [] := fun e => by have := Hl.out; rw [e] at this; simp at this; omega
    have d0 : ((m : Int) == 0) = false := by simp; omega
    have b0 : (0 : Int) < (m : Int) := by omega
    have hI : Hid (intL src = if (src.getD 0 0).toNat = 255 then (0, [], 3) else if src.length ≤ onesN (src.getD 0 0).toNat then (0, [], 9) else if 9007199254740991 < numTo src (headN (src.getD 0 0).toNat) (onesN (src.getD 0 0).toNat) ∨ furL (numTo src (headN (src.getD 0 0).toNat) (onesN (src.getD 0 0).toNat)) ≠ onesN (src.getD 0 0).toNat then (0, [], 3) else (numTo src (headN (src.getD 0 0).toNat) (onesN (src.getD 0 0).toNat), src.drop (onesN (src.getD 0 0).toNat + 1), 0)) := by
      show _ = _; unfold intL; rw [if_neg hne]
    clear hne
    obtain ⟨bb, off, rfl, hbk, hcell⟩ := hx.get h0
    have c0 := hcell 0 h0
    clear hcell
    rw [Nat.add_zero] at c0
    have hgb : gb src 0 = ((src.getD 0 0).toNat : Int) := rfl
    rw [hgb] at c0
    clear hgb
    have hb256 := (src.getD 0 0).toNat_lt
    obtain ⟨b, hbd⟩ : ∃ b, b = (src.getD 0 0).toNat := ⟨_, rfl⟩
    rw [← hbd] at c0 hb256 hI
    clear hbd
    by_cases h255 : b = 255
    · rw [if_pos h255] at hI
      have d1 : ((b : Int) == 255) = true := by simp; omega
      clear h255
      go_enter Tryz.func105, Tryz.ntmps105
      go_wp2_with fail
      go_ret3
      exact RetIntB.err hI.out (Below.refl _ _)
    · rw [if_neg h255] at hI
      have d1 : ((b : Int) == 255) = false := by simp; omega
      have hk7 := ones_le ⟨b, by omega⟩
      have hhd := head_lt ⟨b, by omega⟩
      have hheq := head_eq ⟨b, by omega⟩
      have hstep := fun k => ones_step ⟨b, by omega⟩ k
      simp only at hk7 hhd hheq hstep
      obtain ⟨k, hk⟩ : ∃ k, k = onesN b := ⟨_, rfl⟩
      obtain ⟨hd, hhd'⟩ : ∃ hd, hd = headN b := ⟨_, rfl⟩
      rw [← hk] at hk7 hhd hI hheq hstep
      rw [← hhd'] at hhd hI hheq
      clear hk hhd'
      have Hstep := Lib.hid hstep; clear hstep
      have Heq := Lib.hid hheq; clear hheq
      have hb254 : b ≤ 254 := by omega
      clear h255
      go_enter Tryz.func105, Tryz.ntmps105
      go_wp2_with fail
      go_loop [6] (fun i => ∃ j : Nat, j ≤ k ∧ i = .int .i64 (j : Int)) (fun i => k - (intOf i).toNat)
      case atStart => exact ⟨0, Nat.zero_le _, rfl⟩
      case round =>
        obtain ⟨j, hj, rfl⟩ := hrel
        have hp := power_any (7 - j) w (by omega)
        rw [show ((7 - j : Nat) : Int) = 7 - (j : Int) by omega] at hp
        have Hp := Lib.hid hp; clear hp
        have hs := Hstep.out ⟨j, by omega⟩
        have hpp := pw_pos (7 - j)
        have hpm : pw (7 - j) ≤ 128 := pw_mono (b := 7) (by omega)
        simp only at hs
        obtain ⟨P, hP⟩ : ∃ P, P = pw (7 - j) := ⟨_, rfl⟩
        rw [← hP] at Hp hs hpp hpm
        clear hP
        by_cases hjk : j < k
        · have hle := hs.2 hjk
          have d2 : decide ((256 : Int) - (P : Int) ≤ (b : Int)) = true := by simp; omega
          clear hs
          go_wp2_with (go_at_call 169; refine Hp.out.mono ?_; rintro e w1 ⟨rfl, hw1⟩; obtain rfl : w = w1 := hw1.symm)
          go_round
          case rel => exact ⟨j + 1, by omega, by go_num⟩
          case measure => simp [intOf]; omega
        · have hgt : ¬ 256 - P ≤ b := fun h => hjk (hs.1 h)
          have d2 : decide ((256 : Int) - (P : Int) ≤ (b : Int)) = false := by simp; omega
          clear hs
          obtain rfl : k = j := by omega
          clear hgt hjk hj
          by_cases hle : m ≤ k
          · rw [if_pos (by rw [Hl.out]; exact hle)] at hI
            have d3 : decide ((m : Int) < (k : Int) + 1) = true := by simp; omega
            go_wp2_with (go_at_call 169; refine Hp.out.mono ?_; rintro e w1 ⟨rfl, hw1⟩; obtain rfl : w = w1 := hw1.symm)
            go_ret3
            exact RetIntB.err hI.out (Below.refl _ _)
          · rw [if_neg (by rw [Hl.out]; exact hle)] at hI
            have d3 : decide ((m : Int) < (k : Int) + 1) = false := by simp; omega
            have hq := power_any (8 - k) w (by omega)
            rw [show ((8 - k : Nat) : Int) = 8 - (k : Int) by omega] at hq
            have Hq := Lib.hid hq; clear hq
            have heq := Heq.out
            obtain ⟨R, hR⟩ : ∃ R, R = pw (8 - k) := ⟨_, rfl⟩
            rw [← hR] at Hq heq
            clear hR
            obtain ⟨heq1, heq2⟩ := heq
            have hv : Hid ((b : Int) - (256 - (R : Int)) = (hd : Int)) := by show _ = _; omega
            have hv1 : 0 ≤ (b : Int) - (256 - (R : Int)) := by have := hv.out; omega
            clear heq1
            go_wp2_with fail
            refine Hp.out.mono ?_
            rintro e w1 ⟨rfl, hw1⟩
            obtain rfl : w = w1 := hw1.symm
            go_wp2_with fail
            refine Hq.out.mono ?_
            rintro e w1 ⟨rfl, hw1⟩
            obtain rfl : w = w1 := hw1.symm
            clear Hp Hq d2
            go_wp2_with fail
            go_loop [7, 8] (fun nn i => ∃ j : Nat, j ≤ k ∧ i = .int .i64 ((j : Int) + 1) ∧ nn = .int .i64 ((numTo src hd j : Nat) : Int)) (fun _ i => k + 1 - (intOf i).toNat)
            case atStart => exact ⟨0, Nat.zero_le _, rfl, by rw [hv.out]; rfl⟩
            case round =>
              obtain ⟨j, hj, rfl, rfl⟩ := hrel
              by_cases hjk : j < k
              · have dj : decide ((j : Int) + 1 ≤ (k : Int)) = true := by simp; omega
                have hsm := numTo_smaller (src := src) (j := j) hhd hk7 hjk
                have hnx : Hid (numTo src hd (j + 1) = 256 * numTo src hd j + (src.getD (j + 1) 0).toNat) := rfl
                have c5 := hx.cell (k := j + 1) (by omega)
                have hgb2 : gb src (j + 1) = ((src.getD (j + 1) 0).toNat : Int) := rfl
                rw [hgb2] at c5
                clear hgb2
                have hy256 := (src.getD (j + 1) 0).toNat_lt
                obtain ⟨y, hyd⟩ : ∃ y, y = (src.getD (j + 1) 0).toNat := ⟨_, rfl⟩
                rw [← hyd] at c5 hy256 hnx
                clear hyd
                obtain ⟨N, hN⟩ : ∃ N, N = numTo src hd j := ⟨_, rfl⟩
                rw [← hN] at hsm hnx ⊢
                clear hN
                have b5 : (j : Int) + 1 < (m : Int) := by omega
                go_wp2_with fail
                go_round
                case rel => exact ⟨j + 1, by omega, by go_num, by rw [hnx.out]; go_num⟩
                case measure => simp [intOf]; omega
              · have dj : decide ((j : Int) + 1 ≤ (k : Int)) = false := by simp; omega
                obtain rfl : k = j := by omega
                have hsm := numTo_small (src := src) (j := k) hhd hk7 (Nat.le_refl _)
                obtain ⟨N, hN⟩ : ∃ N, N = numTo src hd k := ⟨_, rfl⟩
                rw [← hN] at hsm hI ⊢
                clear hN
                by_cases hbig : 9007199254740991 < N
                · rw [if_pos (.inl hbig)] at hI
                  have d4 : decide ((9007199254740991 : Int) < (N : Int)) = true := by simp; omega
                  go_wp2_with fail
                  go_ret3
                  exact RetIntB.err hI.out (Below.refl _ _)
                · have d4 : decide ((9007199254740991 : Int) < (N : Int)) = false := by simp; omega
                  have hfu := Lib.hid (sizeR_any N w (by omega))
                  by_cases hne : furL N = k
                  · rw [if_neg (by omega)] at hI
                    have d5 : (((furL N : Nat) : Int) + 1 != (k : Int) + 1) = false := by rw [hne]; simp
                    obtain ⟨A6, r6, v6⟩ := hx.cut_l tB eB sB ((k : Int) + 1) (by omega) (by omega)
                    rw [show ((k : Int) + 1).toNat = k + 1 by omega] at r6 v6
                    have hcl := Lib.hid (restR_any A6 _ _ _ w v6 (by omega))
                    clear hne
                    go_wp2_with fail
                    refine hfu.out.mono ?_
                    rintro e w1 ⟨rfl, hw1⟩
                    obtain rfl : w = w1 := hw1.symm
                    go_wp2_with fail
                    refine hcl.out.mono ?_
                    rintro e w2 ⟨A2, n2, c2, rfl, ho2, hb2⟩
                    go_wp2_with fail
                    go_ret3
                    rw [hI.out]
                    exact ⟨A2, n2, c2, rfl, ho2, hb2⟩
                  · rw [if_pos (.inr hne)] at hI
                    have d5 : (((furL N : Nat) : Int) + 1 != (k : Int) + 1) = true := by simp; omega
                    clear hne
                    go_wp2_with fail
                    refine hfu.out.mono ?_
                    rintro e w1 ⟨rfl, hw1⟩
                    obtain rfl : w = w1 := hw1.symm
                    go_wp2_with fail
                    go_ret3
                    exact RetIntB.err hI.out (Below.refl _ _)
end Go.Proofs.YtohadkmaemmfgaaGreatDoor.Dic
namespace Go.Proofs.YtohadkmaemmfgaaGreatDoor.Bwt
open Go.RowKit Go.Proofs Go.Sort
set_option linter.unusedVariables false
def RetOwn (B : Nat) (w : World) (xs : List UInt8) (e : Ending) (w' : World) : Prop := ∃ A n c, e = .returned (.slice A n c) ∧ Own encB w' B 5 A n c xs ∧ Below B w w'
theorem RetOwn.mk {B : Nat} {w w' : World} {xs : List UInt8} {A : Option Addr} {n c : Nat} (h : Own encB w' B 5 A n c xs) (hb : Below B w w') : RetOwn B w xs (.returned (.slice A n c)) w' := ⟨A, n, c, rfl, h, hb⟩
theorem number_any (n : Nat) (w : World) (hn : n ≤ 9007199254740991) : Calls Tryz.prog 213 #[.int .i64 (n : Int)] w fun e w' => e = .returned (.int .i64 (n : Int)) ∧ w' = w := by
  have d1 : decide ((n : Int) < 0) = false := by simp
  have d2 : decide ((9007199254740991 : Int) < (n : Int)) = false := by simp; omega
  go_enter Tryz.func213, Tryz.ntmps213
  go_wp2
  go_ret
  exact ⟨rfl, rfl⟩
def furL (n : Nat) : Nat := (Lib.bitLen n - 1) / 7
theorem further_any (n : Nat) (w : World) (hn : n < 4611686018427387904) : Calls Tryz.prog 150 #[.int .i64 (n : Int)] w fun e w' => e = .returned (.int .i64 ((furL n : Nat) : Int)) ∧ w' = w := by
  apply Dic.further_any <;> assumption
theorem own_empty (w : World) (e : TypeId) : Own encB (w.alloc (.cells #[] e)) w.heap.size e (some ⟨w.heap.size, 0, none⟩) 0 0 [] :=
  ⟨rfl, .inr ⟨w.heap.size, 0, #[], rfl, Nat.le_refl _, World.alloc_heap_new w _, Nat.le_refl _, by simp [maxLen], rfl, rfl⟩⟩
theorem clone_any (A : Option Addr) (m c : Nat) (xs : List UInt8) (w : World) (hx : Bytes w A m c xs) (hm : m ≤ 1000000) :
    Calls Tryz.prog 17 #[.slice A m c] w (RetOwn w.heap.size w xs) := by
  apply Go.Proofs.YtohadkmaemmfgaaGreatDoor.clone_any <;> assumption
def pw (k : Nat) : Nat := 2 ^ k
theorem pw_succ (k : Nat) : pw (k + 1) = 2 * pw k := by unfold pw; rw [Nat.pow_succ]; omega
theorem pw_mono {a b : Nat} (h : a ≤ b) : pw a ≤ pw b := Nat.pow_le_pow_right (by omega) h
theorem pw_pos (k : Nat) : 1 ≤ pw k := Nat.one_le_two_pow
theorem power_any (n : Nat) (w : World) (hn : n ≤ 62) : Calls Tryz.prog 169 #[.int .i64 (n : Int)] w fun e w' => e = .returned (.int .i64 ((pw n : Nat) : Int)) ∧ w' = w := by
  go_enter Tryz.func169, Tryz.ntmps169
  go_wp2
  go_loop [3, 4] (fun p i => ∃ k : Nat, k ≤ n ∧ i = .int .i64 (k : Int) ∧ p = .int .i64 ((pw k : Nat) : Int)) (fun _ i => n - (intOf i).toNat)
  case atStart => exact ⟨0, Nat.zero_le _, rfl, rfl⟩
  case round =>
    obtain ⟨k, hk, rfl, rfl⟩ := hrel
    by_cases hlt : k < n
    · have hb : pw k ≤ 2305843009213693952 := Nat.le_trans (pw_mono (b := 61) (by omega)) (by decide)
      have hs := Lib.hid (pw_succ k)
      obtain ⟨p, hp⟩ : ∃ p, p = pw k := ⟨_, rfl⟩
      rw [← hp] at hb hs
      rw [← hp]
      clear hp
      have dk : decide ((k : Int) < (n : Int)) = true := by simp; omega
      have dk' : decide (k < n) = true := by simp; omega
      go_wp2
      go_round
      case rel => exact ⟨k + 1, by omega, by go_num, by rw [hs.out]; go_num⟩
      case measure => simp [intOf]; omega
    · have dk : decide ((k : Int) < (n : Int)) = false := by simp; omega
      have dk' : decide (k < n) = false := by simp; omega
      obtain rfl : n = k := by omega
      go_wp2
      go_ret
      exact ⟨rfl, rfl⟩
theorem numberR_any (n : Nat) (w : World) (hn : n ≤ 9007199254740991) : Calls Tryz.prog 179 #[.int .i64 (n : Int)] w fun e w' => e = .returned (.int .i64 (n : Int)) ∧ w' = w := by
  have d1 : decide ((n : Int) < 0) = false := by simp
  have d2 : decide ((9007199254740991 : Int) < (n : Int)) = false := by simp; omega
  go_enter Tryz.func179, Tryz.ntmps179
  go_wp2
  go_ret
  exact ⟨rfl, rfl⟩
theorem bitLen_bounds {n : Nat} (h : n < 18446744073709551616) (h0 : n ≠ 0) : 1 ≤ Lib.bitLen n ∧ 2 ^ (Lib.bitLen n - 1) ≤ n ∧ n < 2 ^ Lib.bitLen n := Lib.bitLenAux_bounds 64 n (by omega) h0
theorem furL_lt {n k : Nat} (hn : n < 72057594037927936) : pw (7 * (k + 1)) ≤ n ↔ k < furL n := by
  unfold furL pw
  rcases Nat.eq_zero_or_pos n with h | h
  · subst h
    have : Lib.bitLen 0 = 0 := by decide
    rw [this]
    have := Nat.one_le_two_pow (n := 7 * (k + 1))
    simp
  · obtain ⟨h1, h2, h3⟩ := bitLen_bounds (n := n) (by omega) (by omega)
    constructor
    · intro h4
      have h5 : 2 ^ (7 * (k + 1)) < 2 ^ Lib.bitLen n := Nat.lt_of_le_of_lt h4 h3
      have := (Nat.pow_lt_pow_iff_right (by omega : 1 < 2)).1 h5
      omega
    · intro h4
      exact Nat.le_trans (Nat.pow_le_pow_right (by omega) (by omega)) h2
theorem furL_le {n : Nat} (hn : n < 72057594037927936) : furL n ≤ 7 := by
  have : Lib.bitLen n ≤ 56 := Lib.bitLen_le n 56 (by omega) (by omega)
  unfold furL; omega
theorem sizeR_any (n : Nat) (w : World) (hn : n ≤ 9007199254740991) : Calls Tryz.prog 170 #[.int .i64 (n : Int)] w fun e w' => e = .returned (.int .i64 ((furL n : Nat) + 1 : Int)) ∧ w' = w := by
  have h1 := Lib.hid (numberR_any n w hn)
  have hle := furL_le (n := n) (by omega)
  have hlt := Lib.hid (fun k => furL_lt (n := n) (k := k) (by omega))
  obtain ⟨fu, hfu⟩ : ∃ fu, fu = furL n := ⟨_, rfl⟩
  rw [← hfu] at hle hlt
  rw [← hfu]
  clear hfu
  go_enter Tryz.func170, Tryz.ntmps170
  go_wp2
  go_loop [3] (fun i => ∃ k : Nat, k ≤ fu ∧ i = .int .i64 (k : Int)) (fun i => fu - (intOf i).toNat)
  case atStart => exact ⟨0, Nat.zero_le _, rfl⟩
  case round =>
    obtain ⟨k, hk, rfl⟩ := hrel
    have h2 := power_any (7 * (k + 1)) w (by omega)
    rw [show ((7 * (k + 1) : Nat) : Int) = 7 * ((k : Int) + 1) by omega] at h2
    have H2 := Lib.hid h2; clear h2
    have hiff := hlt.out k
    obtain ⟨p, hp⟩ : ∃ p, p = pw (7 * (k + 1)) := ⟨_, rfl⟩
    rw [← hp] at H2 hiff
    clear hp
    by_cases hkf : k < fu
    · have hpn : p ≤ n := hiff.2 hkf
      have d1 : decide ((p : Int) ≤ (n : Int)) = true := by simp; omega
      have d1' : decide (p ≤ n) = true := by simp; omega
      clear hiff
      go_wp2_with (first
        | (go_at_call 179; refine h1.out.mono ?_; rintro e w1 ⟨rfl, hw1⟩; obtain rfl : w = w1 := hw1.symm)
        | (go_at_call 169; refine H2.out.mono ?_; rintro e w1 ⟨rfl, hw1⟩; obtain rfl : w = w1 := hw1.symm))
      go_round
      case rel => exact ⟨k + 1, by omega, by go_num⟩
      case measure => simp [intOf]; omega
    · have hpn : ¬ p ≤ n := fun h => hkf (hiff.1 h)
      have d1 : decide ((p : Int) ≤ (n : Int)) = false := by simp; omega
      have d1' : decide (p ≤ n) = false := by simp; omega
      clear hiff
      go_wp2_with (first
        | (go_at_call 179; refine h1.out.mono ?_; rintro e w1 ⟨rfl, hw1⟩; obtain rfl : w = w1 := hw1.symm)
        | (go_at_call 169; refine H2.out.mono ?_; rintro e w1 ⟨rfl, hw1⟩; obtain rfl : w = w1 := hw1.symm))
      go_ret
      exact ⟨ret_int (by omega), rfl⟩
theorem restR_any (A : Option Addr) (m c : Nat) (xs : List UInt8) (w : World) (hx : Bytes w A m c xs) (hm : m ≤ 1000000) :
    Calls Tryz.prog 171 #[.slice A m c] w (RetOwn w.heap.size w xs) := by
  have m1 : Hid (0 + m ≤ maxLen ∧ (0 + m) * 1 ≤ 140737488355328) := ⟨by simp [maxLen]; omega, by omega⟩
  have Hx := Lib.hid hx.1
  go_enter Tryz.func171, Tryz.ntmps171
  go_wp2_with (at_builtin; refine wpList_app (enc := encB) rfl (.tmp 4) (.tmp 5) rfl uB infoB encB_one rfl rfl (Own.nil encB w w.heap.size _) (Nat.le_refl _) A m c xs 0 Hx.out hx.2.2 rfl m1.out.1 m1.out.2 ?_; intro A6 c6 W6 ho6 hb6 hg6)
  go_ret
  rw [List.nil_append, Nat.zero_add] at ho6
  exact RetOwn.mk ho6 hb6
def onesN (b : Nat) : Nat := 8 - Lib.bitLen (255 - b)
def headN (b : Nat) : Nat := b - (256 - 2 ^ (8 - onesN b))
def numTo (src : List UInt8) (b0 : Nat) : Nat → Nat
  | 0 => b0
  | j + 1 => 256 * numTo src b0 j + (src.getD (j + 1) 0).toNat
def intL (src : List UInt8) : Nat × List UInt8 × Nat :=
  if src = [] then (0, [], 9)
  else if (src.getD 0 0).toNat = 255 then (0, [], 3)
  else if src.length ≤ onesN (src.getD 0 0).toNat then (0, [], 9)
  else if 9007199254740991 < numTo src (headN (src.getD 0 0).toNat) (onesN (src.getD 0 0).toNat) ∨ furL (numTo src (headN (src.getD 0 0).toNat) (onesN (src.getD 0 0).toNat)) ≠ onesN (src.getD 0 0).toNat then (0, [], 3)
  else (numTo src (headN (src.getD 0 0).toNat) (onesN (src.getD 0 0).toNat), src.drop (onesN (src.getD 0 0).toNat + 1), 0)
theorem ones_le : ∀ b : Fin 255, onesN b.val ≤ 7 := by decide +kernel
theorem ones_255 : onesN 255 = 8 := by decide +kernel
theorem ones_step : ∀ b : Fin 255, ∀ k : Fin 8, (256 - pw (7 - k.val) ≤ b.val ↔ k.val < onesN b.val) := by decide +kernel
theorem head_lt : ∀ b : Fin 255, headN b.val < pw (7 - onesN b.val) := by decide +kernel
theorem head_eq : ∀ b : Fin 255, 256 - pw (8 - onesN b.val) + headN b.val = b.val ∧ pw (8 - onesN b.val) ≤ 256 := by decide +kernel
theorem head_and : ∀ b : Fin 255, bits BinOp.and IntKind.u8 (b.val : Int) (127 / 2 ^ onesN b.val : Int) = ((headN b.val : Nat) : Int) := by decide +kernel
theorem xor_255 : ∀ b : Fin 256, bits BinOp.xor IntKind.u8 IntKind.u8.max (b.val : Int) = ((255 - b.val : Nat) : Int) := by decide +kernel
theorem ones_int : ∀ b : Fin 256, (8 : Int) - ((Lib.bitLen (255 - b.val) : Nat) : Int) = ((onesN b.val : Nat) : Int) := by decide +kernel
theorem numTo_lt (src : List UInt8) (b0 k : Nat) (h : b0 < pw (7 - k)) : ∀ j, numTo src b0 j < pw (7 - k + 8 * j)
  | 0 => h
  | j + 1 => by
    have ih := numTo_lt src b0 k h j
    have hb := (src.getD (j + 1) 0).toNat_lt
    have e : pw (7 - k + 8 * (j + 1)) = 256 * pw (7 - k + 8 * j) := by
      unfold pw
      rw [show 7 - k + 8 * (j + 1) = 8 + (7 - k + 8 * j) by omega, Nat.pow_add]
    rw [numTo, e]
    omega
theorem numTo_small {src : List UInt8} {b0 k j : Nat} (h : b0 < pw (7 - k)) (hk : k ≤ 7) (hj : j ≤ k) : numTo src b0 j < 72057594037927936 := by
  have h1 := numTo_lt src b0 k h j
  have h2 : pw (7 - k + 8 * j) ≤ pw 56 := pw_mono (by omega)
  have h3 : pw 56 = 72057594037927936 := rfl
  omega
theorem numTo_smaller {src : List UInt8} {b0 k j : Nat} (h : b0 < pw (7 - k)) (hk : k ≤ 7) (hj : j < k) : numTo src b0 j < 281474976710656 := by
  have h1 := numTo_lt src b0 k h j
  have h2 : pw (7 - k + 8 * j) ≤ pw 48 := pw_mono (by omega)
  have h3 : pw 48 = 281474976710656 := rfl
  omega
theorem or_join {N y : Nat} (hN : N < 281474976710656) (hy : y < 256) : bits BinOp.or IntKind.i64 ((N : Int) * 256) (y : Int) = (N : Int) * 256 + (y : Int) :=
  bits_join .i64 63 (by decide) (fun n h1 h2 => IntWalk.i64_in n ⟨by omega, by omega⟩) 8 _ _ (by omega) (by omega) (by omega) (by omega) (by omega) (by omega)
def RetIntB (w : World) (x : Nat × List UInt8 × Nat) (e : Ending) (w' : World) : Prop := ∃ A m c, e = .returned (.tuple #[.int .i64 (x.1 : Int), .slice A m c, .int .i64 (x.2.2 : Int)]) ∧ Own encB w' w.heap.size 5 A m c x.2.1 ∧ Below w.heap.size w w'
theorem RetIntB.err {w w' : World} {x : Nat × List UInt8 × Nat} {k : Nat} (hx : x = (0, [], k)) (hb : Below w.heap.size w w') : RetIntB w x (.returned (.tuple #[.int .i64 0, .slice none 0 0, .int .i64 (k : Int)])) w' := by
  subst hx
  exact ⟨none, 0, 0, rfl, Own.nil _ _ _ _, hb⟩
theorem numTo_dic (src : List UInt8) (b0 : Nat) : ∀ j, numTo src b0 j = Dic.numTo src b0 j
  | 0 => rfl
  | j + 1 => by rw [numTo, Dic.numTo, numTo_dic src b0 j]
theorem intL_dic (src : List UInt8) : intL src = Dic.intL src := by
  unfold intL Dic.intL
  simp only [numTo_dic]
  rfl
theorem intP_any (A : Option Addr) (m c : Nat) (src : List UInt8) (w : World) (hx : Bytes w A m c src) (hm : m ≤ 1000000) :
    Calls Tryz.prog 82 #[.slice A m c] w (RetIntB w (intL src)) := by
  rw [intL_dic]
  exact Dic.intP_any A m c src w hx hm
theorem intR_any (A : Option Addr) (m c : Nat) (src : List UInt8) (w : World) (hx : Bytes w A m c src) (hm : m ≤ 1000000) :
    Calls Tryz.prog 105 #[.slice A m c] w (RetIntB w (intL src)) := by
  have Hl := Lib.hid hx.1
  rcases Nat.eq_zero_or_pos m with h0 | h0
  · have hR : Hid (intL src = (0, [], 9)) := by show _ = _; unfold intL; rw [if_pos (List.length_eq_zero_iff.1 (by rw [Hl.out]; exact h0))]
    have d0 : ((m : Int) == 0) = true := by simp; omega
    clear h0
    go_enter Tryz.func105, Tryz.ntmps105
    go_wp2_with fail
    go_ret3
    exact RetIntB.err hR.out (Below.refl _ _)
  · have hne : src ≠ [] := fun e => by have := Hl.out; rw [e] at this; simp at this; omega
    have d0 : ((m : Int) == 0) = false := by simp; omega
    have b0 : (0 : Int) < (m : Int) := by omega
    have hI : Hid (intL src = if (src.getD 0 0).toNat = 255 then (0, [], 3) else if src.length ≤ onesN (src.getD 0 0).toNat then (0, [], 9) else if 9007199254740991 < numTo src (headN (src.getD 0 0).toNat) (onesN (src.getD 0 0).toNat) ∨ furL (numTo src (headN (src.getD 0 0).toNat) (onesN (src.getD 0 0).toNat)) ≠ onesN (src.getD 0 0).toNat then (0, [], 3) else (numTo src (headN (src.getD 0 0).toNat) (onesN (src.getD 0 0).toNat), src.drop (onesN (src.getD 0 0).toNat + 1), 0)) := by
      show _ = _; unfold intL; rw [if_neg hne]
    clear hne
    obtain ⟨bb, off, rfl, hbk, hcell⟩ := hx.get h0
    have c0 := hcell 0 h0
    clear hcell
    rw [Nat.add_zero] at c0
    have hgb : gb src 0 = ((src.getD 0 0).toNat : Int) := rfl
    rw [hgb] at c0
    clear hgb
    have hb256 := (src.getD 0 0).toNat_lt
    obtain ⟨b, hbd⟩ : ∃ b, b = (src.getD 0 0).toNat := ⟨_, rfl⟩
    rw [← hbd] at c0 hb256 hI
    clear hbd
    by_cases h255 : b = 255
    · rw [if_pos h255] at hI
      have d1 : ((b : Int) == 255) = true := by simp; omega
      clear h255
      go_enter Tryz.func105, Tryz.ntmps105
      go_wp2_with fail
      go_ret3
      exact RetIntB.err hI.out (Below.refl _ _)
    · rw [if_neg h255] at hI
      have d1 : ((b : Int) == 255) = false := by simp; omega
      have hk7 := ones_le ⟨b, by omega⟩
      have hhd := head_lt ⟨b, by omega⟩
      have hheq := head_eq ⟨b, by omega⟩
      have hstep := fun k => ones_step ⟨b, by omega⟩ k
      simp only at hk7 hhd hheq hstep
      obtain ⟨k, hk⟩ : ∃ k, k = onesN b := ⟨_, rfl⟩
      obtain ⟨hd, hhd'⟩ : ∃ hd, hd = headN b := ⟨_, rfl⟩
      rw [← hk] at hk7 hhd hI hheq hstep
      rw [← hhd'] at hhd hI hheq
      clear hk hhd'
      have Hstep := Lib.hid hstep; clear hstep
      have Heq := Lib.hid hheq; clear hheq
      have hb254 : b ≤ 254 := by omega
      clear h255
      go_enter Tryz.func105, Tryz.ntmps105
      go_wp2_with fail
      go_loop [6] (fun i => ∃ j : Nat, j ≤ k ∧ i = .int .i64 (j : Int)) (fun i => k - (intOf i).toNat)
      case atStart => exact ⟨0, Nat.zero_le _, rfl⟩
      case round =>
        obtain ⟨j, hj, rfl⟩ := hrel
        have hp := power_any (7 - j) w (by omega)
        rw [show ((7 - j : Nat) : Int) = 7 - (j : Int) by omega] at hp
        have Hp := Lib.hid hp; clear hp
        have hs := Hstep.out ⟨j, by omega⟩
        have hpp := pw_pos (7 - j)
        have hpm : pw (7 - j) ≤ 128 := pw_mono (b := 7) (by omega)
        simp only at hs
        obtain ⟨P, hP⟩ : ∃ P, P = pw (7 - j) := ⟨_, rfl⟩
        rw [← hP] at Hp hs hpp hpm
        clear hP
        by_cases hjk : j < k
        · have hle := hs.2 hjk
          have d2 : decide ((256 : Int) - (P : Int) ≤ (b : Int)) = true := by simp; omega
          clear hs
          go_wp2_with (go_at_call 169; refine Hp.out.mono ?_; rintro e w1 ⟨rfl, hw1⟩; obtain rfl : w = w1 := hw1.symm)
          go_round
          case rel => exact ⟨j + 1, by omega, by go_num⟩
          case measure => simp [intOf]; omega
        · have hgt : ¬ 256 - P ≤ b := fun h => hjk (hs.1 h)
          have d2 : decide ((256 : Int) - (P : Int) ≤ (b : Int)) = false := by simp; omega
          clear hs
          obtain rfl : k = j := by omega
          clear hgt hjk hj
          by_cases hle : m ≤ k
          · rw [if_pos (by rw [Hl.out]; exact hle)] at hI
            have d3 : decide ((m : Int) < (k : Int) + 1) = true := by simp; omega
            go_wp2_with (go_at_call 169; refine Hp.out.mono ?_; rintro e w1 ⟨rfl, hw1⟩; obtain rfl : w = w1 := hw1.symm)
            go_ret3
            exact RetIntB.err hI.out (Below.refl _ _)
          · rw [if_neg (by rw [Hl.out]; exact hle)] at hI
            have d3 : decide ((m : Int) < (k : Int) + 1) = false := by simp; omega
            have hq := power_any (8 - k) w (by omega)
            rw [show ((8 - k : Nat) : Int) = 8 - (k : Int) by omega] at hq
            have Hq := Lib.hid hq; clear hq
            have heq := Heq.out
            obtain ⟨R, hR⟩ : ∃ R, R = pw (8 - k) := ⟨_, rfl⟩
            rw [← hR] at Hq heq
            clear hR
            obtain ⟨heq1, heq2⟩ := heq
            have hv : Hid ((b : Int) - (256 - (R : Int)) = (hd : Int)) := by show _ = _; omega
            have hv1 : 0 ≤ (b : Int) - (256 - (R : Int)) := by have := hv.out; omega
            clear heq1
            go_wp2_with fail
            refine Hp.out.mono ?_
            rintro e w1 ⟨rfl, hw1⟩
            obtain rfl : w = w1 := hw1.symm
            go_wp2_with fail
            refine Hq.out.mono ?_
            rintro e w1 ⟨rfl, hw1⟩
            obtain rfl : w = w1 := hw1.symm
            clear Hp Hq d2
            go_wp2_with fail
            go_loop [7, 8] (fun nn i => ∃ j : Nat, j ≤ k ∧ i = .int .i64 ((j : Int) + 1) ∧ nn = .int .i64 ((numTo src hd j : Nat) : Int)) (fun _ i => k + 1 - (intOf i).toNat)
            case atStart => exact ⟨0, Nat.zero_le _, rfl, by rw [hv.out]; rfl⟩
            case round =>
              obtain ⟨j, hj, rfl, rfl⟩ := hrel
              by_cases hjk : j < k
              · have dj : decide ((j : Int) + 1 ≤ (k : Int)) = true := by simp; omega
                have hsm := numTo_smaller (src := src) (j := j) hhd hk7 hjk
                have hnx : Hid (numTo src hd (j + 1) = 256 * numTo src hd j + (src.getD (j + 1) 0).toNat) := rfl
                have c5 := hx.cell (k := j + 1) (by omega)
                have hgb2 : gb src (j + 1) = ((src.getD (j + 1) 0).toNat : Int) := rfl
                rw [hgb2] at c5
                clear hgb2
                have hy256 := (src.getD (j + 1) 0).toNat_lt
                obtain ⟨y, hyd⟩ : ∃ y, y = (src.getD (j + 1) 0).toNat := ⟨_, rfl⟩
                rw [← hyd] at c5 hy256 hnx
                clear hyd
                obtain ⟨N, hN⟩ : ∃ N, N = numTo src hd j := ⟨_, rfl⟩
                rw [← hN] at hsm hnx ⊢
                clear hN
                have b5 : (j : Int) + 1 < (m : Int) := by omega
                go_wp2_with fail
                go_round
                case rel => exact ⟨j + 1, by omega, by go_num, by rw [hnx.out]; go_num⟩
                case measure => simp [intOf]; omega
              · have dj : decide ((j : Int) + 1 ≤ (k : Int)) = false := by simp; omega
                obtain rfl : k = j := by omega
                have hsm := numTo_small (src := src) (j := k) hhd hk7 (Nat.le_refl _)
                obtain ⟨N, hN⟩ : ∃ N, N = numTo src hd k := ⟨_, rfl⟩
                rw [← hN] at hsm hI ⊢
                clear hN
                by_cases hbig : 9007199254740991 < N
                · rw [if_pos (.inl hbig)] at hI
                  have d4 : decide ((9007199254740991 : Int) < (N : Int)) = true := by simp; omega
                  go_wp2_with fail
                  go_ret3
                  exact RetIntB.err hI.out (Below.refl _ _)
                · have d4 : decide ((9007199254740991 : Int) < (N : Int)) = false := by simp; omega
                  have hfu := Lib.hid (sizeR_any N w (by omega))
                  by_cases hne : furL N = k
                  · rw [if_neg (by omega)] at hI
                    have d5 : (((furL N : Nat) : Int) + 1 != (k : Int) + 1) = false := by rw [hne]; simp
                    obtain ⟨A6, r6, v6⟩ := hx.cut_l tB eB sB ((k : Int) + 1) (by omega) (by omega)
                    rw [show ((k : Int) + 1).toNat = k + 1 by omega] at r6 v6
                    have hcl := Lib.hid (restR_any A6 _ _ _ w v6 (by omega))
                    clear hne
                    go_wp2_with fail
                    refine hfu.out.mono ?_
                    rintro e w1 ⟨rfl, hw1⟩
                    obtain rfl : w = w1 := hw1.symm
                    go_wp2_with fail
                    refine hcl.out.mono ?_
                    rintro e w2 ⟨A2, n2, c2, rfl, ho2, hb2⟩
                    go_wp2_with fail
                    go_ret3
                    rw [hI.out]
                    exact ⟨A2, n2, c2, rfl, ho2, hb2⟩
                  · rw [if_pos (.inr hne)] at hI
                    have d5 : (((furL N : Nat) : Int) + 1 != (k : Int) + 1) = true := by simp; omega
                    clear hne
                    go_wp2_with fail
                    refine hfu.out.mono ?_
                    rintro e w1 ⟨rfl, hw1⟩
                    obtain rfl : w = w1 := hw1.symm
                    go_wp2_with fail
                    go_ret3
                    exact RetIntB.err hI.out (Below.refl _ _)

end Go.Proofs.YtohadkmaemmfgaaGreatDoor.Bwt

/- Dw Dx Ca Cb Cc Dy Dz Eb. -/
import Derived.Test.YtckkmafppfcecaaGreatDoorRN33
import Derived.Lib.ItoaNum
import Derived.Laws.BitsLemmas
import Derived.IntWalk
import Derived.Test.YtckkmafppfcecaaGreatDoorRN53
import Derived.Test.YtckkmafppfcecaaGreatDoorRN15
import Derived.Test.YtckkmafppfcecaaGreatDoorRN06
import Derived.WalkSpells
import Derived.Deep.RegionWith
set_option maxRecDepth 100000
set_option maxHeartbeats 4000000
namespace Go.Proofs.YtckkmafppfcecaaGreatDoor.Dic
open Go.RowKit Go.Proofs Go.Sort
set_option linter.unusedVariables false
def pw (k : Nat) : Nat := 2 ^ k
theorem pw_mono {a b : Nat} (h : a ≤ b) : pw a ≤ pw b := Nat.pow_le_pow_right (by omega) h
def onesN (b : Nat) : Nat := 8 - Lib.bitLen (255 - b)
def headN (b : Nat) : Nat := b - (256 - 2 ^ (8 - onesN b))
def numTo (src : List UInt8) (b0 : Nat) : Nat → Nat
  | 0 => b0
  | j + 1 => 256 * numTo src b0 j + (src.getD (j + 1) 0).toNat
def intL (src : List UInt8) : Nat × List UInt8 × Nat :=
  if src = [] then (0, [], 9)
  else if (src.getD 0 0).toNat = 255 then (0, [], 3)
  else if src.length ≤ onesN (src.getD 0 0).toNat then (0, [], 9)
  else if 9007199254740991 < numTo src (headN (src.getD 0 0).toNat) (onesN (src.getD 0 0).toNat) ∨ furL (numTo src (headN (src.getD 0 0).toNat) (onesN (src.getD 0 0).toNat)) ≠ onesN (src.getD 0 0).toNat then (0, [], 3)
  else (numTo src (headN (src.getD 0 0).toNat) (onesN (src.getD 0 0).toNat), src.drop (onesN (src.getD 0 0).toNat + 1), 0)
theorem ones_le : ∀ b : Fin 255, onesN b.val ≤ 7 := by decide +kernel
theorem ones_255 : onesN 255 = 8 := by decide +kernel
theorem head_lt : ∀ b : Fin 255, headN b.val < pw (7 - onesN b.val) := by decide +kernel
theorem head_and : ∀ b : Fin 255, bits BinOp.and IntKind.u8 (b.val : Int) (127 / 2 ^ onesN b.val : Int) = ((headN b.val : Nat) : Int) := by decide +kernel
theorem xor_255 : ∀ b : Fin 256, bits BinOp.xor IntKind.u8 IntKind.u8.max (b.val : Int) = ((255 - b.val : Nat) : Int) := by decide +kernel
theorem ones_int : ∀ b : Fin 256, (8 : Int) - ((Lib.bitLen (255 - b.val) : Nat) : Int) = ((onesN b.val : Nat) : Int) := by decide +kernel
theorem numTo_lt (src : List UInt8) (b0 k : Nat) (h : b0 < pw (7 - k)) : ∀ j, numTo src b0 j < pw (7 - k + 8 * j)
  | 0 => h
  | j + 1 => by
    have ih := numTo_lt src b0 k h j
    have hb := (src.getD (j + 1) 0).toNat_lt
    have e : pw (7 - k + 8 * (j + 1)) = 256 * pw (7 - k + 8 * j) := by
      unfold pw
      rw [show 7 - k + 8 * (j + 1) = 8 + (7 - k + 8 * j) by omega, Nat.pow_add]
    rw [numTo, e]
    omega
theorem numTo_small {src : List UInt8} {b0 k j : Nat} (h : b0 < pw (7 - k)) (hk : k ≤ 7) (hj : j ≤ k) : numTo src b0 j < 72057594037927936 := by
  have h1 := numTo_lt src b0 k h j
  have h2 : pw (7 - k + 8 * j) ≤ pw 56 := pw_mono (by omega)
  have h3 : pw 56 = 72057594037927936 := rfl
  omega
theorem numTo_smaller {src : List UInt8} {b0 k j : Nat} (h : b0 < pw (7 - k)) (hk : k ≤ 7) (hj : j < k) : numTo src b0 j < 281474976710656 := by
  have h1 := numTo_lt src b0 k h j
  have h2 : pw (7 - k + 8 * j) ≤ pw 48 := pw_mono (by omega)
  have h3 : pw 48 = 281474976710656 := rfl
  omega
theorem or_join {N y : Nat} (hN : N < 281474976710656) (hy : y < 256) : bits BinOp.or IntKind.i64 ((N : Int) * 256) (y : Int) = (N : Int) * 256 + (y : Int) :=
  bits_join .i64 63 (by decide) (fun n h1 h2 => IntWalk.i64_in n ⟨by omega, by omega⟩) 8 _ _ (by omega) (by omega) (by omega) (by omega) (by omega) (by omega)
def RetIntB (w : World) (x : Nat × List UInt8 × Nat) (e : Ending) (w' : World) : Prop := ∃ A m c, e = .returned (.tuple #[.int .i64 (x.1 : Int), .slice A m c, .int .i64 (x.2.2 : Int)]) ∧ Own encB w' w.heap.size 5 A m c x.2.1 ∧ Below w.heap.size w w'
theorem RetIntB.err {w w' : World} {x : Nat × List UInt8 × Nat} {k : Nat} (hx : x = (0, [], k)) (hb : Below w.heap.size w w') : RetIntB w x (.returned (.tuple #[.int .i64 0, .slice none 0 0, .int .i64 (k : Int)])) w' := by
  subst hx
  exact ⟨none, 0, 0, rfl, Own.nil _ _ _ _, hb⟩
theorem intP_any (A : Option Addr) (m c : Nat) (src : List UInt8) (w : World) (hx : Bytes w A m c src) (hm : m ≤ 1000000) :
    Calls Tryz.prog 118 #[.slice A m c] w (RetIntB w (intL src)) := by
  have Hl := Lib.hid hx.1
  rcases Nat.eq_zero_or_pos m with h0 | h0
  · have hR : Hid (intL src = (0, [], 9)) := by show _ = _; unfold intL; rw [if_pos (List.length_eq_zero_iff.1 (by rw [Hl.out]; exact h0))]
    have d0 : ((m : Int) == 0) = true := by simp; omega
    clear h0
    go_enter Tryz.func118, Tryz.ntmps118
    go_wp2_with fail
    go_ret3
    exact RetIntB.err hR.out (Below.refl _ _)
  · have hne : src ≠ [] := fun e => by have := Hl.out; rw [e] at this; simp at this; omega
    have d0 : ((m : Int) == 0) = false := by simp; omega
    have b0 : (0 : Int) < (m : Int) := by omega
    have hI : Hid (intL src = if (src.getD 0 0).toNat = 255 then (0, [], 3) else if src.length ≤ onesN (src.getD 0 0).toNat then (0, [], 9) else if 9007199254740991 < numTo src (headN (src.getD 0 0).toNat) (onesN (src.getD 0 0).toNat) ∨ furL (numTo src (headN (src.getD 0 0).toNat) (onesN (src.getD 0 0).toNat)) ≠ onesN (src.getD 0 0).toNat then (0, [], 3) else (numTo src (headN (src.getD 0 0).toNat) (onesN (src.getD 0 0).toNat), src.drop (onesN (src.getD 0 0).toNat + 1), 0)) := by
      show _ = _; unfold intL; rw [if_neg hne]
    clear hne
    obtain ⟨bb, off, rfl, hbk, hcell⟩ := hx.get h0
    have c0 := hcell 0 h0
    clear hcell
    rw [Nat.add_zero] at c0
    have hgb : gb src 0 = ((src.getD 0 0).toNat : Int) := rfl
    rw [hgb] at c0
    clear hgb
    have hb256 := (src.getD 0 0).toNat_lt
    obtain ⟨b, hbd⟩ : ∃ b, b = (src.getD 0 0).toNat := ⟨_, rfl⟩
    rw [← hbd] at c0 hb256 hI
    clear hbd
    have hxor := xor_255 ⟨b, hb256⟩
    have hlz := Tryz.bits_LeadingZeros8 ((255 - b : Nat) : Int) w (by omega) (by omega)
    rw [Int.toNat_natCast, ones_int ⟨b, hb256⟩] at hlz
    simp only at hlz hxor
    have Hlz := Lib.hid hlz; clear hlz
    by_cases h255 : b = 255
    · rw [if_pos h255] at hI
      have hk8 : onesN b = 8 := by rw [h255]; exact ones_255
      rw [hk8] at Hlz
      clear hk8 h255
      go_enter Tryz.func118, Tryz.ntmps118
      go_wp2_with fail
      refine Hlz.out.mono ?_
      rintro e w1 ⟨rfl, hw1⟩
      obtain rfl : w = w1 := hw1.symm
      go_wp2_with fail
      go_ret3
      exact RetIntB.err hI.out (Below.refl _ _)
    · rw [if_neg h255] at hI
      have hk7 := ones_le ⟨b, by omega⟩
      have hhd := head_lt ⟨b, by omega⟩
      have hand := head_and ⟨b, by omega⟩
      simp only at hk7 hhd hand
      obtain ⟨k, hk⟩ : ∃ k, k = onesN b := ⟨_, rfl⟩
      obtain ⟨hd, hhd'⟩ : ∃ hd, hd = headN b := ⟨_, rfl⟩
      rw [← hk] at Hlz hk7 hhd hand hI
      rw [← hhd'] at hhd hand hI
      clear hk hhd'
      have d1 : decide ((7 : Int) < (k : Int)) = false := by simp; omega
      have d1' : decide (7 < k) = false := by simp; omega
      by_cases hle : m ≤ k
      · rw [if_pos (by rw [Hl.out]; exact hle)] at hI
        have d2 : decide ((m : Int) ≤ (k : Int)) = true := by simp; omega
        have d2' : decide (m ≤ k) = true := by simp; omega
        clear h255 hand
        go_enter Tryz.func118, Tryz.ntmps118
        go_wp2_with fail
        refine Hlz.out.mono ?_
        rintro e w1 ⟨rfl, hw1⟩
        obtain rfl : w = w1 := hw1.symm
        go_wp2_with fail
        go_ret3
        exact RetIntB.err hI.out (Below.refl _ _)
      · rw [if_neg (by rw [Hl.out]; exact hle)] at hI
        have d2 : decide ((m : Int) ≤ (k : Int)) = false := by simp; omega
        have d2' : decide (m ≤ k) = false := by simp; omega
        have hhd128 : hd < 128 := by
          have h1 := pw_mono (a := 7 - k) (b := 7) (by omega)
          have h2 : pw 7 = 128 := rfl
          omega
        obtain ⟨A4, r4, v4⟩ := hx.cut_lh tB eB sB (1 : Int) ((k : Int) + 1) (by omega) (by omega) (by omega)
        rw [show (1 : Int).toNat = 1 from rfl, show ((k : Int) + 1).toNat - 1 = k by omega] at r4 v4
        clear h255
        go_enter Tryz.func118, Tryz.ntmps118
        go_wp2_with fail
        refine Hlz.out.mono ?_
        rintro e w1 ⟨rfl, hw1⟩
        obtain rfl : w = w1 := hw1.symm
        go_wp2_with fail
        go_quiet (fail)
        go_wp2_with fail
        clear hand hxor
        go_loopw [6, 8, 35] (fun nn _ i wr => ∃ j : Nat, j ≤ k ∧ i = .int .i64 (j : Int) ∧ nn = .int .i64 ((numTo src hd j : Nat) : Int) ∧ Drawn w wr) (fun _ _ i _ => k - (intOf i).toNat)
        case atStart => exact ⟨0, Nat.zero_le _, rfl, rfl, Drawn.drewN _ _⟩
        case round =>
          obtain ⟨j, hj, rfl, rfl, q, rfl⟩ := hrel
          by_cases hjk : j < k
          · have dj : decide ((j : Int) < (k : Int)) = true := by simp; omega
            have dj' : decide (j < k) = true := by simp; omega
            have hsm := numTo_smaller (src := src) (j := j) hhd hk7 hjk
            have hnx : Hid (numTo src hd (j + 1) = 256 * numTo src hd j + (src.getD (j + 1) 0).toNat) := rfl
            obtain ⟨b5, off5, rfl, hb5, hc5⟩ := v4.get hjk
            have c5 := hc5 j hjk
            clear hc5
            have hgb : gb ((src.drop 1).take k) j = ((src.getD (j + 1) 0).toNat : Int) := by
              rw [gb_take _ _ _ hjk, gb_drop, Nat.add_comm]; rfl
            rw [hgb] at c5
            clear hgb
            have hy256 := (src.getD (j + 1) 0).toNat_lt
            obtain ⟨y, hyd⟩ : ∃ y, y = (src.getD (j + 1) 0).toNat := ⟨_, rfl⟩
            rw [← hyd] at c5 hy256 hnx
            clear hyd
            obtain ⟨N, hN⟩ : ∃ N, N = numTo src hd j := ⟨_, rfl⟩
            rw [← hN] at hsm hnx ⊢
            clear hN
            have hor := or_join hsm hy256
            go_wp2_with fail
            go_roundw
            case rel => exact ⟨j + 1, by omega, by go_num, by rw [hnx.out]; go_num, q, rfl⟩
            case measure => simp [intOf]; omega
          · have dj : decide ((j : Int) < (k : Int)) = false := by simp; omega
            have dj' : decide (j < k) = false := by simp; omega
            obtain rfl : k = j := by omega
            have hsm := numTo_small (src := src) (j := k) hhd hk7 (Nat.le_refl _)
            obtain ⟨N, hN⟩ : ∃ N, N = numTo src hd k := ⟨_, rfl⟩
            rw [← hN] at hsm hI ⊢
            clear hN
            by_cases hbig : 9007199254740991 < N
            · rw [if_pos (.inl hbig)] at hI
              have d3 : decide ((9007199254740991 : Int) < (N : Int)) = true := by simp; omega
              go_wp2_with fail
              go_ret3
              exact RetIntB.err hI.out ((Drawn.drewN _ _).below _)
            · have d3 : decide ((9007199254740991 : Int) < (N : Int)) = false := by simp; omega
              have hfu := Lib.hid (further_any N (w.drewN q) (by omega))
              by_cases hne : furL N = k
              · rw [if_neg (by omega)] at hI
                have d4 : (((furL N : Nat) : Int) != (k : Int)) = false := by rw [hne]; simp
                obtain ⟨A6, r6, v6⟩ := hx.cut_l tB eB sB ((k : Int) + 1) (by omega) (by omega)
                rw [show ((k : Int) + 1).toNat = k + 1 by omega] at r6 v6
                have hcl := Lib.hid (clone_any A6 _ _ _ (w.drewN q) (v6.drewN q) (by omega))
                clear hne
                go_wp2_with fail
                refine hfu.out.mono ?_
                rintro e w1 ⟨rfl, hw1⟩
                obtain rfl := hw1
                go_wp2_with fail
                refine hcl.out.mono ?_
                rintro e w2 ⟨A2, n2, c2, rfl, ho2, hb2⟩
                go_wp2_with fail
                go_ret3
                rw [hI.out]
                exact ⟨A2, n2, c2, rfl, ho2, ((Drawn.drewN w q).below _).trans hb2⟩
              · rw [if_pos (.inr hne)] at hI
                have d4 : (((furL N : Nat) : Int) != (k : Int)) = true := by simp; omega
                clear hne
                go_wp2_with fail
                refine hfu.out.mono ?_
                rintro e w1 ⟨rfl, hw1⟩
                obtain rfl := hw1
                go_wp2_with fail
                go_ret3
                exact RetIntB.err hI.out ((Drawn.drewN _ _).below _)
end Go.Proofs.YtckkmafppfcecaaGreatDoor.Dic
namespace Go.Proofs.YtckkmafppfcecaaGreatDoor.Bwt
open Go.RowKit Go.Proofs Go.Sort
set_option linter.unusedVariables false
def RetOwn (B : Nat) (w : World) (xs : List UInt8) (e : Ending) (w' : World) : Prop := ∃ A n c, e = .returned (.slice A n c) ∧ Own encB w' B 5 A n c xs ∧ Below B w w'
theorem RetOwn.mk {B : Nat} {w w' : World} {xs : List UInt8} {A : Option Addr} {n c : Nat} (h : Own encB w' B 5 A n c xs) (hb : Below B w w') : RetOwn B w xs (.returned (.slice A n c)) w' := ⟨A, n, c, rfl, h, hb⟩
theorem number_any (n : Nat) (w : World) (hn : n ≤ 9007199254740991) : Calls Tryz.prog 257 #[.int .i64 (n : Int)] w fun e w' => e = .returned (.int .i64 (n : Int)) ∧ w' = w := by
  have d1 : decide ((n : Int) < 0) = false := by simp
  have d2 : decide ((9007199254740991 : Int) < (n : Int)) = false := by simp; omega
  go_enter Tryz.func257, Tryz.ntmps257
  go_wp2
  go_ret
  exact ⟨rfl, rfl⟩
def furL (n : Nat) : Nat := (Lib.bitLen n - 1) / 7
theorem further_any (n : Nat) (w : World) (hn : n < 4611686018427387904) : Calls Tryz.prog 190 #[.int .i64 (n : Int)] w fun e w' => e = .returned (.int .i64 ((furL n : Nat) : Int)) ∧ w' = w := by
  apply Dic.further_any <;> assumption
theorem furL_small {n : Nat} (h : n ≤ 127) : furL n = 0 := by
  have : Lib.bitLen n ≤ 7 := Lib.bitLen_le n 7 (by omega) (by omega)
  unfold furL; omega
theorem or_zero_u8 : ∀ k : Fin 128, bits BinOp.or IntKind.u8 0 (k.val : Int) = (k.val : Int) := by decide +kernel
theorem put_small (B : Nat) (A : Option Addr) (m c : Nat) (xs : List UInt8) (n : Nat) (w : World) (hown : Own encB w B 5 A m c xs) (hB : B ≤ w.heap.size) (hm : m ≤ 1000000) (hn : n ≤ 127) :
    Calls Tryz.prog 186 #[.slice A m c, .int .i64 (n : Int)] w (RetOwn B w (xs ++ [UInt8.ofNat n])) := by
  apply Dic.put_small <;> assumption
theorem own_empty (w : World) (e : TypeId) : Own encB (w.alloc (.cells #[] e)) w.heap.size e (some ⟨w.heap.size, 0, none⟩) 0 0 [] :=
  ⟨rfl, .inr ⟨w.heap.size, 0, #[], rfl, Nat.le_refl _, World.alloc_heap_new w _, Nat.le_refl _, by simp [maxLen], rfl, rfl⟩⟩
theorem clone_any (A : Option Addr) (m c : Nat) (xs : List UInt8) (w : World) (hx : Bytes w A m c xs) (hm : m ≤ 1000000) :
    Calls Tryz.prog 31 #[.slice A m c] w (RetOwn w.heap.size w xs) := by
  apply Go.Proofs.YtckkmafppfcecaaGreatDoor.clone_any <;> assumption
def pw (k : Nat) : Nat := 2 ^ k
theorem pw_mono {a b : Nat} (h : a ≤ b) : pw a ≤ pw b := Nat.pow_le_pow_right (by omega) h
theorem bitLen_bounds {n : Nat} (h : n < 18446744073709551616) (h0 : n ≠ 0) : 1 ≤ Lib.bitLen n ∧ 2 ^ (Lib.bitLen n - 1) ≤ n ∧ n < 2 ^ Lib.bitLen n := Lib.bitLenAux_bounds 64 n (by omega) h0
theorem furL_lt {n k : Nat} (hn : n < 72057594037927936) : pw (7 * (k + 1)) ≤ n ↔ k < furL n := by
  unfold furL pw
  rcases Nat.eq_zero_or_pos n with h | h
  · subst h
    have : Lib.bitLen 0 = 0 := by decide
    rw [this]
    have := Nat.one_le_two_pow (n := 7 * (k + 1))
    simp
  · obtain ⟨h1, h2, h3⟩ := bitLen_bounds (n := n) (by omega) (by omega)
    constructor
    · intro h4
      have h5 : 2 ^ (7 * (k + 1)) < 2 ^ Lib.bitLen n := Nat.lt_of_le_of_lt h4 h3
      have := (Nat.pow_lt_pow_iff_right (by omega : 1 < 2)).1 h5
      omega
    · intro h4
      exact Nat.le_trans (Nat.pow_le_pow_right (by omega) (by omega)) h2
def onesN (b : Nat) : Nat := 8 - Lib.bitLen (255 - b)
def headN (b : Nat) : Nat := b - (256 - 2 ^ (8 - onesN b))
def numTo (src : List UInt8) (b0 : Nat) : Nat → Nat
  | 0 => b0
  | j + 1 => 256 * numTo src b0 j + (src.getD (j + 1) 0).toNat
def intL (src : List UInt8) : Nat × List UInt8 × Nat :=
  if src = [] then (0, [], 9)
  else if (src.getD 0 0).toNat = 255 then (0, [], 3)
  else if src.length ≤ onesN (src.getD 0 0).toNat then (0, [], 9)
  else if 9007199254740991 < numTo src (headN (src.getD 0 0).toNat) (onesN (src.getD 0 0).toNat) ∨ furL (numTo src (headN (src.getD 0 0).toNat) (onesN (src.getD 0 0).toNat)) ≠ onesN (src.getD 0 0).toNat then (0, [], 3)
  else (numTo src (headN (src.getD 0 0).toNat) (onesN (src.getD 0 0).toNat), src.drop (onesN (src.getD 0 0).toNat + 1), 0)
theorem ones_le : ∀ b : Fin 255, onesN b.val ≤ 7 := by decide +kernel
theorem ones_255 : onesN 255 = 8 := by decide +kernel
theorem head_lt : ∀ b : Fin 255, headN b.val < pw (7 - onesN b.val) := by decide +kernel
theorem head_and : ∀ b : Fin 255, bits BinOp.and IntKind.u8 (b.val : Int) (127 / 2 ^ onesN b.val : Int) = ((headN b.val : Nat) : Int) := by decide +kernel
theorem xor_255 : ∀ b : Fin 256, bits BinOp.xor IntKind.u8 IntKind.u8.max (b.val : Int) = ((255 - b.val : Nat) : Int) := by decide +kernel
theorem ones_int : ∀ b : Fin 256, (8 : Int) - ((Lib.bitLen (255 - b.val) : Nat) : Int) = ((onesN b.val : Nat) : Int) := by decide +kernel
theorem numTo_lt (src : List UInt8) (b0 k : Nat) (h : b0 < pw (7 - k)) : ∀ j, numTo src b0 j < pw (7 - k + 8 * j)
  | 0 => h
  | j + 1 => by
    have ih := numTo_lt src b0 k h j
    have hb := (src.getD (j + 1) 0).toNat_lt
    have e : pw (7 - k + 8 * (j + 1)) = 256 * pw (7 - k + 8 * j) := by
      unfold pw
      rw [show 7 - k + 8 * (j + 1) = 8 + (7 - k + 8 * j) by omega, Nat.pow_add]
    rw [numTo, e]
    omega
theorem numTo_small {src : List UInt8} {b0 k j : Nat} (h : b0 < pw (7 - k)) (hk : k ≤ 7) (hj : j ≤ k) : numTo src b0 j < 72057594037927936 := by
  have h1 := numTo_lt src b0 k h j
  have h2 : pw (7 - k + 8 * j) ≤ pw 56 := pw_mono (by omega)
  have h3 : pw 56 = 72057594037927936 := rfl
  omega
theorem numTo_smaller {src : List UInt8} {b0 k j : Nat} (h : b0 < pw (7 - k)) (hk : k ≤ 7) (hj : j < k) : numTo src b0 j < 281474976710656 := by
  have h1 := numTo_lt src b0 k h j
  have h2 : pw (7 - k + 8 * j) ≤ pw 48 := pw_mono (by omega)
  have h3 : pw 48 = 281474976710656 := rfl
  omega
theorem or_join {N y : Nat} (hN : N < 281474976710656) (hy : y < 256) : bits BinOp.or IntKind.i64 ((N : Int) * 256) (y : Int) = (N : Int) * 256 + (y : Int) :=
  bits_join .i64 63 (by decide) (fun n h1 h2 => IntWalk.i64_in n ⟨by omega, by omega⟩) 8 _ _ (by omega) (by omega) (by omega) (by omega) (by omega) (by omega)
def RetIntB (w : World) (x : Nat × List UInt8 × Nat) (e : Ending) (w' : World) : Prop := ∃ A m c, e = .returned (.tuple #[.int .i64 (x.1 : Int), .slice A m c, .int .i64 (x.2.2 : Int)]) ∧ Own encB w' w.heap.size 5 A m c x.2.1 ∧ Below w.heap.size w w'
theorem RetIntB.err {w w' : World} {x : Nat × List UInt8 × Nat} {k : Nat} (hx : x = (0, [], k)) (hb : Below w.heap.size w w') : RetIntB w x (.returned (.tuple #[.int .i64 0, .slice none 0 0, .int .i64 (k : Int)])) w' := by
  subst hx
  exact ⟨none, 0, 0, rfl, Own.nil _ _ _ _, hb⟩
theorem numTo_dic (src : List UInt8) (b0 : Nat) : ∀ j, numTo src b0 j = Dic.numTo src b0 j
  | 0 => rfl
  | j + 1 => by rw [numTo, Dic.numTo, numTo_dic src b0 j]
theorem intL_dic (src : List UInt8) : intL src = Dic.intL src := by
  unfold intL Dic.intL
  simp only [numTo_dic]
  rfl
theorem intP_any (A : Option Addr) (m c : Nat) (src : List UInt8) (w : World) (hx : Bytes w A m c src) (hm : m ≤ 1000000) :
    Calls Tryz.prog 118 #[.slice A m c] w (RetIntB w (intL src)) := by
  rw [intL_dic]
  exact Dic.intP_any A m c src w hx hm

end Go.Proofs.YtckkmafppfcecaaGreatDoor.Bwt
namespace Go.Proofs.YtckkmafppfcecaaGreatDoor.Dic
open Go.RowKit Go.Proofs Go.Sort
set_option linter.unusedVariables false
def textL (src : List UInt8) : List UInt8 × List UInt8 × Nat :=
  if (intL src).2.2 ≠ 0 then ([], [], (intL src).2.2)
  else if 65536 < (intL src).1 then ([], [], 5)
  else if (intL src).2.1.length < (intL src).1 then ([], [], 9)
  else ((intL src).2.1.take (intL src).1, (intL src).2.1.drop (intL src).1, 0)
def RetBB (w : World) (x : List UInt8 × List UInt8 × Nat) (e : Ending) (w' : World) : Prop := ∃ A m c A' m' c', e = .returned (.tuple #[.slice A m c, .slice A' m' c', .int .i64 (x.2.2 : Int)]) ∧ Bytes w' A m c x.1 ∧ Own encB w' w.heap.size 5 A' m' c' x.2.1 ∧ Below w.heap.size w w'
theorem RetBB.err {w w' : World} {x : List UInt8 × List UInt8 × Nat} {k : Nat} (hx : x = ([], [], k)) (hb : Below w.heap.size w w') : RetBB w x (.returned (.tuple #[.slice none 0 0, .slice none 0 0, .int .i64 (k : Int)])) w' := by
  subst hx
  exact ⟨none, 0, 0, none, 0, 0, rfl, Bytes.nil _ _, Own.nil _ _ _ _, hb⟩
def splitL (n : Nat) (b : List UInt8) : List UInt8 × List UInt8 × Nat := if b.length < n then ([], [], 9) else (b.take n, b.drop n, 0)
theorem split_any (A : Option Addr) (m c n : Nat) (b : List UInt8) (w : World) (hx : Bytes w A m c b) (hm : m ≤ 1000000) (hn : n ≤ 1000000) :
    Calls Tryz.prog 260 #[.int .i64 (n : Int), .slice A m c] w (RetBB w (splitL n b)) := by
  have Hl := Lib.hid hx.1
  by_cases h : m < n
  · have d0 : decide ((m : Int) < (n : Int)) = true := by simp; omega
    have d0' : decide (m < n) = true := by simp; omega
    have hR : Hid (splitL n b = ([], [], 9)) := by show _ = _; unfold splitL; rw [if_pos (by rw [Hl.out]; exact h)]
    go_enter Tryz.func260, Tryz.ntmps260
    go_wp2_with fail
    go_ret3
    exact RetBB.err hR.out (Below.refl _ _)
  · have d0 : decide ((m : Int) < (n : Int)) = false := by simp; omega
    have d0' : decide (m < n) = false := by simp; omega
    have hR : Hid (splitL n b = (b.take n, b.drop n, 0)) := by show _ = _; unfold splitL; rw [if_neg (by rw [Hl.out]; exact h)]
    obtain ⟨r1, v1⟩ := hx.cut_h tB eB sB (n : Int) (by omega) (by omega)
    obtain ⟨A2, r2, v2⟩ := hx.cut_l tB eB sB (n : Int) (by omega) (by omega)
    rw [Int.toNat_natCast] at r1 v1 r2 v2
    have hbd : Below w.heap.size w w.drew := (Drawn.drewN w 1).below _
    have hn1 : n ≤ 1000000 := by omega
    have hn2 : m - n ≤ 1000000 := by omega
    go_enter Tryz.func260, Tryz.ntmps260
    go_wp2_with fail
    go_region_with (first
      | (go_at_call_of 31 (Value.slice A n c); refine (clone_any A n c _ w.drew (v1.below hbd) hn1).mono ?_; rintro e W1 ⟨A5, n5, c5, rfl, ho5, hb5⟩; have hbw5 : Below w.heap.size w W1 := hbd.trans hb5)
      | (go_at_call_of 31 (Value.slice A n c); refine (clone_any A n c _ W2 (v1.below hbw6) hn1).mono ?_; rintro e W1 ⟨A5, n5, c5, rfl, ho5, hb5⟩; have hbw5 : Below w.heap.size w W1 := hbw6.trans (hb5.mono hbw6.size))
      | (go_at_call_of 31 (Value.slice A2 (m - n) (c - n)); refine (clone_any A2 (m - n) (c - n) _ w.drew (v2.below hbd) hn2).mono ?_; rintro e W2 ⟨A6, n6, c6, rfl, ho6, hb6⟩; have hbw6 : Below w.heap.size w W2 := hbd.trans hb6)
      | (go_at_call_of 31 (Value.slice A2 (m - n) (c - n)); refine (clone_any A2 (m - n) (c - n) _ W1 (v2.below hbw5) hn2).mono ?_; rintro e W2 ⟨A6, n6, c6, rfl, ho6, hb6⟩; have hbw6 : Below w.heap.size w W2 := hbw5.trans (hb6.mono hbw5.size)))
    all_goals
      go_wp2_with fail
      go_ret3
      rw [hR.out]
      first
        | exact ⟨A5, n5, c5, A6, n6, c6, rfl, (ho5.below hb6).bytesBDic, ho6.mono hbw5.size, hbw6⟩
        | exact ⟨A5, n5, c5, A6, n6, c6, rfl, ho5.bytesBDic, ho6.below hb5, hbw5⟩
theorem textL_err {src : List UInt8} {k : Nat} (h : (intL src).2.2 = k) (hk : k ≠ 0) : textL src = ([], [], k) := by unfold textL; rw [if_pos (by rw [h]; exact hk), h]
theorem textL_long {src : List UInt8} (h : (intL src).2.2 = 0) (h2 : 65536 < (intL src).1) : textL src = ([], [], 5) := by unfold textL; rw [if_neg (by rw [h]; simp), if_pos h2]
theorem textL_split {src : List UInt8} (h : (intL src).2.2 = 0) (h2 : ¬ 65536 < (intL src).1) : textL src = splitL (intL src).1 (intL src).2.1 := by unfold textL splitL; rw [if_neg (by rw [h]; simp), if_neg h2]
theorem intL_len (src : List UInt8) : (intL src).2.1.length ≤ src.length := by
  unfold intL
  repeat' split
  all_goals simp
theorem intL_val (src : List UInt8) : (intL src).1 ≤ 9007199254740991 := by
  unfold intL
  repeat' split
  all_goals simp only [Nat.zero_le]
  rename_i h
  omega
theorem intL_errv (src : List UInt8) : (intL src).2.2 = 0 ∨ (intL src).2.2 = 3 ∨ (intL src).2.2 = 9 := by
  unfold intL
  repeat' split
  all_goals simp
theorem listP_any (A : Option Addr) (m c : Nat) (src : List UInt8) (w : World) (hx : Bytes w A m c src) (hm : m ≤ 1000000) :
    Calls Tryz.prog 259 #[.slice A m c, .func (.func 260) #[] #[]] w (RetBB w (textL src)) := by
  have Hl := Lib.hid hx.1
  have h1 := Lib.hid (intP_any A m c src w hx hm)
  have hlen := intL_len src
  rw [Hl.out] at hlen
  have hval := intL_val src
  have e1 := Lib.hid (fun h => textL_split (src := src) h)
  have e2 := Lib.hid (fun h => textL_long (src := src) h)
  have e3 := Lib.hid (fun k (h : (intL src).2.2 = k) => textL_err h)
  obtain ⟨x, hxx⟩ : ∃ x, x = intL src := ⟨_, rfl⟩
  rw [← hxx] at h1 hlen hval e1 e2 e3
  clear hxx
  obtain ⟨n, r, k⟩ := x
  simp only at hlen hval e1 e2 e3
  by_cases hk : k = 0
  · subst hk
    by_cases hbig : 65536 < n
    · have hR := Lib.hid (e2.out rfl hbig)
      have d1 : decide ((65536 : Int) < (n : Int)) = true := by simp; omega
      have d1' : decide (65536 < n) = true := by simp; omega
      clear e1 e2 e3
      go_enter Tryz.func259, Tryz.ntmps259
      go_wp2_with fail
      refine h1.out.mono ?_
      rintro e w1 ⟨A1, m1, c1, rfl, hs1, hb1⟩
      go_wp2_with fail
      go_ret3
      exact RetBB.err hR.out hb1
    · have hR := Lib.hid (e1.out rfl hbig)
      have d1 : decide ((65536 : Int) < (n : Int)) = false := by simp; omega
      have d1' : decide (65536 < n) = false := by simp; omega
      clear e1 e2 e3
      go_enter Tryz.func259, Tryz.ntmps259
      go_wp2_with fail
      refine h1.out.mono ?_
      rintro e w1 ⟨A1, m1, c1, rfl, hs1, hb1⟩
      have hm1 : m1 ≤ 1000000 := by rw [← hs1.length]; show r.length ≤ _; omega
      have h2 := split_any A1 m1 c1 n r w1 hs1.bytesBDic hm1 (by omega)
      rw [← hR.out] at h2
      have H2 := Lib.hid h2; clear h2
      have hsp : Hid (textL src = splitL n r) := hR
      by_cases hlt : r.length < n
      · have hT : Hid (textL src = ([], [], 9)) := by show _ = _; rw [hsp.out]; unfold splitL; rw [if_pos hlt]
        rw [hT.out] at H2
        go_wp2_with fail
        refine H2.out.mono ?_
        rintro e w2 ⟨A2, m2, c2, A3, m3, c3, rfl, hs2, hs3, hb2⟩
        go_wp2_with fail
        go_ret3
        exact RetBB.err hT.out (hb1.trans (hb2.mono hb1.size))
      · have hT : Hid (textL src = (r.take n, r.drop n, 0)) := by show _ = _; rw [hsp.out]; unfold splitL; rw [if_neg hlt]
        rw [hT.out] at H2
        go_wp2_with fail
        refine H2.out.mono ?_
        rintro e w2 ⟨A2, m2, c2, A3, m3, c3, rfl, hs2, hs3, hb2⟩
        go_wp2_with fail
        go_ret3
        rw [hT.out]
        exact ⟨A2, m2, c2, A3, m3, c3, rfl, hs2, hs3.mono hb1.size, hb1.trans (hb2.mono hb1.size)⟩
  · have hR := Lib.hid (e3.out k rfl hk)
    have d1 : ((k : Int) == 0) = false := by simp; omega
    have d2 : ((k : Int) != 0) = true := by simp; omega
    clear e1 e2 e3 hk
    go_enter Tryz.func259, Tryz.ntmps259
    go_wp2_with fail
    refine h1.out.mono ?_
    rintro e w1 ⟨A1, m1, c1, rfl, hs1, hb1⟩
    go_wp2_with fail
    go_ret3
    exact RetBB.err hR.out hb1
theorem bytesP_any (A : Option Addr) (m c : Nat) (src : List UInt8) (w : World) (hx : Bytes w A m c src) (hm : m ≤ 1000000) :
    Calls Tryz.prog 191 #[.slice A m c] w (RetBB w (textL src)) := by
  have h1 := Lib.hid (listP_any A m c src w hx hm)
  go_enter Tryz.func191, Tryz.ntmps191
  go_wp2_with fail
  refine h1.out.mono ?_
  rintro e w1 ⟨A1, m1, c1, A2, m2, c2, rfl, hs1, hs2, hb1⟩
  go_wp2_with fail
  go_ret3
  exact ⟨A1, m1, c1, A2, m2, c2, rfl, hs1, hs2, hb1⟩
def RetSB (w : World) (x : List UInt8 × List UInt8 × Nat) (e : Ending) (w' : World) : Prop := ∃ A' m' c', e = .returned (.tuple #[.string (strB x.1), .slice A' m' c', .int .i64 (x.2.2 : Int)]) ∧ Own encB w' w.heap.size 5 A' m' c' x.2.1 ∧ Below w.heap.size w w'
theorem textP_any (A : Option Addr) (m c : Nat) (src : List UInt8) (w : World) (hx : Bytes w A m c src) (hm : m ≤ 1000000) :
    Calls Tryz.prog 119 #[.slice A m c] w (RetSB w (textL src)) := by
  have h1 := Lib.hid (bytesP_any A m c src w hx hm)
  go_enter Tryz.func119, Tryz.ntmps119
  go_wp2_with fail
  refine h1.out.mono ?_
  rintro e w1 ⟨A1, m1, c1, A2, m2, c2, rfl, hs1, hs2, hb1⟩
  have s1 := hs1.str 23 5 9 uB Go.Proofs.YtckkmafppfcecaaGreatDoor.Dic.u8 uS
  go_wp2_with fail
  go_ret3
  exact ⟨A2, m2, c2, rfl, hs2, hb1⟩
section
variable {α : Type} {enc : α → Value} {P : Program} {w : World} {B : Nat} {e t : TypeId} {A : Option Addr} {n c : Nat} {xs : List α} {zero : α} {bytes : Nat}
  {ops : Array Oper} {rest : List Oper} {o : Oper} {a : Act} {K : Act → World → Prop} {Q : Exit → Act → World → Prop} {E : Prop}
theorem wpList_pushg (hgd : o.guard = none) (s x : Operand) (ho : o.op = .call { callee := .builtin .append, args := #[s, x], argTypes := #[t, t] })
    (ht : P.underlying t = some (.slice e)) (hi : (P.info? e).map (fun i => (i.zero, i.size, i.bytes)) = some (some (enc zero), 1, bytes)) (h1 : ∀ x, (enc x).oneCell' = true) (hz : (enc zero).cells.size = 1)
    (hs : a.eval s = .slice A n c) (hown : Own enc w B e A n c xs) (hB : B ≤ w.heap.size) (y : α)
    (hx : a.eval x = .slice (some ⟨w.heap.size, 0, none⟩) 1 1) (hl : n + 1 ≤ maxLen) (hby : (n + 1) * bytes ≤ 140737488355328)
    (h : ∀ A2 c2 w', Own enc w' B e A2 (n + 1) c2 (xs ++ [y]) → Below B w w' → w.grownBy w' (Value.slice A n c).ownBlock → wpList P ops Q rest (a.put o.dst (.slice A2 (n + 1) c2)) w') : wpList P ops Q (o :: rest) a (w.alloc (.cells #[enc y] e)) := by
  refine wpList_plain hgd fun K hK => ?_
  obtain ⟨A2, c2, w', hrun, h2, h3, h4⟩ := run_append_own_one (P := P) o.type ht hi h1 hz hown hB y hl hby
  unfold Oper.wp execOp
  simp only [ho, resolve, invoke, builtin, Sem.run_bind, Sem.run_pure, Result.andThen_ok, List.map_toArray, List.map_cons, List.map_nil, hs, hx, hrun]
  exact hK _ _ (h A2 c2 w' h2 h3 (grownBy.trans' (World.grownBy_alloc w _ _) h4))
end
theorem own_block_lt {α : Type} {enc : α → Value} {w : World} {B : Nat} {e : TypeId} {A : Option Addr} {n c : Nat} {xs : List α} (h : Own enc w B e A n c xs) : ∀ g, (Value.slice A n c).ownBlock = some g → g < w.heap.size := fun g hg => by
  rcases h.2 with ⟨h1, _⟩ | ⟨g', cap, cur, h1, _, h3, _⟩
  · rw [h1] at hg; cases hg
  · rw [h1] at hg
    injection hg with hg
    have hg' : g' = g := hg
    subst hg'
    exact (Array.getElem?_eq_some_iff.1 h3).1
theorem _root_.Go.Proofs.YtckkmafppfcecaaGreatDoor.Own.past {α : Type} {enc : α → Value} {X Y : World} {B N : Nat} {e : TypeId} {A : Option Addr} {n c : Nat} {xs : List α} {row : Option Nat} (h : Own enc X B e A n c xs) (hg : X.grownBy Y row) (hrow : ∀ g, row = some g → g < B) : Own enc Y B e A n c xs :=
  h.keepDic fun g o hB ho _ => (hg.block g (Array.getElem?_eq_some_iff.1 ho).1 (fun e => by have := hrow g e.symm; omega)).trans ho
theorem short_snoc {ws : List (List UInt8)} {s : List UInt8} (h : ∀ s ∈ ws, s.length ≤ 65536) (hs : s.length ≤ 65536) : ∀ t ∈ ws ++ [s], t.length ≤ 65536 := fun t ht => by
  rcases List.mem_append.1 ht with h1 | h1
  · exact h t h1
  · rw [List.mem_singleton] at h1; subst h1; exact hs
def readL : Nat → List UInt8 → List (List UInt8) → List (List UInt8) × List UInt8 × Nat
  | 0, r, ws => (ws, r, 0)
  | k + 1, r, ws => if (textL r).2.2 ≠ 0 then ([], [], (textL r).2.2) else readL k (textL r).2.1 (ws ++ [(textL r).1])
theorem textL_len (r : List UInt8) : (textL r).2.1.length ≤ r.length ∧ (textL r).1.length ≤ 65536 := by
  have := intL_len r
  unfold textL
  repeat' split
  all_goals simp
  omega
theorem ones_small : ∀ b : Fin 128, onesN b.val = 0 ∧ headN b.val = b.val := by decide +kernel
theorem intL_small {n : Nat} (hn : n ≤ 127) (r : List UInt8) : intL (UInt8.ofNat n :: r) = (n, r, 0) := by
  have ht : (UInt8.ofNat n).toNat = n := by rw [UInt8.toNat_ofNat', Nat.mod_eq_of_lt (by omega)]
  have hg : ((UInt8.ofNat n :: r).getD 0 0).toNat = n := ht
  obtain ⟨h1, h2⟩ := ones_small ⟨n, by omega⟩
  simp only at h1 h2
  unfold intL
  rw [if_neg (by simp), hg, if_neg (by omega), h1, if_neg (by simp), h2]
  show (if 9007199254740991 < n ∨ furL n ≠ 0 then _ else _) = _
  rw [if_neg (by rw [furL_small hn]; omega)]
  rfl
theorem textL_small {s : List UInt8} (hs : s.length ≤ 127) (r : List UInt8) : textL (UInt8.ofNat s.length :: s ++ r) = (s, r, 0) := by
  have h := intL_small hs (s ++ r)
  unfold textL
  rw [List.cons_append, h]
  simp only
  rw [if_neg (by simp), if_neg (by omega), if_neg (by simp)]
  simp
theorem readL_texts : ∀ (ws : List (List UInt8)) (r : List UInt8) (acc : List (List UInt8)), (∀ s ∈ ws, s.length ≤ 127) → readL ws.length (textsL ws ++ r) acc = (acc ++ ws, r, 0)
  | [], r, acc, _ => by simp [readL, textsL]
  | s :: ws, r, acc, h => by
    have ht := textL_small (h s (by simp)) (textsL ws ++ r)
    have e : textsL (s :: ws) ++ r = UInt8.ofNat s.length :: s ++ (textsL ws ++ r) := by simp [textsL]
    rw [List.length_cons, readL, e, ht]
    simp only
    rw [if_neg (by simp), readL_texts ws r _ (fun s hs => h s (by simp [hs]))]
    simp
theorem learn_words (bs : List UInt8) : ∀ s ∈ learnL bs 64, s.length ≤ 32 := fun s hs => word_le ((checkL_zero.1 (learn_check bs (most := 64) (by omega))).2.1 s hs)
theorem learn_len (bs : List UInt8) : (learnL bs 64).length ≤ 64 := (checkL_zero.1 (learn_check bs (most := 64) (by omega))).1
theorem forward_read (bs : List UInt8) : intL (forwardL bs) = ((learnL bs 64).length, textsL (learnL bs 64) ++ codeL (learnL bs 64) bs, 0) ∧ readL (learnL bs 64).length (textsL (learnL bs 64) ++ codeL (learnL bs 64) bs) [] = (learnL bs 64, codeL (learnL bs 64) bs, 0) := by
  have h1 := learn_len bs
  constructor
  · unfold forwardL
    rw [List.cons_append]
    exact intL_small (by omega) _
  · have := readL_texts (learnL bs 64) (codeL (learnL bs 64) bs) [] (fun s hs => by have := learn_words bs s hs; omega)
    simpa using this
end Go.Proofs.YtckkmafppfcecaaGreatDoor.Dic

/- Cb Cc. -/
import Derived.Test.YtckkmafppfcecaaGreatDoorCN34
import Derived.Laws.BitsLemmas
import Derived.IntWalk
/- wire.Int of the program and of the reference. -/
namespace Go.Proofs.YtckkmafppfcecaaGreatDoor.Bwt
open Go.RowKit Go.Proofs Go.Sort
set_option linter.unusedVariables false

/-- how many further bytes the first one tells. -/
def onesN (b : Nat) : Nat := 8 - Lib.bitLen (255 - b)
def headN (b : Nat) : Nat := b - (256 - 2 ^ (8 - onesN b))
/-- the number behind j further bytes. -/
def numTo (src : List UInt8) (b0 : Nat) : Nat → Nat
  | 0 => b0
  | j + 1 => 256 * numTo src b0 j + (src.getD (j + 1) 0).toNat
def intL (src : List UInt8) : Nat × List UInt8 × Nat :=
  if src = [] then (0, [], 9)
  else if (src.getD 0 0).toNat = 255 then (0, [], 3)
  else if src.length ≤ onesN (src.getD 0 0).toNat then (0, [], 9)
  else if 9007199254740991 < numTo src (headN (src.getD 0 0).toNat) (onesN (src.getD 0 0).toNat) ∨ furL (numTo src (headN (src.getD 0 0).toNat) (onesN (src.getD 0 0).toNat)) ≠ onesN (src.getD 0 0).toNat then (0, [], 3)
  else (numTo src (headN (src.getD 0 0).toNat) (onesN (src.getD 0 0).toNat), src.drop (onesN (src.getD 0 0).toNat + 1), 0)

theorem ones_le : ∀ b : Fin 255, onesN b.val ≤ 7 := by decide +kernel
theorem ones_255 : onesN 255 = 8 := by decide +kernel
theorem ones_step : ∀ b : Fin 255, ∀ k : Fin 8, (256 - pw (7 - k.val) ≤ b.val ↔ k.val < onesN b.val) := by decide +kernel
theorem head_lt : ∀ b : Fin 255, headN b.val < pw (7 - onesN b.val) := by decide +kernel
theorem head_eq : ∀ b : Fin 255, 256 - pw (8 - onesN b.val) + headN b.val = b.val ∧ pw (8 - onesN b.val) ≤ 256 := by decide +kernel
theorem head_and : ∀ b : Fin 255, bits BinOp.and IntKind.u8 (b.val : Int) (127 / 2 ^ onesN b.val : Int) = ((headN b.val : Nat) : Int) := by decide +kernel
theorem xor_255 : ∀ b : Fin 256, bits BinOp.xor IntKind.u8 IntKind.u8.max (b.val : Int) = ((255 - b.val : Nat) : Int) := by decide +kernel
theorem ones_int : ∀ b : Fin 256, (8 : Int) - ((Lib.bitLen (255 - b.val) : Nat) : Int) = ((onesN b.val : Nat) : Int) := by decide +kernel
theorem numTo_lt (src : List UInt8) (b0 k : Nat) (h : b0 < pw (7 - k)) : ∀ j, numTo src b0 j < pw (7 - k + 8 * j)
  | 0 => h
  | j + 1 => by
    have ih := numTo_lt src b0 k h j
    have hb := (src.getD (j + 1) 0).toNat_lt
    have e : pw (7 - k + 8 * (j + 1)) = 256 * pw (7 - k + 8 * j) := by
      unfold pw
      rw [show 7 - k + 8 * (j + 1) = 8 + (7 - k + 8 * j) by omega, Nat.pow_add]
    rw [numTo, e]
    omega
theorem numTo_small {src : List UInt8} {b0 k j : Nat} (h : b0 < pw (7 - k)) (hk : k ≤ 7) (hj : j ≤ k) : numTo src b0 j < 72057594037927936 := by
  have h1 := numTo_lt src b0 k h j
  have h2 : pw (7 - k + 8 * j) ≤ pw 56 := pw_mono (by omega)
  have h3 : pw 56 = 72057594037927936 := rfl
  omega
theorem numTo_smaller {src : List UInt8} {b0 k j : Nat} (h : b0 < pw (7 - k)) (hk : k ≤ 7) (hj : j < k) : numTo src b0 j < 281474976710656 := by
  have h1 := numTo_lt src b0 k h j
  have h2 : pw (7 - k + 8 * j) ≤ pw 48 := pw_mono (by omega)
  have h3 : pw 48 = 281474976710656 := rfl
  omega

theorem or_join {N y : Nat} (hN : N < 281474976710656) (hy : y < 256) : bits BinOp.or IntKind.i64 ((N : Int) * 256) (y : Int) = (N : Int) * 256 + (y : Int) :=
  bits_join .i64 63 (by decide) (fun n h1 h2 => IntWalk.i64_in n ⟨by omega, by omega⟩) 8 _ _ (by omega) (by omega) (by omega) (by omega) (by omega) (by omega)
def RetIntB (w : World) (x : Nat × List UInt8 × Nat) (e : Ending) (w' : World) : Prop := ∃ A m c, e = .returned (.tuple #[.int .i64 (x.1 : Int), .slice A m c, .int .i64 (x.2.2 : Int)]) ∧ Own encB w' w.heap.size 5 A m c x.2.1 ∧ Below w.heap.size w w'
theorem RetIntB.err {w w' : World} {x : Nat × List UInt8 × Nat} {k : Nat} (hx : x = (0, [], k)) (hb : Below w.heap.size w w') : RetIntB w x (.returned (.tuple #[.int .i64 0, .slice none 0 0, .int .i64 (k : Int)])) w' := by
  subst hx
  exact ⟨none, 0, 0, rfl, Own.nil _ _ _ _, hb⟩

set_option maxRecDepth 100000 in
set_option maxHeartbeats 2000000 in
theorem intP_any (A : Option Addr) (m c : Nat) (src : List UInt8) (w : World) (hx : Bytes w A m c src) (hm : m ≤ 1000000) :
    Calls Tryz.prog 118 #[.slice A m c] w (RetIntB w (intL src)) := by
  have Hl := Lib.hid hx.1
  rcases Nat.eq_zero_or_pos m with h0 | h0
  · have hR : Hid (intL src = (0, [], 9)) := by show _ = _; unfold intL; rw [if_pos (List.length_eq_zero_iff.1 (by rw [Hl.out]; exact h0))]
    have d0 : ((m : Int) == 0) = true := by simp; omega
    clear h0
    go_enter Tryz.func118, Tryz.ntmps118
    go_wp2_with fail
    go_ret3
    exact RetIntB.err hR.out (Below.refl _ _)
  · have hne : src ≠ [] := fun e => by have := Hl.out; rw [e] at this; simp at this; omega
    have d0 : ((m : Int) == 0) = false := by simp; omega
    have b0 : (0 : Int) < (m : Int) := by omega
    have hI : Hid (intL src = if (src.getD 0 0).toNat = 255 then (0, [], 3) else if src.length ≤ onesN (src.getD 0 0).toNat then (0, [], 9) else if 9007199254740991 < numTo src (headN (src.getD 0 0).toNat) (onesN (src.getD 0 0).toNat) ∨ furL (numTo src (headN (src.getD 0 0).toNat) (onesN (src.getD 0 0).toNat)) ≠ onesN (src.getD 0 0).toNat then (0, [], 3) else (numTo src (headN (src.getD 0 0).toNat) (onesN (src.getD 0 0).toNat), src.drop (onesN (src.getD 0 0).toNat + 1), 0)) := by
      show _ = _; unfold intL; rw [if_neg hne]
    clear hne
    obtain ⟨bb, off, rfl, hbk, hcell⟩ := hx.get h0
    have c0 := hcell 0 h0
    clear hcell
    rw [Nat.add_zero] at c0
    have hgb : gb src 0 = ((src.getD 0 0).toNat : Int) := rfl
    rw [hgb] at c0
    clear hgb
    have hb256 := (src.getD 0 0).toNat_lt
    obtain ⟨b, hbd⟩ : ∃ b, b = (src.getD 0 0).toNat := ⟨_, rfl⟩
    rw [← hbd] at c0 hb256 hI
    clear hbd
    have hxor := xor_255 ⟨b, hb256⟩
    have hlz := Tryz.bits_LeadingZeros8 ((255 - b : Nat) : Int) w (by omega) (by omega)
    rw [Int.toNat_natCast, ones_int ⟨b, hb256⟩] at hlz
    simp only at hlz hxor
    have Hlz := Lib.hid hlz; clear hlz
    by_cases h255 : b = 255
    · rw [if_pos h255] at hI
      have hk8 : onesN b = 8 := by rw [h255]; exact ones_255
      rw [hk8] at Hlz
      clear hk8 h255
      go_enter Tryz.func118, Tryz.ntmps118
      go_wp2_with fail
      refine Hlz.out.mono ?_
      rintro e w1 ⟨rfl, hw1⟩
      obtain rfl : w = w1 := hw1.symm
      go_wp2_with fail
      go_ret3
      exact RetIntB.err hI.out (Below.refl _ _)
    · rw [if_neg h255] at hI
      have hk7 := ones_le ⟨b, by omega⟩
      have hhd := head_lt ⟨b, by omega⟩
      have hand := head_and ⟨b, by omega⟩
      simp only at hk7 hhd hand
      obtain ⟨k, hk⟩ : ∃ k, k = onesN b := ⟨_, rfl⟩
      obtain ⟨hd, hhd'⟩ : ∃ hd, hd = headN b := ⟨_, rfl⟩
      rw [← hk] at Hlz hk7 hhd hand hI
      rw [← hhd'] at hhd hand hI
      clear hk hhd'
      have d1 : decide ((7 : Int) < (k : Int)) = false := by simp; omega
      have d1' : decide (7 < k) = false := by simp; omega
      by_cases hle : m ≤ k
      · rw [if_pos (by rw [Hl.out]; exact hle)] at hI
        have d2 : decide ((m : Int) ≤ (k : Int)) = true := by simp; omega
        have d2' : decide (m ≤ k) = true := by simp; omega
        clear h255 hand
        go_enter Tryz.func118, Tryz.ntmps118
        go_wp2_with fail
        refine Hlz.out.mono ?_
        rintro e w1 ⟨rfl, hw1⟩
        obtain rfl : w = w1 := hw1.symm
        go_wp2_with fail
        go_ret3
        exact RetIntB.err hI.out (Below.refl _ _)
      · rw [if_neg (by rw [Hl.out]; exact hle)] at hI
        have d2 : decide ((m : Int) ≤ (k : Int)) = false := by simp; omega
        have d2' : decide (m ≤ k) = false := by simp; omega
        have hhd128 : hd < 128 := by
          have h1 := pw_mono (a := 7 - k) (b := 7) (by omega)
          have h2 : pw 7 = 128 := rfl
          omega
        obtain ⟨A4, r4, v4⟩ := hx.cut_lh tB eB sB (1 : Int) ((k : Int) + 1) (by omega) (by omega) (by omega)
        rw [show (1 : Int).toNat = 1 from rfl, show ((k : Int) + 1).toNat - 1 = k by omega] at r4 v4
        clear h255
        go_enter Tryz.func118, Tryz.ntmps118
        go_wp2_with fail
        refine Hlz.out.mono ?_
        rintro e w1 ⟨rfl, hw1⟩
        obtain rfl : w = w1 := hw1.symm
        go_wp2_with fail
        go_quiet (fail)
        go_wp2_with fail
        clear hand hxor
        go_loopw [6, 8, 35] (fun nn _ i wr => ∃ j : Nat, j ≤ k ∧ i = .int .i64 (j : Int) ∧ nn = .int .i64 ((numTo src hd j : Nat) : Int) ∧ Drawn w wr) (fun _ _ i _ => k - (intOf i).toNat)
        case atStart => exact ⟨0, Nat.zero_le _, rfl, rfl, Drawn.drewN _ _⟩
        case round =>
          obtain ⟨j, hj, rfl, rfl, q, rfl⟩ := hrel
          by_cases hjk : j < k
          · have dj : decide ((j : Int) < (k : Int)) = true := by simp; omega
            have dj' : decide (j < k) = true := by simp; omega
            have hsm := numTo_smaller (src := src) (j := j) hhd hk7 hjk
            have hnx : Hid (numTo src hd (j + 1) = 256 * numTo src hd j + (src.getD (j + 1) 0).toNat) := rfl
            obtain ⟨b5, off5, rfl, hb5, hc5⟩ := v4.get hjk
            have c5 := hc5 j hjk
            clear hc5
            have hgb : gb ((src.drop 1).take k) j = ((src.getD (j + 1) 0).toNat : Int) := by
              rw [gb_take _ _ _ hjk, gb_drop, Nat.add_comm]; rfl
            rw [hgb] at c5
            clear hgb
            have hy256 := (src.getD (j + 1) 0).toNat_lt
            obtain ⟨y, hyd⟩ : ∃ y, y = (src.getD (j + 1) 0).toNat := ⟨_, rfl⟩
            rw [← hyd] at c5 hy256 hnx
            clear hyd
            obtain ⟨N, hN⟩ : ∃ N, N = numTo src hd j := ⟨_, rfl⟩
            rw [← hN] at hsm hnx ⊢
            clear hN
            have hor := or_join hsm hy256
            go_wp2_with fail
            go_roundw
            case rel => exact ⟨j + 1, by omega, by go_num, by rw [hnx.out]; go_num, q, rfl⟩
            case measure => simp [intOf]; omega
          · have dj : decide ((j : Int) < (k : Int)) = false := by simp; omega
            have dj' : decide (j < k) = false := by simp; omega
            obtain rfl : k = j := by omega
            have hsm := numTo_small (src := src) (j := k) hhd hk7 (Nat.le_refl _)
            obtain ⟨N, hN⟩ : ∃ N, N = numTo src hd k := ⟨_, rfl⟩
            rw [← hN] at hsm hI ⊢
            clear hN
            by_cases hbig : 9007199254740991 < N
            · rw [if_pos (.inl hbig)] at hI
              have d3 : decide ((9007199254740991 : Int) < (N : Int)) = true := by simp; omega
              go_wp2_with fail
              go_ret3
              exact RetIntB.err hI.out ((Drawn.drewN _ _).below _)
            · have d3 : decide ((9007199254740991 : Int) < (N : Int)) = false := by simp; omega
              have hfu := Lib.hid (further_any N (w.drewN q) (by omega))
              by_cases hne : furL N = k
              · rw [if_neg (by omega)] at hI
                have d4 : (((furL N : Nat) : Int) != (k : Int)) = false := by rw [hne]; simp
                obtain ⟨A6, r6, v6⟩ := hx.cut_l tB eB sB ((k : Int) + 1) (by omega) (by omega)
                rw [show ((k : Int) + 1).toNat = k + 1 by omega] at r6 v6
                have hcl := Lib.hid (clone_any A6 _ _ _ (w.drewN q) (v6.drewN q) (by omega))
                clear hne
                go_wp2_with fail
                refine hfu.out.mono ?_
                rintro e w1 ⟨rfl, hw1⟩
                obtain rfl := hw1
                go_wp2_with fail
                refine hcl.out.mono ?_
                rintro e w2 ⟨A2, n2, c2, rfl, ho2, hb2⟩
                go_wp2_with fail
                go_ret3
                rw [hI.out]
                exact ⟨A2, n2, c2, rfl, ho2, ((Drawn.drewN w q).below _).trans hb2⟩
              · rw [if_pos (.inr hne)] at hI
                have d4 : (((furL N : Nat) : Int) != (k : Int)) = true := by simp; omega
                clear hne
                go_wp2_with fail
                refine hfu.out.mono ?_
                rintro e w1 ⟨rfl, hw1⟩
                obtain rfl := hw1
                go_wp2_with fail
                go_ret3
                exact RetIntB.err hI.out ((Drawn.drewN _ _).below _)

set_option maxRecDepth 100000 in
set_option maxHeartbeats 2000000 in
theorem intR_any (A : Option Addr) (m c : Nat) (src : List UInt8) (w : World) (hx : Bytes w A m c src) (hm : m ≤ 1000000) :
    Calls Tryz.prog 139 #[.slice A m c] w (RetIntB w (intL src)) := by
  have Hl := Lib.hid hx.1
  rcases Nat.eq_zero_or_pos m with h0 | h0
  · have hR : Hid (intL src = (0, [], 9)) := by show _ = _; unfold intL; rw [if_pos (List.length_eq_zero_iff.1 (by rw [Hl.out]; exact h0))]
    have d0 : ((m : Int) == 0) = true := by simp; omega
    clear h0
    go_enter Tryz.func139, Tryz.ntmps139
    go_wp2_with fail
    go_ret3
    exact RetIntB.err hR.out (Below.refl _ _)
  · have hne : src ≠ [] := fun e => by have := Hl.out; rw [e] at this; simp at this; omega
    have d0 : ((m : Int) == 0) = false := by simp; omega
    have b0 : (0 : Int) < (m : Int) := by omega
    have hI : Hid (intL src = if (src.getD 0 0).toNat = 255 then (0, [], 3) else if src.length ≤ onesN (src.getD 0 0).toNat then (0, [], 9) else if 9007199254740991 < numTo src (headN (src.getD 0 0).toNat) (onesN (src.getD 0 0).toNat) ∨ furL (numTo src (headN (src.getD 0 0).toNat) (onesN (src.getD 0 0).toNat)) ≠ onesN (src.getD 0 0).toNat then (0, [], 3) else (numTo src (headN (src.getD 0 0).toNat) (onesN (src.getD 0 0).toNat), src.drop (onesN (src.getD 0 0).toNat + 1), 0)) := by
      show _ = _; unfold intL; rw [if_neg hne]
    clear hne
    obtain ⟨bb, off, rfl, hbk, hcell⟩ := hx.get h0
    have c0 := hcell 0 h0
    clear hcell
    rw [Nat.add_zero] at c0
    have hgb : gb src 0 = ((src.getD 0 0).toNat : Int) := rfl
    rw [hgb] at c0
    clear hgb
    have hb256 := (src.getD 0 0).toNat_lt
    obtain ⟨b, hbd⟩ : ∃ b, b = (src.getD 0 0).toNat := ⟨_, rfl⟩
    rw [← hbd] at c0 hb256 hI
    clear hbd
    by_cases h255 : b = 255
    · rw [if_pos h255] at hI
      have d1 : ((b : Int) == 255) = true := by simp; omega
      clear h255
      go_enter Tryz.func139, Tryz.ntmps139
      go_wp2_with fail
      go_ret3
      exact RetIntB.err hI.out (Below.refl _ _)
    · rw [if_neg h255] at hI
      have d1 : ((b : Int) == 255) = false := by simp; omega
      have hk7 := ones_le ⟨b, by omega⟩
      have hhd := head_lt ⟨b, by omega⟩
      have hheq := head_eq ⟨b, by omega⟩
      have hstep := fun k => ones_step ⟨b, by omega⟩ k
      simp only at hk7 hhd hheq hstep
      obtain ⟨k, hk⟩ : ∃ k, k = onesN b := ⟨_, rfl⟩
      obtain ⟨hd, hhd'⟩ : ∃ hd, hd = headN b := ⟨_, rfl⟩
      rw [← hk] at hk7 hhd hI hheq hstep
      rw [← hhd'] at hhd hI hheq
      clear hk hhd'
      have Hstep := Lib.hid hstep; clear hstep
      have Heq := Lib.hid hheq; clear hheq
      have hb254 : b ≤ 254 := by omega
      clear h255
      go_enter Tryz.func139, Tryz.ntmps139
      go_wp2_with fail
      go_loop [6] (fun i => ∃ j : Nat, j ≤ k ∧ i = .int .i64 (j : Int)) (fun i => k - (intOf i).toNat)
      case atStart => exact ⟨0, Nat.zero_le _, rfl⟩
      case round =>
        obtain ⟨j, hj, rfl⟩ := hrel
        have hp := power_any (7 - j) w (by omega)
        rw [show ((7 - j : Nat) : Int) = 7 - (j : Int) by omega] at hp
        have Hp := Lib.hid hp; clear hp
        have hs := Hstep.out ⟨j, by omega⟩
        have hpp := pw_pos (7 - j)
        have hpm : pw (7 - j) ≤ 128 := pw_mono (b := 7) (by omega)
        simp only at hs
        obtain ⟨P, hP⟩ : ∃ P, P = pw (7 - j) := ⟨_, rfl⟩
        rw [← hP] at Hp hs hpp hpm
        clear hP
        by_cases hjk : j < k
        · have hle := hs.2 hjk
          have d2 : decide ((256 : Int) - (P : Int) ≤ (b : Int)) = true := by simp; omega
          clear hs
          go_wp2_with (go_at_call 208; refine Hp.out.mono ?_; rintro e w1 ⟨rfl, hw1⟩; obtain rfl : w = w1 := hw1.symm)
          go_round
          case rel => exact ⟨j + 1, by omega, by go_num⟩
          case measure => simp [intOf]; omega
        · have hgt : ¬ 256 - P ≤ b := fun h => hjk (hs.1 h)
          have d2 : decide ((256 : Int) - (P : Int) ≤ (b : Int)) = false := by simp; omega
          clear hs
          obtain rfl : k = j := by omega
          clear hgt hjk hj
          by_cases hle : m ≤ k
          · rw [if_pos (by rw [Hl.out]; exact hle)] at hI
            have d3 : decide ((m : Int) < (k : Int) + 1) = true := by simp; omega
            go_wp2_with (go_at_call 208; refine Hp.out.mono ?_; rintro e w1 ⟨rfl, hw1⟩; obtain rfl : w = w1 := hw1.symm)
            go_ret3
            exact RetIntB.err hI.out (Below.refl _ _)
          · rw [if_neg (by rw [Hl.out]; exact hle)] at hI
            have d3 : decide ((m : Int) < (k : Int) + 1) = false := by simp; omega
            have hq := power_any (8 - k) w (by omega)
            rw [show ((8 - k : Nat) : Int) = 8 - (k : Int) by omega] at hq
            have Hq := Lib.hid hq; clear hq
            have heq := Heq.out
            obtain ⟨R, hR⟩ : ∃ R, R = pw (8 - k) := ⟨_, rfl⟩
            rw [← hR] at Hq heq
            clear hR
            obtain ⟨heq1, heq2⟩ := heq
            have hv : Hid ((b : Int) - (256 - (R : Int)) = (hd : Int)) := by show _ = _; omega
            have hv1 : 0 ≤ (b : Int) - (256 - (R : Int)) := by have := hv.out; omega
            clear heq1
            go_wp2_with fail
            refine Hp.out.mono ?_
            rintro e w1 ⟨rfl, hw1⟩
            obtain rfl : w = w1 := hw1.symm
            go_wp2_with fail
            refine Hq.out.mono ?_
            rintro e w1 ⟨rfl, hw1⟩
            obtain rfl : w = w1 := hw1.symm
            clear Hp Hq d2
            go_wp2_with fail
            go_loop [7, 8] (fun nn i => ∃ j : Nat, j ≤ k ∧ i = .int .i64 ((j : Int) + 1) ∧ nn = .int .i64 ((numTo src hd j : Nat) : Int)) (fun _ i => k + 1 - (intOf i).toNat)
            case atStart => exact ⟨0, Nat.zero_le _, rfl, by rw [hv.out]; rfl⟩
            case round =>
              obtain ⟨j, hj, rfl, rfl⟩ := hrel
              by_cases hjk : j < k
              · have dj : decide ((j : Int) + 1 ≤ (k : Int)) = true := by simp; omega
                have hsm := numTo_smaller (src := src) (j := j) hhd hk7 hjk
                have hnx : Hid (numTo src hd (j + 1) = 256 * numTo src hd j + (src.getD (j + 1) 0).toNat) := rfl
                have c5 := hx.cell (k := j + 1) (by omega)
                have hgb2 : gb src (j + 1) = ((src.getD (j + 1) 0).toNat : Int) := rfl
                rw [hgb2] at c5
                clear hgb2
                have hy256 := (src.getD (j + 1) 0).toNat_lt
                obtain ⟨y, hyd⟩ : ∃ y, y = (src.getD (j + 1) 0).toNat := ⟨_, rfl⟩
                rw [← hyd] at c5 hy256 hnx
                clear hyd
                obtain ⟨N, hN⟩ : ∃ N, N = numTo src hd j := ⟨_, rfl⟩
                rw [← hN] at hsm hnx ⊢
                clear hN
                have b5 : (j : Int) + 1 < (m : Int) := by omega
                go_wp2_with fail
                go_round
                case rel => exact ⟨j + 1, by omega, by go_num, by rw [hnx.out]; go_num⟩
                case measure => simp [intOf]; omega
              · have dj : decide ((j : Int) + 1 ≤ (k : Int)) = false := by simp; omega
                obtain rfl : k = j := by omega
                have hsm := numTo_small (src := src) (j := k) hhd hk7 (Nat.le_refl _)
                obtain ⟨N, hN⟩ : ∃ N, N = numTo src hd k := ⟨_, rfl⟩
                rw [← hN] at hsm hI ⊢
                clear hN
                by_cases hbig : 9007199254740991 < N
                · rw [if_pos (.inl hbig)] at hI
                  have d4 : decide ((9007199254740991 : Int) < (N : Int)) = true := by simp; omega
                  go_wp2_with fail
                  go_ret3
                  exact RetIntB.err hI.out (Below.refl _ _)
                · have d4 : decide ((9007199254740991 : Int) < (N : Int)) = false := by simp; omega
                  have hfu := Lib.hid (sizeR_any N w (by omega))
                  by_cases hne : furL N = k
                  · rw [if_neg (by omega)] at hI
                    have d5 : (((furL N : Nat) : Int) + 1 != (k : Int) + 1) = false := by rw [hne]; simp
                    obtain ⟨A6, r6, v6⟩ := hx.cut_l tB eB sB ((k : Int) + 1) (by omega) (by omega)
                    rw [show ((k : Int) + 1).toNat = k + 1 by omega] at r6 v6
                    have hcl := Lib.hid (restR_any A6 _ _ _ w v6 (by omega))
                    clear hne
                    go_wp2_with fail
                    refine hfu.out.mono ?_
                    rintro e w1 ⟨rfl, hw1⟩
                    obtain rfl : w = w1 := hw1.symm
                    go_wp2_with fail
                    refine hcl.out.mono ?_
                    rintro e w2 ⟨A2, n2, c2, rfl, ho2, hb2⟩
                    go_wp2_with fail
                    go_ret3
                    rw [hI.out]
                    exact ⟨A2, n2, c2, rfl, ho2, hb2⟩
                  · rw [if_pos (.inr hne)] at hI
                    have d5 : (((furL N : Nat) : Int) + 1 != (k : Int) + 1) = true := by simp; omega
                    clear hne
                    go_wp2_with fail
                    refine hfu.out.mono ?_
                    rintro e w1 ⟨rfl, hw1⟩
                    obtain rfl : w = w1 := hw1.symm
                    go_wp2_with fail
                    go_ret3
                    exact RetIntB.err hI.out (Below.refl _ _)
end Go.Proofs.YtckkmafppfcecaaGreatDoor.Bwt
/- wire.PutInt of the program and of the reference: numbers from 128 to 255 (two bytes). -/
namespace Go.Proofs.YtckkmafppfcecaaGreatDoor.Bwt
open Go.RowKit Go.Proofs Go.Sort
set_option linter.unusedVariables false

theorem furL_two : ∀ n : Fin 256, 128 ≤ n.val → furL n.val = 1 := by decide +kernel
theorem or_128 : bits BinOp.or IntKind.u8 128 0 = 128 := by decide +kernel
set_option maxHeartbeats 1000000 in
theorem put_two (B : Nat) (A : Option Addr) (m c : Nat) (xs : List UInt8) (n : Nat) (w : World) (hown : Own encB w B 5 A m c xs) (hB : B ≤ w.heap.size) (hm : m ≤ 1000000) (h1 : 128 ≤ n) (h2 : n ≤ 255) :
    Calls Tryz.prog 186 #[.slice A m c, .int .i64 (n : Int)] w (RetOwn B w (xs ++ [128, UInt8.ofNat n])) := by
  have g1 := Lib.hid (number_any n w (by omega))
  have g2 := further_any n w (by omega)
  rw [furL_two ⟨n, by omega⟩ h1] at g2
  have G2 := Lib.hid g2; clear g2
  have hor := or_128
  have hdiv : (n : Int) / 256 = 0 := by omega
  have hdiv1 : (n : Int) / 1 = n := by omega
  have hv0 : Hid (encB 128 = .int .u8 128) := rfl
  have hv : Hid (encB (UInt8.ofNat n) = .int .u8 (n : Int)) := by show _ = _; unfold encB; rw [UInt8.toNat_ofNat', Nat.mod_eq_of_lt (by omega)]
  have m1 : Hid (m + 1 ≤ maxLen ∧ (m + 1) * 1 ≤ 140737488355328) := ⟨by simp [maxLen]; omega, by omega⟩
  have m2 : Hid (m + 1 + 1 ≤ maxLen ∧ (m + 1 + 1) * 1 ≤ 140737488355328) := ⟨by simp [maxLen]; omega, by omega⟩
  go_enter Tryz.func186, Tryz.ntmps186
  go_wp2_with (first
    | (go_at_call 257; refine g1.out.mono ?_; rintro e w1 ⟨rfl, hw1⟩; obtain rfl : w = w1 := hw1.symm)
    | (go_at_call 190; refine G2.out.mono ?_; rintro e w1 ⟨rfl, hw1⟩; obtain rfl : w = w1 := hw1.symm)
    | (at_builtin; refine wpList_pushv (enc := encB) rfl (.tmp 15) (.tmp 23) rfl uB infoB encB_one rfl rfl hown hB 128 _ hv0.out rfl m1.out.1 m1.out.2 ?_; intro A6 c6 W6 ho6 hb6; have hB6 := Nat.le_trans hB hb6.size))
  refine wp_loop_rounds 2 ?_
  rw [rounds_succ]
  go_wp2_with (at_builtin; refine wpList_pushv (enc := encB) rfl (.tmp 31) (.tmp 37) rfl uB infoB encB_one rfl rfl ho6 hB6 (UInt8.ofNat n) _ hv.out rfl m2.out.1 m2.out.2 ?_; intro A7 c7 W7 ho7 hb7)
  rw [rounds_succ]
  go_wp2_with fail
  go_ret
  rw [List.append_assoc] at ho7
  exact RetOwn.mk ho7 (hb6.trans hb7)
/-- the bytes of a number below 256. -/
def putL (n : Nat) : List UInt8 := if n ≤ 127 then [UInt8.ofNat n] else [128, UInt8.ofNat n]
theorem put_255 (B : Nat) (A : Option Addr) (m c : Nat) (xs : List UInt8) (n : Nat) (w : World) (hown : Own encB w B 5 A m c xs) (hB : B ≤ w.heap.size) (hm : m ≤ 1000000) (h2 : n ≤ 255) :
    Calls Tryz.prog 186 #[.slice A m c, .int .i64 (n : Int)] w (RetOwn B w (xs ++ putL n)) := by
  unfold putL
  by_cases h : n ≤ 127
  · rw [if_pos h]; exact put_small B A m c xs n w hown hB hm h
  · rw [if_neg h]; exact put_two B A m c xs n w hown hB hm (by omega) h2
set_option maxHeartbeats 1000000 in
theorem putInt_255 (A : Option Addr) (m c : Nat) (xs : List UInt8) (n : Nat) (w : World) (hx : Bytes w A m c xs) (hm : m ≤ 900000) (hn : n ≤ 255) :
    Calls Tryz.prog 116 #[.slice A m c, .int .i64 (n : Int)] w (RetOwn w.heap.size w (xs ++ putL n)) := by
  have hcal := Lib.hid (clone_any A m c xs w hx (by omega))
  have Hm := Lib.hid hx.1
  go_enter Tryz.func116, Tryz.ntmps116
  go_wp2_with fail
  refine hcal.out.mono ?_
  rintro e w1 ⟨A1, n1, c1, rfl, ho1, hb1⟩
  have hn1 : n1 ≤ 900000 := by rw [← ho1.length, Hm.out]; exact hm
  have hcal2 := Lib.hid (put_255 w.heap.size A1 n1 c1 xs n w1 ho1 hb1.size (by omega) hn)
  go_wp2_with fail
  refine hcal2.out.mono ?_
  rintro e w2 ⟨A2, n2, c2, rfl, ho2, hb2⟩
  go_wp2_with fail
  go_ret
  exact RetOwn.mk ho2 (hb1.trans hb2)

set_option maxHeartbeats 1000000 in
theorem putIntR_two (A : Option Addr) (m c : Nat) (xs : List UInt8) (n : Nat) (w : World) (hx : Bytes w A m c xs) (hm : m ≤ 900000) (h1 : 128 ≤ n) (h2 : n ≤ 255) :
    Calls Tryz.prog 144 #[.slice A m c, .int .i64 (n : Int)] w (RetOwn w.heap.size w (xs ++ [128, UInt8.ofNat n])) := by
  have g1 := Lib.hid (numberR_any n w (by omega))
  have g2 := sizeR_any n w (by omega)
  rw [furL_two ⟨n, by omega⟩ h1] at g2
  have G2 := Lib.hid g2; clear g2
  have Hx := Lib.hid hx.1
  have m1 : Hid (0 + m ≤ maxLen ∧ (0 + m) * 1 ≤ 140737488355328) := ⟨by simp [maxLen]; omega, by omega⟩
  have m2 : Hid (m + 1 ≤ maxLen ∧ (m + 1) * 1 ≤ 140737488355328) := ⟨by simp [maxLen]; omega, by omega⟩
  have m3 : Hid (m + 1 + 1 ≤ maxLen ∧ (m + 1 + 1) * 1 ≤ 140737488355328) := ⟨by simp [maxLen]; omega, by omega⟩
  have hdiv : (n : Int).tdiv 256 = 0 := by rw [Int.tdiv_eq_ediv_of_nonneg (by omega)]; omega
  have hdiv1 : (n : Int).tdiv 1 = n := by rw [Int.tdiv_one]
  have hmod : (n : Int).tmod 256 = n := by rw [Int.tmod_eq_emod_of_nonneg (by omega)]; omega
  have hv0 : Hid (encB 128 = .int .u8 128) := rfl
  have hv : Hid (encB (UInt8.ofNat n) = .int .u8 (n : Int)) := by show _ = _; unfold encB; rw [UInt8.toNat_ofNat', Nat.mod_eq_of_lt (by omega)]
  go_enter Tryz.func144, Tryz.ntmps144
  go_wp2_with (first
    | (go_at_call 218; refine g1.out.mono ?_; rintro e w1 ⟨rfl, hw1⟩; obtain rfl : w = w1 := hw1.symm)
    | (go_at_call 209; refine G2.out.mono ?_; rintro e w1 ⟨rfl, hw1⟩; obtain rfl : w = w1 := hw1.symm)
    | (at_builtin; refine wpList_app (enc := encB) rfl (.tmp 13) (.tmp 14) rfl uB infoB encB_one rfl rfl (Own.nil encB w w.heap.size _) (Nat.le_refl _) A m c xs 0 Hx.out hx.2.2 rfl m1.out.1 m1.out.2 ?_; intro A6 c6 W6 ho6 hb6 hg6))
  rw [List.nil_append, Nat.zero_add] at ho6
  have H7 := power_any 7 W6 (by omega)
  have H8 := power_any 8 W6 (by omega)
  rw [show pw 8 = 256 from rfl] at H8
  rw [show pw 7 = 128 from rfl] at H7
  have G8 := Lib.hid H8; clear H8
  have G7 := Lib.hid H7; clear H7
  have hsz6 := Lib.hid hb6.size
  refine G7.out.mono ?_
  rintro e w1 ⟨rfl, hw1⟩
  obtain rfl : W6 = w1 := hw1.symm
  go_wp2_with fail
  refine G8.out.mono ?_
  rintro e w1 ⟨rfl, hw1⟩
  obtain rfl : W6 = w1 := hw1.symm
  go_wp2_with (at_builtin; refine wpList_pushv (enc := encB) rfl (.tmp 16) (.tmp 28) rfl uB infoB encB_one rfl rfl ho6 hsz6.out 128 _ hv0.out rfl m2.out.1 m2.out.2 ?_; intro A7 c7 W7 ho7 hb7; have hB7 := Nat.le_trans hsz6.out hb7.size)
  refine wp_loop_rounds 2 ?_
  rw [rounds_succ]
  have H0 := power_any 0 W7 (by omega)
  rw [show pw 0 = 1 from rfl] at H0
  have G0 := Lib.hid H0; clear H0
  go_wp2_with fail
  refine G0.out.mono ?_
  rintro e w1 ⟨rfl, hw1⟩
  obtain rfl : W7 = w1 := hw1.symm
  go_wp2_with (at_builtin; refine wpList_pushv (enc := encB) rfl (.tmp 36) (.tmp 44) rfl uB infoB encB_one rfl rfl ho7 hB7 (UInt8.ofNat n) _ hv.out rfl m3.out.1 m3.out.2 ?_; intro A8 c8 W8 ho8 hb8)
  rw [rounds_succ]
  go_wp2_with fail
  go_ret
  rw [List.append_assoc] at ho8
  exact RetOwn.mk ho8 ((hb6.trans hb7).trans hb8)
theorem putIntR_255 (A : Option Addr) (m c : Nat) (xs : List UInt8) (n : Nat) (w : World) (hx : Bytes w A m c xs) (hm : m ≤ 900000) (hn : n ≤ 255) :
    Calls Tryz.prog 144 #[.slice A m c, .int .i64 (n : Int)] w (RetOwn w.heap.size w (xs ++ putL n)) := by
  unfold putL
  by_cases h : n ≤ 127
  · rw [if_pos h]; exact putIntR_small A m c xs n w hx hm h
  · rw [if_neg h]; exact putIntR_two A m c xs n w hx hm (by omega) hn
end Go.Proofs.YtckkmafppfcecaaGreatDoor.Bwt

/- The reference's wire: power, number, Size, PutInt, PutText (small numbers); Forward of the reference. -/
import Derived.Test.YtdebhdopginllaaDv
import Derived.Lib.ItoaNum
namespace Go.Proofs.Ytdebhdopginllaa
open Go.RowKit Go.Proofs Go.Sort
set_option linter.unusedVariables false

/-- 2 to the power of k. -/
def pw (k : Nat) : Nat := 2 ^ k
theorem pw_succ (k : Nat) : pw (k + 1) = 2 * pw k := by unfold pw; rw [Nat.pow_succ]; omega
theorem pw_mono {a b : Nat} (h : a ≤ b) : pw a ≤ pw b := Nat.pow_le_pow_right (by omega) h
theorem pw_pos (k : Nat) : 1 ≤ pw k := Nat.one_le_two_pow
set_option maxHeartbeats 400000 in
theorem power_any (n : Nat) (w : World) (hn : n ≤ 62) : Calls Try.prog 71 #[.int .i64 (n : Int)] w fun e w' => e = .returned (.int .i64 ((pw n : Nat) : Int)) ∧ w' = w := by
  go_enter Try.func71, Try.ntmps71
  go_wp2
  go_loop [3, 4] (fun p i => ∃ k : Nat, k ≤ n ∧ i = .int .i64 (k : Int) ∧ p = .int .i64 ((pw k : Nat) : Int)) (fun _ i => n - (intOf i).toNat)
  case atStart => exact ⟨0, Nat.zero_le _, rfl, rfl⟩
  case round =>
    obtain ⟨k, hk, rfl, rfl⟩ := hrel
    by_cases hlt : k < n
    · have hb : pw k ≤ 2305843009213693952 := Nat.le_trans (pw_mono (b := 61) (by omega)) (by decide)
      have hs := Lib.hid (pw_succ k)
      obtain ⟨p, hp⟩ : ∃ p, p = pw k := ⟨_, rfl⟩
      rw [← hp] at hb hs
      rw [← hp]
      clear hp
      have dk : decide ((k : Int) < (n : Int)) = true := by simp; omega
      have dk' : decide (k < n) = true := by simp; omega
      go_wp2
      go_round
      case rel => exact ⟨k + 1, by omega, by go_num, by rw [hs.out]; go_num⟩
      case measure => simp [intOf]; omega
    · have dk : decide ((k : Int) < (n : Int)) = false := by simp; omega
      have dk' : decide (k < n) = false := by simp; omega
      obtain rfl : n = k := by omega
      go_wp2
      go_ret
      exact ⟨rfl, rfl⟩

theorem numberR_any (n : Nat) (w : World) (hn : n ≤ 9007199254740991) : Calls Try.prog 69 #[.int .i64 (n : Int)] w fun e w' => e = .returned (.int .i64 (n : Int)) ∧ w' = w := by
  have d1 : decide ((n : Int) < 0) = false := by simp
  have d2 : decide ((9007199254740991 : Int) < (n : Int)) = false := by simp; omega
  go_enter Try.func69, Try.ntmps69
  go_wp2
  go_ret
  exact ⟨rfl, rfl⟩

theorem bitLen_bounds {n : Nat} (h : n < 18446744073709551616) (h0 : n ≠ 0) : 1 ≤ Lib.bitLen n ∧ 2 ^ (Lib.bitLen n - 1) ≤ n ∧ n < 2 ^ Lib.bitLen n := Lib.bitLenAux_bounds 64 n (by omega) h0
theorem furL_lt {n k : Nat} (hn : n < 72057594037927936) : pw (7 * (k + 1)) ≤ n ↔ k < furL n := by
  unfold furL pw
  rcases Nat.eq_zero_or_pos n with h | h
  · subst h
    have : Lib.bitLen 0 = 0 := by decide
    rw [this]
    have := Nat.one_le_two_pow (n := 7 * (k + 1))
    simp
  · obtain ⟨h1, h2, h3⟩ := bitLen_bounds (n := n) (by omega) (by omega)
    constructor
    · intro h4
      have h5 : 2 ^ (7 * (k + 1)) < 2 ^ Lib.bitLen n := Nat.lt_of_le_of_lt h4 h3
      have := (Nat.pow_lt_pow_iff_right (by omega : 1 < 2)).1 h5
      omega
    · intro h4
      exact Nat.le_trans (Nat.pow_le_pow_right (by omega) (by omega)) h2
theorem furL_le {n : Nat} (hn : n < 72057594037927936) : furL n ≤ 7 := by
  have : Lib.bitLen n ≤ 56 := Lib.bitLen_le n 56 (by omega) (by omega)
  unfold furL; omega

set_option maxHeartbeats 400000 in
theorem sizeR_any (n : Nat) (w : World) (hn : n ≤ 9007199254740991) : Calls Try.prog 70 #[.int .i64 (n : Int)] w fun e w' => e = .returned (.int .i64 ((furL n : Nat) + 1 : Int)) ∧ w' = w := by
  have h1 := Lib.hid (numberR_any n w hn)
  have hle := furL_le (n := n) (by omega)
  have hlt := Lib.hid (fun k => furL_lt (n := n) (k := k) (by omega))
  obtain ⟨fu, hfu⟩ : ∃ fu, fu = furL n := ⟨_, rfl⟩
  rw [← hfu] at hle hlt
  rw [← hfu]
  clear hfu
  go_enter Try.func70, Try.ntmps70
  go_wp2
  go_loop [3] (fun i => ∃ k : Nat, k ≤ fu ∧ i = .int .i64 (k : Int)) (fun i => fu - (intOf i).toNat)
  case atStart => exact ⟨0, Nat.zero_le _, rfl⟩
  case round =>
    obtain ⟨k, hk, rfl⟩ := hrel
    have h2 := power_any (7 * (k + 1)) w (by omega)
    rw [show ((7 * (k + 1) : Nat) : Int) = 7 * ((k : Int) + 1) by omega] at h2
    have H2 := Lib.hid h2; clear h2
    have hiff := hlt.out k
    obtain ⟨p, hp⟩ : ∃ p, p = pw (7 * (k + 1)) := ⟨_, rfl⟩
    rw [← hp] at H2 hiff
    clear hp
    by_cases hkf : k < fu
    · have hpn : p ≤ n := hiff.2 hkf
      have d1 : decide ((p : Int) ≤ (n : Int)) = true := by simp; omega
      have d1' : decide (p ≤ n) = true := by simp; omega
      clear hiff
      go_wp2_with (first
        | (go_at_call 69; refine h1.out.mono ?_; rintro e w1 ⟨rfl, hw1⟩; obtain rfl : w = w1 := hw1.symm)
        | (go_at_call 71; refine H2.out.mono ?_; rintro e w1 ⟨rfl, hw1⟩; obtain rfl : w = w1 := hw1.symm))
      go_round
      case rel => exact ⟨k + 1, by omega, by go_num⟩
      case measure => simp [intOf]; omega
    · have hpn : ¬ p ≤ n := fun h => hkf (hiff.1 h)
      have d1 : decide ((p : Int) ≤ (n : Int)) = false := by simp; omega
      have d1' : decide (p ≤ n) = false := by simp; omega
      clear hiff
      go_wp2_with (first
        | (go_at_call 69; refine h1.out.mono ?_; rintro e w1 ⟨rfl, hw1⟩; obtain rfl : w = w1 := hw1.symm)
        | (go_at_call 71; refine H2.out.mono ?_; rintro e w1 ⟨rfl, hw1⟩; obtain rfl : w = w1 := hw1.symm))
      go_ret
      exact ⟨ret_int (by omega), rfl⟩

set_option maxHeartbeats 1000000 in
theorem restR_any (A : Option Addr) (m c : Nat) (xs : List UInt8) (w : World) (hx : Bytes w A m c xs) (hm : m ≤ 1000000) :
    Calls Try.prog 75 #[.slice A m c] w (RetOwn w.heap.size w xs) := by
  have m1 : Hid (0 + m ≤ maxLen ∧ (0 + m) * 1 ≤ 140737488355328) := ⟨by simp [maxLen]; omega, by omega⟩
  have Hx := Lib.hid hx.1
  go_enter Try.func75, Try.ntmps75
  go_wp2_with (at_builtin; refine wpList_app (enc := encB) rfl (.tmp 4) (.tmp 5) rfl uB infoB encB_one rfl rfl (Own.nil encB w w.heap.size _) (Nat.le_refl _) A m c xs 0 Hx.out hx.2.2 rfl m1.out.1 m1.out.2 ?_; intro A6 c6 W6 ho6 hb6 hg6)
  go_ret
  rw [List.nil_append, Nat.zero_add] at ho6
  exact RetOwn.mk ho6 hb6

set_option maxHeartbeats 1000000 in
theorem putIntR_small (A : Option Addr) (m c : Nat) (xs : List UInt8) (n : Nat) (w : World) (hx : Bytes w A m c xs) (hm : m ≤ 900000) (hn : n ≤ 127) :
    Calls Try.prog 47 #[.slice A m c, .int .i64 (n : Int)] w (RetOwn w.heap.size w (xs ++ [UInt8.ofNat n])) := by
  have h1 := Lib.hid (numberR_any n w (by omega))
  have h2 := sizeR_any n w (by omega)
  rw [furL_small hn] at h2
  have H2 := Lib.hid h2; clear h2
  have Hx := Lib.hid hx.1
  have m1 : Hid (0 + m ≤ maxLen ∧ (0 + m) * 1 ≤ 140737488355328) := ⟨by simp [maxLen]; omega, by omega⟩
  have m2 : Hid (m + 1 ≤ maxLen ∧ (m + 1) * 1 ≤ 140737488355328) := ⟨by simp [maxLen]; omega, by omega⟩
  have hv : Hid (encB (UInt8.ofNat n) = .int .u8 (n : Int)) := by show _ = _; unfold encB; rw [UInt8.toNat_ofNat', Nat.mod_eq_of_lt (by omega)]
  go_enter Try.func47, Try.ntmps47
  go_wp2_with (first
    | (go_at_call 69; refine h1.out.mono ?_; rintro e w1 ⟨rfl, hw1⟩; obtain rfl : w = w1 := hw1.symm)
    | (go_at_call 70; refine H2.out.mono ?_; rintro e w1 ⟨rfl, hw1⟩; obtain rfl : w = w1 := hw1.symm)
    | (at_builtin; refine wpList_app (enc := encB) rfl (.tmp 13) (.tmp 14) rfl uB infoB encB_one rfl rfl (Own.nil encB w w.heap.size _) (Nat.le_refl _) A m c xs 0 Hx.out hx.2.2 rfl m1.out.1 m1.out.2 ?_; intro A6 c6 W6 ho6 hb6 hg6))
  rw [List.nil_append, Nat.zero_add] at ho6
  have H8 := power_any 8 W6 (by omega)
  have H0 := power_any 0 W6 (by omega)
  rw [show pw 8 = 256 from rfl] at H8
  rw [show pw 0 = 1 from rfl] at H0
  have G8 := Lib.hid H8; clear H8
  have G0 := Lib.hid H0; clear H0
  have hsz6 := Lib.hid hb6.size
  refine G8.out.mono ?_
  rintro e w1 ⟨rfl, hw1⟩
  obtain rfl : W6 = w1 := hw1.symm
  go_wp2_with fail
  refine G0.out.mono ?_
  rintro e w1 ⟨rfl, hw1⟩
  obtain rfl : W6 = w1 := hw1.symm
  go_wp2_with (at_builtin; refine wpList_pushv (enc := encB) rfl (.tmp 16) (.tmp 28) rfl uB infoB encB_one rfl rfl ho6 hsz6.out (UInt8.ofNat n) _ hv.out rfl m2.out.1 m2.out.2 ?_; intro A7 c7 W7 ho7 hb7)
  refine wp_loop_rounds 1 ?_
  rw [rounds_succ]
  go_wp2_with fail
  go_ret
  exact RetOwn.mk ho7 (hb6.trans hb7)

set_option maxHeartbeats 1000000 in
theorem putTextR_small (A : Option Addr) (m c : Nat) (xs ys : List UInt8) (w : World) (hx : Bytes w A m c xs) (hm : m ≤ 800000) (hn : ys.length ≤ 127) :
    Calls Try.prog 48 #[.slice A m c, .string (strB ys)] w (RetOwn w.heap.size w (xs ++ (UInt8.ofNat ys.length :: ys))) := by
  have hz := Lib.hid (strB_size ys)
  have h1 := putIntR_small A m c xs ys.length w hx (by omega) hn
  rw [← hz.out] at h1
  have H1 := Lib.hid h1; clear h1
  have Hm := Lib.hid hx.1
  go_enter Try.func48, Try.ntmps48
  go_wp2_with fail
  refine H1.out.mono ?_
  rintro e w1 ⟨A1, n1, c1, rfl, ho1, hb1⟩
  have hn1 : n1 ≤ 800001 := by rw [← ho1.length, List.length_append, Hm.out]; simp; omega
  have m1 : Hid (n1 + ys.length ≤ maxLen ∧ n1 + ys.length ≤ 140737488355328) := ⟨by simp [maxLen]; omega, by omega⟩
  have hB := Lib.hid hb1.size
  go_wp2_with (at_builtin; refine wpList_apps rfl (.tmp 8) (.tmp 9) rfl uB uS infoB rfl ho1 hB.out ys rfl m1.out.1 m1.out.2 ?_; intro A7 c7 W7 ho7 hb7)
  go_ret
  rw [hz.out] at ho7
  exact RetOwn.mk (by simpa using ho7) (hb1.trans hb7)

set_option maxRecDepth 100000 in
set_option maxHeartbeats 2000000 in
theorem forwardR_any (A : Option Addr) (c m : Nat) (bs : List UInt8) (w : World) (hy : Bytes w A m c bs) (hm : m ≤ 2000) :
    Calls Try.prog 21 #[.slice A m c] w (RetBytes w (forwardL bs) 0) := by
  have Hl := Lib.hid hy.1
  have hcal := learnR_any A c m bs 64 w hy hm (by omega)
  have hck := learn_check bs (most := 64) (by omega)
  obtain ⟨hwl, hww, hwn⟩ := checkL_zero.1 hck
  have hlr : learnR bs 64 = (learnL bs 64, 0) := by unfold learnR; rw [if_neg (by omega)]; rfl
  rw [hlr] at hcal
  have Hcal := Lib.hid hcal; clear hcal hlr
  have hF : Hid (forwardL bs = UInt8.ofNat (learnL bs 64).length :: textsL (learnL bs 64) ++ codeL (learnL bs 64) bs) := rfl
  obtain ⟨ws, hws⟩ : ∃ ws, ws = learnL bs 64 := ⟨_, rfl⟩
  rw [← hws] at Hcal hF hck hwl hww
  clear hws hwn
  have Hck := Lib.hid hck; clear hck
  have Hww := Lib.hid hww; clear hww
  go_enter Try.func21, Try.ntmps21
  go_wp2_with fail
  refine Hcal.out.mono ?_
  rintro e w1 ⟨A1, n1, c1, rfl, hs1, hb1⟩
  have Hn1 := Lib.hid hs1.1
  rw [Hn1.out] at hwl
  have hcc := codeR_any A1 A c1 c n1 m ws bs w1 hs1 (hy.below hb1) (by omega) (fun s hs => by have := word_le (Hww.out s hs); omega) hm
  have hcr : codeR ws bs = (codeL ws bs, 0) := by unfold codeR; rw [if_pos Hck.out]
  rw [hcr] at hcc
  have Hcc := Lib.hid hcc; clear hcc hcr Hcal
  go_wp2_with fail
  refine Hcc.out.mono ?_
  rintro e w2 ⟨A2, n2, c2, rfl, hx2, hb2⟩
  have hs2 := hs1.below hb2
  have hn2 : n2 ≤ 4000 := by rw [← hx2.1]; have := codeL_len ws bs; rw [Hl.out] at this; omega
  have hpi := Lib.hid (putIntR_small none 0 0 [] n1 w2 (Bytes.nil w2 0) (by omega) (by omega))
  clear Hcc hs1
  go_wp2_with fail
  refine hpi.out.mono ?_
  rintro e w3 ⟨A3, n3, c3, rfl, ho3, hb3⟩
  rw [List.nil_append] at ho3
  have hn3 : n3 ≤ 1 := by rw [← ho3.length]; simp
  clear hpi
  have hb13 : Below w2.heap.size w2 w3 := hb3
  go_wp2_with fail
  go_loopw [7, 8] (fun o i wr => ∃ (k : Nat) (A4 : Option Addr) (n4 c4 : Nat) (B4 : Nat), k ≤ n1 ∧ i = .int .i64 (k : Int) ∧ o = .slice A4 n4 c4 ∧ n4 ≤ 1 + 33 * k ∧ w2.heap.size ≤ B4 ∧ B4 ≤ wr.heap.size ∧ Own encB wr B4 5 A4 n4 c4 (UInt8.ofNat n1 :: textsL (ws.take k)) ∧ Below w2.heap.size w2 wr) (fun _ i _ => n1 - (intOf i).toNat)
  case atStart => exact ⟨0, A3, n3, c3, w2.heap.size, Nat.zero_le _, rfl, rfl, by omega, Nat.le_refl _, hb3.size, ho3, hb3⟩
  case round =>
    obtain ⟨k, A4, n4, c4, B4, hk, rfl, rfl, hn4, hB4, hB4', ho4, hb4⟩ := hrel
    by_cases hlt : k < n1
    · have dk : decide ((k : Int) < (n1 : Int)) = true := by simp; omega
      have dk' : decide (k < n1) = true := by simp; omega
      have hkl : k < ws.length := by rw [Hn1.out]; exact hlt
      obtain ⟨b5, off5, rfl, hb5, hc5⟩ := (hs2.below hb4).get hlt
      have c5 := hc5 k hlt
      clear hc5
      have hwk : (gs ws k).length ≤ 32 := by rw [gs_get hkl]; exact word_le (Hww.out _ (List.getElem_mem hkl))
      have hnx : Hid (textsL (ws.take (k + 1)) = textsL (ws.take k) ++ (UInt8.ofNat (gs ws k).length :: gs ws k)) := by
        show _ = _
        rw [List.take_succ_eq_append_getElem hkl, textsL_append, ← gs_get hkl]
        simp [textsL]
      have hpt := Lib.hid (putTextR_small A4 n4 c4 _ (gs ws k) wr ho4.bytesB (by omega) (by omega))
      have hlen4 := Lib.hid ho4.length
      go_wp2_with fail
      refine hpt.out.mono ?_
      rintro e w6 ⟨A6, n6, c6, rfl, ho6, hb6⟩
      have hn6 : Hid (n6 ≤ n4 + 33) := by
        show _ ≤ _
        have h1 := ho6.length
        rw [List.length_append, hlen4.out] at h1
        simp at h1
        omega
      go_wp2_with fail
      go_roundw
      case rel => exact ⟨k + 1, A6, n6, c6, wr.heap.size, by omega, by go_num, rfl, by have := hn6.out; omega, hb4.size, hb6.size, by rw [hnx.out]; simpa using ho6, hb4.trans (hb6.mono hb4.size)⟩
      case measure => simp [intOf]; omega
    · have dk : decide ((k : Int) < (n1 : Int)) = false := by simp; omega
      have dk' : decide (k < n1) = false := by simp; omega
      have hnx : Hid (ws.take k = ws) := List.take_of_length_le (by rw [Hn1.out]; omega)
      have hx4 := hx2.below hb4
      have m1 : Hid (n4 + n2 ≤ maxLen ∧ (n4 + n2) * 1 ≤ 140737488355328) := ⟨by simp [maxLen]; omega, by omega⟩
      have d65 : decide ((65536 : Int) < ((n4 + n2 : Nat) : Int)) = false := by simp; omega
      have d65' : decide ((65536 : Int) < (n4 : Int) + (n2 : Int)) = false := by simp; omega
      have HxL := Lib.hid hx4.1
      have hB4h := Lib.hid hB4'
      go_wp2_with (at_builtin; refine wpList_app (enc := encB) rfl (.tmp 41) (.tmp 42) rfl uB infoB encB_one rfl rfl ho4 hB4h.out A2 n2 c2 (codeL ws bs) 0 HxL.out hx4.2.2 rfl m1.out.1 m1.out.2 ?_; intro A7 c7 W7 ho7 hb7 hg7)
      go_ret2
      rw [hF.out, ← Hn1.out] at *
      rw [hnx.out] at ho7
      rw [Hn1.out]
      rw [Hn1.out] at ho7
      refine RetBytes.mk rfl (Own.bytesB ho7) ?_
      exact hb1.trans ((hb2.trans ((hb4.mono hb2.size).trans (hb7.mono (Nat.le_trans hb2.size hB4)))).mono hb1.size)
end Go.Proofs.Ytdebhdopginllaa

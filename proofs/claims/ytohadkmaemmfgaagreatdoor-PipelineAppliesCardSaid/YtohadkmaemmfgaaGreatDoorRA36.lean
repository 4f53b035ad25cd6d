/- Bo Bq Cq Ct By Br Bs Bt Bz Cf Cs. -/
import Derived.Test.YtohadkmaemmfgaaGreatDoorRA17
import Derived.Test.YtohadkmaemmfgaaGreatDoorRA34
import Derived.Test.YtohadkmaemmfgaaGreatDoorRA35
set_option maxRecDepth 100000
set_option maxHeartbeats 4000000
namespace Go.Proofs.YtohadkmaemmfgaaGreatDoor.Bwt
open Go.RowKit Go.Proofs Go.Sort
set_option linter.unusedVariables false
theorem sort_long (A : Option Addr) (c n : Nat) (w : World) (h1 : 65536 < n) (h2 : n ≤ 1000000000) :
    Calls Tryz.prog 161 #[.slice A n c] w (RetInts w [] 5) := by
  have d1 : decide ((65536 : Int) < (n : Int)) = true := by simp; omega
  have d2 : decide (65536 < n) = true := by simp; omega
  go_enter Tryz.func161, Tryz.ntmps161
  go_wp2_with fail
  go_ret2
  exact RetInts.mk rfl (Ints.nil _ _) (Below.refl _ _)
theorem refSort_long (A : Option Addr) (c n : Nat) (w : World) (h1 : 65536 < n) (h2 : n ≤ 1000000000) :
    Calls Tryz.prog 191 #[.slice A n c] w (RetInts w [] 5) := by
  have d1 : decide ((65536 : Int) < (n : Int)) = true := by simp; omega
  have d2 : decide (65536 < n) = true := by simp; omega
  go_enter Tryz.func191, Tryz.ntmps191
  go_wp2_with fail
  go_ret2
  exact RetInts.mk rfl (Ints.nil _ _) (Below.refl _ _)
def fwdTo (bs : List UInt8) : Nat → List UInt8
  | 0 => []
  | k + 1 => fwdTo bs k ++ if 0 < gi (sortL bs) k then [bs.getD ((gi (sortL bs) k).toNat - 1) 0] else []
def fwdL (bs : List UInt8) : List UInt8 := fwdTo bs (bs.length + 1)
def primN (bs : List UInt8) : Nat := (sortL bs).idxOf 0
def primTo (bs : List UInt8) : Nat → Nat
  | 0 => 0
  | k + 1 => if gi (sortL bs) k = 0 then k else primTo bs k
theorem fwdTo_le (bs : List UInt8) : ∀ k, (fwdTo bs k).length ≤ k
  | 0 => by simp [fwdTo]
  | k + 1 => by rw [fwdTo, List.length_append]; have := fwdTo_le bs k; split <;> simp <;> omega
theorem zero_mem (bs : List UInt8) : (0 : Int) ∈ sortL bs := mem_sortL.2 ⟨by omega, by omega⟩
theorem primN_le (bs : List UInt8) : primN bs ≤ bs.length := by
  have := List.idxOf_lt_length_iff.2 (zero_mem bs)
  rw [sortL_length] at this
  unfold primN; omega
theorem gi_prim (bs : List UInt8) : gi (sortL bs) (primN bs) = 0 := by
  have h := List.idxOf_lt_length_iff.2 (zero_mem bs)
  rw [gi_get (k := primN bs) h]
  exact List.getElem_idxOf h
theorem sortL_nodup (bs : List UInt8) : (sortL bs).Nodup := ((permErr_zero_iff _).1 (sortL_perm bs)).2
theorem prim_only {bs : List UInt8} {k : Nat} (hk : k ≤ bs.length) (h : gi (sortL bs) k = 0) : k = primN bs := by
  have hl := sortL_length bs
  have h1 : k < (sortL bs).length := by omega
  rw [gi_get h1] at h
  have := (sortL_nodup bs).idxOf_getElem k h1
  rw [h] at this
  exact this.symm
theorem primTo_eq (bs : List UInt8) : ∀ k, k ≤ bs.length + 1 → primTo bs k = if primN bs < k then primN bs else 0
  | 0, _ => by simp [primTo]
  | k + 1, hk => by
    rw [primTo, primTo_eq bs k (by omega)]
    by_cases h : gi (sortL bs) k = 0
    · have := prim_only (by omega) h
      rw [if_pos h, if_pos (by omega)]; exact this
    · rw [if_neg h]
      have : k ≠ primN bs := fun e => h (by rw [e]; exact gi_prim bs)
      by_cases h2 : primN bs < k
      · rw [if_pos h2, if_pos (by omega)]
      · rw [if_neg h2, if_neg (by omega)]
theorem gi_sort (bs : List UInt8) {k : Nat} (hk : k ≤ bs.length) : 0 ≤ gi (sortL bs) k ∧ gi (sortL bs) k ≤ bs.length := mem_sortL.1 (gi_mem (by rw [sortL_length]; omega))
def fwdRes (bs : List UInt8) : List UInt8 × Nat × Nat := if 65536 < bs.length then ([], 0, 5) else (fwdL bs, primN bs, 0)
def RetFwd (w : World) (x : List UInt8 × Nat × Nat) (e : Ending) (w' : World) : Prop := ∃ A n c, e = .returned (.tuple #[.slice A n c, .int .i64 (x.2.1 : Int), .int .i64 (x.2.2 : Int)]) ∧ Bytes w' A n c x.1 ∧ Below w.heap.size w w'
theorem forward_any (A : Option Addr) (n c : Nat) (bs : List UInt8) (w : World) (hx : Bytes w A n c bs) (hn : n ≤ 1000000000) :
    Calls Tryz.prog 89 #[.slice A n c] w (RetFwd w (fwdRes bs)) := by
  have Hn := Lib.hid hx.1
  by_cases h1 : 65536 < n
  · have hR : Hid (fwdRes bs = ([], 0, 5)) := by show _ = _; unfold fwdRes; rw [Hn.out, if_pos h1]
    have Hcal := Lib.hid (sort_long A c n w h1 hn)
    go_enter Tryz.func89, Tryz.ntmps89
    go_wp2_with fail
    refine Hcal.out.mono ?_
    rintro e w1 ⟨A1, n1, c1, rfl, -, hb1⟩
    go_wp2_with fail
    go_ret3
    rw [hR.out]
    exact ⟨none, 0, 0, rfl, Bytes.nil _ _, hb1⟩
  · have hR : Hid (fwdRes bs = (fwdL bs, primN bs, 0)) := by show _ = _; unfold fwdRes; rw [Hn.out, if_neg h1]
    have hn6 : n ≤ 65536 := by omega
    have Hcal := Lib.hid (sort_any A c n bs w hx hn6)
    go_enter Tryz.func89, Tryz.ntmps89
    go_wp2_with fail
    refine Hcal.out.mono ?_
    rintro e w1 ⟨A1, n1, c1, rfl, hi1, hb1⟩
    have hn1 : n1 = n + 1 := by rw [← hi1.1, sortL_length, Hn.out]
    subst hn1
    obtain ⟨b, off, rfl, hbl, hcell⟩ := hi1.get (k := 0) (by omega)
    have hix := Tryz.slices_Index_int b off (n + 1) c1 (sortL bs) 0 w1 (by rw [sortL_length, Hn.out]; exact Nat.le_refl _) (by omega) (fun j hj => hcell j (by rw [sortL_length, Hn.out] at hj; exact hj))
    have hpe : Lib.idxOf ((sortL bs).take (n + 1)) 0 = (primN bs : Int) := Lib.idxOf_hit _ _ _ _ (by have := primN_le bs; rw [Hn.out] at this; omega) (by rw [sortL_length, Hn.out]; exact Nat.le_refl _) (gi_prim bs) (fun j hj h => by
      have := prim_only (bs := bs) (k := j) (by have := primN_le bs; omega) h
      omega)
    rw [hpe] at hix
    have Hix := Lib.hid hix; clear hix hpe Hcal hcell
    go_wp2_with fail
    refine Hix.out.mono ?_
    rintro e w2 ⟨rfl, hw2⟩
    obtain rfl : w1 = w2 := hw2.symm
    have hmk := run_make_cap (P := Tryz.prog) (enc := encB) uB infoB rfl n (by omega) (by omega)
    clear Hix
    go_wp2_with fail
    have ho0 := Own.made (enc := encB) w1 5 0 n (B := w1.heap.size) (Nat.le_refl _) (by simp [maxLen]; omega)
    have hb0 : Below w1.heap.size w1 (w1.alloc (rowObj encB 5 (List.replicate n 0))) := (Below.refl _ _).alloc (Nat.le_refl _) _
    clear hmk
    have hx1 := hx.below hb1
    go_loopw [8, 10, 26] (fun o _ i wr => ∃ (k : Nat) (A3 : Option Addr) (n3 c3 : Nat), k ≤ n + 1 ∧ i = .int .i64 (k : Int) ∧ o = .slice A3 n3 c3 ∧ n3 ≤ k ∧ Own encB wr w1.heap.size 5 A3 n3 c3 (fwdTo bs k) ∧ Below w1.heap.size w1 wr) (fun _ _ i _ => n + 1 - (intOf i).toNat)
    case atStart => exact ⟨0, _, _, _, Nat.zero_le _, rfl, rfl, Nat.le_refl _, ho0, hb0⟩
    case round =>
      clear ho0 hb0
      obtain ⟨k, A3, n3, c3, hk, rfl, rfl, hn3, ho3, hb3⟩ := hrel
      by_cases hlt : k < n + 1
      · have dk : decide ((k : Int) < (n : Int) + 1) = true := by simp; omega
        have dk' : decide (k < n + 1) = true := by simp; omega
        have c1 := (hi1.below hb3).cell hlt
        obtain ⟨g0, g1⟩ := gi_sort bs (k := k) (by rw [Hn.out]; omega)
        rw [Hn.out] at g1
        have hnx : Hid (fwdTo bs (k + 1) = fwdTo bs k ++ if 0 < gi (sortL bs) k then [bs.getD ((gi (sortL bs) k).toNat - 1) 0] else []) := rfl
        obtain ⟨z, hz⟩ : ∃ z, z = gi (sortL bs) k := ⟨_, rfl⟩
        rw [← hz] at c1 g0 g1 hnx
        clear hz
        obtain ⟨q, rfl⟩ : ∃ q : Nat, z = (q : Int) := ⟨z.toNat, by omega⟩
        rw [Int.toNat_natCast] at hnx
        by_cases hq : 0 < q
        · have dq : decide ((0 : Int) < (q : Int)) = true := by simp; omega
          have dq' : decide (0 < q) = true := by simp; omega
          obtain ⟨b5, off5, rfl, hb5, hc5⟩ := (hx1.below hb3).get (k := q - 1) (by omega)
          have c5 := hc5 (q - 1) (by omega)
          clear hc5
          have hq1 : (1 : Int) ≤ q := by omega
          rw [if_pos (by omega)] at hnx
          have hv : Hid (encB (bs.getD (q - 1) 0) = .int .u8 (gb bs (q - 1))) := rfl
          have m1 : Hid (n3 + 1 ≤ maxLen ∧ (n3 + 1) * 1 ≤ 140737488355328) := ⟨by simp [maxLen]; omega, by omega⟩
          have hB3 := hb3.size
          go_wp2_with (at_builtin; refine wpList_pushv (enc := encB) rfl (.tmp 32) (.tmp 38) rfl uB infoB encB_one rfl rfl ho3 hB3 (bs.getD (q - 1) 0) _ hv.out rfl m1.out.1 m1.out.2 ?_; intro A7 c7 W7 ho7 hb7)
          go_roundw
          case rel => exact ⟨k + 1, A7, n3 + 1, c7, by omega, by go_num, rfl, by omega, by rw [hnx.out]; exact ho7, hb3.trans hb7⟩
          case measure => simp [intOf]; omega
        · have dq : decide ((0 : Int) < (q : Int)) = false := by simp; omega
          have dq' : decide (0 < q) = false := by simp; omega
          rw [if_neg (by omega)] at hnx
          go_wp2_with fail
          go_roundw
          case rel => exact ⟨k + 1, A3, n3, c3, by omega, by go_num, rfl, by omega, by rw [hnx.out, List.append_nil]; exact ho3, hb3⟩
          case measure => simp [intOf]; omega
      · have dk : decide ((k : Int) < (n : Int) + 1) = false := by simp; omega
        have dk' : decide (k < n + 1) = false := by simp; omega
        have he : Hid (fwdTo bs k = fwdL bs) := by show _ = _; unfold fwdL; rw [Hn.out, show k = n + 1 by omega]
        go_wp2_with fail
        go_ret3
        rw [hR.out]
        rw [he.out] at ho3
        exact ⟨_, _, _, rfl, ho3.bytesBBwt, hb1.trans (hb3.mono hb1.size)⟩
theorem forwardR_any (A : Option Addr) (n c : Nat) (bs : List UInt8) (w : World) (hx : Bytes w A n c bs) (hn : n ≤ 1000000000) :
    Calls Tryz.prog 117 #[.slice A n c] w (RetFwd w (fwdRes bs)) := by
  have Hn := Lib.hid hx.1
  by_cases h1 : 65536 < n
  · have hR : Hid (fwdRes bs = ([], 0, 5)) := by show _ = _; unfold fwdRes; rw [Hn.out, if_pos h1]
    have Hcal := Lib.hid (refSort_long A c n w h1 hn)
    go_enter Tryz.func117, Tryz.ntmps117
    go_wp2_with fail
    refine Hcal.out.mono ?_
    rintro e w1 ⟨A1, n1, c1, rfl, -, hb1⟩
    go_wp2_with fail
    go_ret3
    rw [hR.out]
    exact ⟨none, 0, 0, rfl, Bytes.nil _ _, hb1⟩
  · have hR : Hid (fwdRes bs = (fwdL bs, primN bs, 0)) := by show _ = _; unfold fwdRes; rw [Hn.out, if_neg h1]
    have hn6 : n ≤ 65536 := by omega
    have Hcal := Lib.hid (refSort_any A c n bs w hx hn6)
    go_enter Tryz.func117, Tryz.ntmps117
    go_wp2_with fail
    refine Hcal.out.mono ?_
    rintro e w1 ⟨A1, n1, c1, rfl, hi1, hb1⟩
    have hn1 : n1 = n + 1 := by rw [← hi1.1, sortL_length, Hn.out]
    subst hn1
    obtain ⟨b, off, rfl, hbl, hcell⟩ := hi1.get (k := 0) (by omega)
    clear hcell Hcal
    have hx1 := hx.below hb1
    go_wp2_with fail
    go_loopw [7, 8, 9] (fun o p i wr => ∃ (k : Nat) (A3 : Option Addr) (n3 c3 : Nat), k ≤ n + 1 ∧ i = .int .i64 (k : Int) ∧ p = .int .i64 (primTo bs k : Int) ∧ o = .slice A3 n3 c3 ∧ n3 ≤ k ∧ Own encB wr w1.heap.size 5 A3 n3 c3 (fwdTo bs k) ∧ Below w1.heap.size w1 wr) (fun _ _ i _ => n + 1 - (intOf i).toNat)
    case atStart => exact ⟨0, _, _, _, Nat.zero_le _, rfl, rfl, rfl, Nat.le_refl _, Own.nil _ _ _ _, Below.refl _ _⟩
    case round =>
      obtain ⟨k, A3, n3, c3, hk, rfl, rfl, rfl, hn3, ho3, hb3⟩ := hrel
      by_cases hlt : k < n + 1
      · have dk : decide ((k : Int) < (n : Int) + 1) = true := by simp; omega
        have dk' : decide (k < n + 1) = true := by simp; omega
        have c1 := (hi1.below hb3).cell hlt
        obtain ⟨g0, g1⟩ := gi_sort bs (k := k) (by rw [Hn.out]; omega)
        rw [Hn.out] at g1
        have hnx : Hid (fwdTo bs (k + 1) = fwdTo bs k ++ if 0 < gi (sortL bs) k then [bs.getD ((gi (sortL bs) k).toNat - 1) 0] else []) := rfl
        have hpx : Hid (primTo bs (k + 1) = if gi (sortL bs) k = 0 then k else primTo bs k) := rfl
        obtain ⟨z, hz⟩ : ∃ z, z = gi (sortL bs) k := ⟨_, rfl⟩
        rw [← hz] at c1 g0 g1 hnx hpx
        clear hz
        obtain ⟨q, rfl⟩ : ∃ q : Nat, z = (q : Int) := ⟨z.toNat, by omega⟩
        rw [Int.toNat_natCast] at hnx
        by_cases hq : 0 < q
        · have dq : ((q : Int) == 0) = false := by simp; omega
          have dq' : (q == 0) = false := by simp; omega
          obtain ⟨b5, off5, rfl, hb5, hc5⟩ := (hx1.below hb3).get (k := q - 1) (by omega)
          have c5 := hc5 (q - 1) (by omega)
          clear hc5
          have hq1 : (1 : Int) ≤ q := by omega
          rw [if_pos (by omega)] at hnx
          rw [if_neg (by omega)] at hpx
          have hv : Hid (encB (bs.getD (q - 1) 0) = .int .u8 (gb bs (q - 1))) := rfl
          have m1 : Hid (n3 + 1 ≤ maxLen ∧ (n3 + 1) * 1 ≤ 140737488355328) := ⟨by simp [maxLen]; omega, by omega⟩
          have hB3 := hb3.size
          go_wp2_with (at_builtin; refine wpList_pushv (enc := encB) rfl (.tmp 30) (.tmp 39) rfl uB infoB encB_one rfl rfl ho3 hB3 (bs.getD (q - 1) 0) _ hv.out rfl m1.out.1 m1.out.2 ?_; intro A7 c7 W7 ho7 hb7)
          go_roundw
          case rel => exact ⟨k + 1, A7, n3 + 1, c7, by omega, by go_num, by rw [hpx.out], rfl, by omega, by rw [hnx.out]; exact ho7, hb3.trans hb7⟩
          case measure => simp [intOf]; omega
        · have hq0 : q = 0 := by omega
          subst hq0
          rw [if_neg (by omega)] at hnx
          rw [if_pos (by omega)] at hpx
          go_wp2_with fail
          go_roundw
          case rel => exact ⟨k + 1, A3, n3, c3, by omega, by go_num, by rw [hpx.out], rfl, by omega, by rw [hnx.out, List.append_nil]; exact ho3, hb3⟩
          case measure => simp [intOf]; omega
      · have dk : decide ((k : Int) < (n : Int) + 1) = false := by simp; omega
        have dk' : decide (k < n + 1) = false := by simp; omega
        have he : Hid (fwdTo bs k = fwdL bs ∧ primTo bs k = primN bs) := by
          show _ ∧ _
          obtain rfl : k = n + 1 := by omega
          refine ⟨by unfold fwdL; rw [Hn.out], ?_⟩
          rw [primTo_eq bs _ (by rw [Hn.out]; omega), if_pos (by have := primN_le bs; rw [Hn.out] at this; omega)]
        go_wp2_with fail
        go_ret3
        rw [hR.out]
        rw [he.out.1] at ho3
        rw [he.out.2]
        exact ⟨_, _, _, rfl, ho3.bytesBBwt, hb1.trans (hb3.mono hb1.size)⟩

end Go.Proofs.YtohadkmaemmfgaaGreatDoor.Bwt
namespace Go.Proofs.YtohadkmaemmfgaaGreatDoor.Bwt
open Go.RowKit Go.Proofs Go.Sort
set_option linter.unusedVariables false
set_option linter.unusedSimpArgs false
theorem pw7 : pw 7 = 128 ∧ pw 14 = 16384 ∧ pw 21 = 2097152 := by decide
theorem furL_mid {n : Nat} (h1 : 128 ≤ n) (h2 : n ≤ 16383) : furL n = 1 := by
  have a := furL_lt (n := n) (k := 0) (by omega)
  have b := furL_lt (n := n) (k := 1) (by omega)
  have := pw7
  rw [show 7 * (0 + 1) = 7 from rfl, this.1] at a
  rw [show 7 * (1 + 1) = 14 from rfl, this.2.1] at b
  omega
theorem furL_big {n : Nat} (h1 : 16384 ≤ n) (h2 : n ≤ 2097151) : furL n = 2 := by
  have a := furL_lt (n := n) (k := 1) (by omega)
  have b := furL_lt (n := n) (k := 2) (by omega)
  have := pw7
  rw [show 7 * (1 + 1) = 14 from rfl, this.2.1] at a
  rw [show 7 * (2 + 1) = 21 from rfl, this.2.2] at b
  omega
theorem or_128k : ∀ k : Fin 64, bits BinOp.or IntKind.u8 128 (k.val : Int) = ((128 + k.val : Nat) : Int) := by decide +kernel
theorem or_192k : ∀ k : Fin 32, bits BinOp.or IntKind.u8 192 (k.val : Int) = ((192 + k.val : Nat) : Int) := by decide +kernel
theorem wrapN (n : Nat) : IntKind.u8.wrap (n : Int) = ((n % 256 : Nat) : Int) := by
  simp [IntKind.wrap, IntKind.bits, IntKind.signed]
theorem encN (n r : Nat) (h : r = n % 256) : encB (UInt8.ofNat n) = .int .u8 (r : Int) := by
  unfold encB; rw [UInt8.toNat_ofNat', h]
theorem put_mid (B : Nat) (A : Option Addr) (m c : Nat) (xs : List UInt8) (n : Nat) (w : World) (hown : Own encB w B 5 A m c xs) (hB : B ≤ w.heap.size) (hm : m ≤ 1000000) (h1 : 128 ≤ n) (h2 : n ≤ 16383) :
    Calls Tryz.prog 146 #[.slice A m c, .int .i64 (n : Int)] w (RetOwn B w (xs ++ [UInt8.ofNat (128 + n / 256), UInt8.ofNat n])) := by
  have g1 := Lib.hid (number_any n w (by omega))
  have g2 := further_any n w (by omega)
  rw [furL_mid h1 h2] at g2
  have G2 := Lib.hid g2; clear g2
  obtain ⟨q, hq⟩ : ∃ q, q = n / 256 := ⟨_, rfl⟩
  obtain ⟨v, hv⟩ : ∃ v, v = 128 + q := ⟨_, rfl⟩
  obtain ⟨r, hr⟩ : ∃ r, r = n % 256 := ⟨_, rfl⟩
  have hor : bits BinOp.or IntKind.u8 128 (q : Int) = (v : Int) := by rw [hv]; exact or_128k ⟨q, by omega⟩
  have hdiv : (n : Int) / 256 = (q : Int) := by omega
  have hdiv1 : (n : Int) / 1 = n := by omega
  have hqm : (q : Int) % 256 = (q : Int) := by omega
  have hnm : (n : Int) % 256 = (r : Int) := by omega
  have hw1 : IntKind.u8.wrap (q : Int) = (q : Int) := by rw [wrapN, Nat.mod_eq_of_lt (by omega)]
  have hw2 : IntKind.u8.wrap (n : Int) = (r : Int) := by rw [wrapN, hr]
  have hv0 : Hid (encB (UInt8.ofNat v) = .int .u8 (v : Int)) := encN v v (by omega)
  have hv1 : Hid (encB (UInt8.ofNat n) = .int .u8 (r : Int)) := encN n r hr
  have HQ : Hid (UInt8.ofNat (128 + n / 256) = UInt8.ofNat v) := by show _ = _; rw [hv, hq]
  have m1 : Hid (m + 1 ≤ maxLen ∧ (m + 1) * 1 ≤ 140737488355328) := ⟨by simp [maxLen]; omega, by omega⟩
  have m2 : Hid (m + 1 + 1 ≤ maxLen ∧ (m + 1 + 1) * 1 ≤ 140737488355328) := ⟨by simp [maxLen]; omega, by omega⟩
  rw [HQ.out]
  clear hq hv hr
  go_enter Tryz.func146, Tryz.ntmps146
  go_wp2_with (first
    | (go_at_call 213; refine g1.out.mono ?_; rintro e w1 ⟨rfl, hw1⟩; obtain rfl : w = w1 := hw1.symm)
    | (go_at_call 150; refine G2.out.mono ?_; rintro e w1 ⟨rfl, hw1⟩; obtain rfl : w = w1 := hw1.symm)
    | (at_builtin; refine wpList_pushv (enc := encB) rfl (.tmp 15) (.tmp 23) rfl uB infoB encB_one rfl rfl hown hB (UInt8.ofNat v) _ hv0.out rfl m1.out.1 m1.out.2 ?_; intro A6 c6 W6 ho6 hb6; have hB6 := Nat.le_trans hB hb6.size))
  refine wp_loop_rounds 2 ?_
  rw [rounds_succ]
  go_wp2_with (at_builtin; refine wpList_pushv (enc := encB) rfl (.tmp 31) (.tmp 37) rfl uB infoB encB_one rfl rfl ho6 hB6 (UInt8.ofNat n) _ hv1.out rfl m2.out.1 m2.out.2 ?_; intro A7 c7 W7 ho7 hb7)
  rw [rounds_succ]
  go_wp2_with fail
  go_ret
  rw [List.append_assoc] at ho7
  exact RetOwn.mk ho7 (hb6.trans hb7)
theorem put_big (B : Nat) (A : Option Addr) (m c : Nat) (xs : List UInt8) (n : Nat) (w : World) (hown : Own encB w B 5 A m c xs) (hB : B ≤ w.heap.size) (hm : m ≤ 1000000) (h1 : 16384 ≤ n) (h2 : n ≤ 2097151) :
    Calls Tryz.prog 146 #[.slice A m c, .int .i64 (n : Int)] w (RetOwn B w (xs ++ [UInt8.ofNat (192 + n / 65536), UInt8.ofNat (n / 256), UInt8.ofNat n])) := by
  have g1 := Lib.hid (number_any n w (by omega))
  have g2 := further_any n w (by omega)
  rw [furL_big h1 h2] at g2
  have G2 := Lib.hid g2; clear g2
  obtain ⟨q, hq⟩ : ∃ q, q = n / 65536 := ⟨_, rfl⟩
  obtain ⟨v, hv⟩ : ∃ v, v = 192 + q := ⟨_, rfl⟩
  obtain ⟨t, ht⟩ : ∃ t, t = n / 256 := ⟨_, rfl⟩
  obtain ⟨s, hs⟩ : ∃ s, s = t % 256 := ⟨_, rfl⟩
  obtain ⟨r, hr⟩ : ∃ r, r = n % 256 := ⟨_, rfl⟩
  have hor : bits BinOp.or IntKind.u8 192 (q : Int) = (v : Int) := by rw [hv]; exact or_192k ⟨q, by omega⟩
  have hdiv : (n : Int) / 65536 = (q : Int) := by omega
  have hdiv2 : (n : Int) / 256 = (t : Int) := by omega
  have hdiv1 : (n : Int) / 1 = n := by omega
  have hqm : (q : Int) % 256 = (q : Int) := by omega
  have htm : (t : Int) % 256 = (s : Int) := by omega
  have hnm : (n : Int) % 256 = (r : Int) := by omega
  have hw1 : IntKind.u8.wrap (q : Int) = (q : Int) := by rw [wrapN, Nat.mod_eq_of_lt (by omega)]
  have hw2 : IntKind.u8.wrap (n : Int) = (r : Int) := by rw [wrapN, hr]
  have hw3 : IntKind.u8.wrap (t : Int) = (s : Int) := by rw [wrapN, hs]
  have hv0 : Hid (encB (UInt8.ofNat v) = .int .u8 (v : Int)) := encN v v (by omega)
  have hv1 : Hid (encB (UInt8.ofNat n) = .int .u8 (r : Int)) := encN n r hr
  have hv2 : Hid (encB (UInt8.ofNat t) = .int .u8 (s : Int)) := encN t s hs
  have HQ : Hid (UInt8.ofNat (192 + n / 65536) = UInt8.ofNat v ∧ n / 256 = t) := by show _ ∧ _; rw [hv, hq, ht]; exact ⟨rfl, rfl⟩
  have m1 : Hid (m + 1 ≤ maxLen ∧ (m + 1) * 1 ≤ 140737488355328) := ⟨by simp [maxLen]; omega, by omega⟩
  have m2 : Hid (m + 1 + 1 ≤ maxLen ∧ (m + 1 + 1) * 1 ≤ 140737488355328) := ⟨by simp [maxLen]; omega, by omega⟩
  have m3 : Hid (m + 1 + 1 + 1 ≤ maxLen ∧ (m + 1 + 1 + 1) * 1 ≤ 140737488355328) := ⟨by simp [maxLen]; omega, by omega⟩
  rw [HQ.out.1, HQ.out.2]
  clear hq hv hr ht hs
  go_enter Tryz.func146, Tryz.ntmps146
  go_wp2_with (first
    | (go_at_call 213; refine g1.out.mono ?_; rintro e w1 ⟨rfl, hw1⟩; obtain rfl : w = w1 := hw1.symm)
    | (go_at_call 150; refine G2.out.mono ?_; rintro e w1 ⟨rfl, hw1⟩; obtain rfl : w = w1 := hw1.symm)
    | (at_builtin; refine wpList_pushv (enc := encB) rfl (.tmp 15) (.tmp 23) rfl uB infoB encB_one rfl rfl hown hB (UInt8.ofNat v) _ hv0.out rfl m1.out.1 m1.out.2 ?_; intro A6 c6 W6 ho6 hb6; have hB6 := Nat.le_trans hB hb6.size))
  refine wp_loop_rounds 3 ?_
  rw [rounds_succ]
  go_wp2_with (at_builtin; refine wpList_pushv (enc := encB) rfl (.tmp 31) (.tmp 37) rfl uB infoB encB_one rfl rfl ho6 hB6 (UInt8.ofNat t) _ hv2.out rfl m2.out.1 m2.out.2 ?_; intro A7 c7 W7 ho7 hb7; have hB7 := Nat.le_trans hB6 hb7.size)
  rw [rounds_succ]
  go_wp2_with (at_builtin; refine wpList_pushv (enc := encB) rfl (.tmp 31) (.tmp 37) rfl uB infoB encB_one rfl rfl ho7 hB7 (UInt8.ofNat n) _ hv1.out rfl m3.out.1 m3.out.2 ?_; intro A8 c8 W8 ho8 hb8)
  rw [rounds_succ]
  go_wp2_with fail
  go_ret
  rw [List.append_assoc, List.append_assoc] at ho8
  exact RetOwn.mk ho8 ((hb6.trans hb7).trans hb8)
def putN (n : Nat) : List UInt8 := if n ≤ 127 then [UInt8.ofNat n] else if n ≤ 16383 then [UInt8.ofNat (128 + n / 256), UInt8.ofNat n] else [UInt8.ofNat (192 + n / 65536), UInt8.ofNat (n / 256), UInt8.ofNat n]
theorem putN_le (n : Nat) : (putN n).length ≤ 3 := by unfold putN; split; (simp); split <;> simp
theorem put_any (B : Nat) (A : Option Addr) (m c : Nat) (xs : List UInt8) (n : Nat) (w : World) (hown : Own encB w B 5 A m c xs) (hB : B ≤ w.heap.size) (hm : m ≤ 1000000) (hn : n ≤ 2097151) :
    Calls Tryz.prog 146 #[.slice A m c, .int .i64 (n : Int)] w (RetOwn B w (xs ++ putN n)) := by
  unfold putN
  by_cases h : n ≤ 127
  · rw [if_pos h]; exact put_small B A m c xs n w hown hB hm h
  · rw [if_neg h]
    by_cases h2 : n ≤ 16383
    · rw [if_pos h2]; exact put_mid B A m c xs n w hown hB hm (by omega) h2
    · rw [if_neg h2]; exact put_big B A m c xs n w hown hB hm (by omega) hn
theorem putInt_any (A : Option Addr) (m c : Nat) (xs : List UInt8) (n : Nat) (w : World) (hx : Bytes w A m c xs) (hm : m ≤ 900000) (hn : n ≤ 2097151) :
    Calls Tryz.prog 80 #[.slice A m c, .int .i64 (n : Int)] w (RetOwn w.heap.size w (xs ++ putN n)) := by
  have hcal := Lib.hid (clone_any A m c xs w hx (by omega))
  have Hm := Lib.hid hx.1
  go_enter Tryz.func80, Tryz.ntmps80
  go_wp2_with fail
  refine hcal.out.mono ?_
  rintro e w1 ⟨A1, n1, c1, rfl, ho1, hb1⟩
  have hn1 : n1 ≤ 900000 := by rw [← ho1.length, Hm.out]; exact hm
  have hcal2 := Lib.hid (put_any w.heap.size A1 n1 c1 xs n w1 ho1 hb1.size (by omega) hn)
  go_wp2_with fail
  refine hcal2.out.mono ?_
  rintro e w2 ⟨A2, n2, c2, rfl, ho2, hb2⟩
  go_wp2_with fail
  go_ret
  exact RetOwn.mk ho2 (hb1.trans hb2)
def packQ (bs : List UInt8) : List UInt8 × Nat := if 65536 < bs.length then ([], 5) else if 65536 < (putN (primN bs) ++ fwdL bs).length then ([], 5) else (putN (primN bs) ++ fwdL bs, 0)
theorem packQ_length (bs : List UInt8) : (packQ bs).1.length ≤ 65536 := by
  unfold packQ
  split
  · exact Nat.zero_le _
  · split
    · exact Nat.zero_le _
    · rename_i h; show (putN (primN bs) ++ fwdL bs).length ≤ _; omega
theorem packQ_any (A : Option Addr) (n c : Nat) (bs : List UInt8) (w : World) (hx : Bytes w A n c bs) (hn : n ≤ 1000000000) :
    Calls Tryz.prog 39 #[.slice A n c] w (RetBytes w (packQ bs).1 ((packQ bs).2 : Int)) := by
  have Hn := Lib.hid hx.1
  have hcal := forward_any A n c bs w hx hn
  by_cases h1 : 65536 < n
  · have hR : Hid (packQ bs = ([], 5)) := by show _ = _; unfold packQ; rw [Hn.out, if_pos h1]
    have hF : fwdRes bs = ([], 0, 5) := by unfold fwdRes; rw [Hn.out, if_pos h1]
    rw [hF] at hcal
    have Hcal := Lib.hid hcal; clear hcal hF
    go_enter Tryz.func39, Tryz.ntmps39
    go_wp2_with fail
    refine Hcal.out.mono ?_
    rintro e w1 ⟨A1, n1, c1, rfl, -, hb1⟩
    go_wp2_with fail
    go_ret2
    rw [hR.out]
    exact RetBytes.err rfl hb1
  · have hR : Hid (packQ bs = if 65536 < (putN (primN bs) ++ fwdL bs).length then ([], 5) else (putN (primN bs) ++ fwdL bs, 0)) := by show _ = _; unfold packQ; rw [Hn.out, if_neg h1]
    have hF : fwdRes bs = (fwdL bs, primN bs, 0) := by unfold fwdRes; rw [Hn.out, if_neg h1]
    rw [hF] at hcal
    have Hcal := Lib.hid hcal; clear hcal hF
    have hpn := primN_le bs
    rw [Hn.out] at hpn
    have hfl := fwdTo_le bs (bs.length + 1)
    have hfl' : (fwdL bs).length ≤ n + 1 := by unfold fwdL; rw [Hn.out] at hfl ⊢; exact hfl
    have hn6 : n ≤ 65536 := by omega
    clear hfl h1
    obtain ⟨q, hq⟩ : ∃ q, q = primN bs := ⟨_, rfl⟩
    rw [← hq] at hR Hcal hpn
    clear hq
    go_enter Tryz.func39, Tryz.ntmps39
    go_wp2_with fail
    refine Hcal.out.mono ?_
    rintro e w1 ⟨A1, n1, c1, rfl, hx1, hb1⟩
    have hl1 : (fwdL bs).length = n1 := hx1.1
    have hn1 : n1 ≤ 65537 := by omega
    have Hcal2 := Lib.hid (putInt_any none 0 0 [] q w1 (Bytes.nil w1 0) (by omega) (by omega))
    clear Hcal
    go_wp2_with fail
    refine Hcal2.out.mono ?_
    rintro e w2 ⟨A2, n2, c2, rfl, ho2, hb2⟩
    rw [List.nil_append] at ho2
    have hn2 : n2 ≤ 3 := by rw [← ho2.length]; exact putN_le _
    have hx2 := hx1.below hb2
    have Hx2 := Lib.hid hx2.1
    have hll : (putN q ++ fwdL bs).length = n2 + n1 := by rw [List.length_append, ho2.length, hl1]
    have m1 : Hid (n2 + n1 ≤ maxLen ∧ (n2 + n1) * 1 ≤ 140737488355328) := ⟨by simp [maxLen]; omega, by omega⟩
    have hB2 := hb2.size
    clear Hcal2 hl1
    by_cases h65 : 65536 < n2 + n1
    · have hR2 : Hid (packQ bs = ([], 5)) := by show _ = _; rw [hR.out, hll, if_pos h65]
      have d1 : decide ((65536 : Int) < ((n2 + n1 : Nat) : Int)) = true := by simp; omega
      have d2 : decide ((65536 : Int) < (n2 : Int) + (n1 : Int)) = true := by simp; omega
      clear hll h65
      go_wp2_with (at_builtin; refine wpList_app (enc := encB) rfl (.tmp 18) (.tmp 19) rfl uB infoB encB_one rfl rfl ho2 hB2 A1 n1 c1 (fwdL bs) 0 Hx2.out hx2.2.2 rfl m1.out.1 m1.out.2 ?_; intro A7 c7 W7 ho7 hb7 hg7)
      go_ret2
      rw [hR2.out]
      exact RetBytes.err rfl (hb1.trans ((hb2.trans hb7).mono hb1.size))
    · have hR2 : Hid (packQ bs = (putN q ++ fwdL bs, 0)) := by show _ = _; rw [hR.out, hll, if_neg h65]
      have d1 : decide ((65536 : Int) < ((n2 + n1 : Nat) : Int)) = false := by simp; omega
      have d2 : decide ((65536 : Int) < (n2 : Int) + (n1 : Int)) = false := by simp; omega
      clear hll h65
      go_wp2_with (at_builtin; refine wpList_app (enc := encB) rfl (.tmp 18) (.tmp 19) rfl uB infoB encB_one rfl rfl ho2 hB2 A1 n1 c1 (fwdL bs) 0 Hx2.out hx2.2.2 rfl m1.out.1 m1.out.2 ?_; intro A7 c7 W7 ho7 hb7 hg7)
      go_ret2
      rw [hR2.out]
      exact RetBytes.mk rfl ho7.bytesBBwt (hb1.trans ((hb2.trans hb7).mono hb1.size))
theorem pwc (k p : Nat) (w : World) (hk : k ≤ 62) (hp : pw k = p) : Calls Tryz.prog 169 #[.int .i64 (k : Int)] w fun e w' => e = .returned (.int .i64 (p : Int)) ∧ w' = w := by
  rw [← hp]; exact power_any k w hk
theorem putIntR_mid (A : Option Addr) (m c : Nat) (xs : List UInt8) (n : Nat) (w : World) (hx : Bytes w A m c xs) (hm : m ≤ 900000) (h1 : 128 ≤ n) (h2 : n ≤ 16383) :
    Calls Tryz.prog 110 #[.slice A m c, .int .i64 (n : Int)] w (RetOwn w.heap.size w (xs ++ [UInt8.ofNat (128 + n / 256), UInt8.ofNat n])) := by
  have g1 := Lib.hid (numberR_any n w (by omega))
  have g2 := sizeR_any n w (by omega)
  rw [furL_mid h1 h2] at g2
  have G2 := Lib.hid g2; clear g2
  have Hx := Lib.hid hx.1
  have m1 : Hid (0 + m ≤ maxLen ∧ (0 + m) * 1 ≤ 140737488355328) := ⟨by simp [maxLen]; omega, by omega⟩
  have m2 : Hid (m + 1 ≤ maxLen ∧ (m + 1) * 1 ≤ 140737488355328) := ⟨by simp [maxLen]; omega, by omega⟩
  have m3 : Hid (m + 1 + 1 ≤ maxLen ∧ (m + 1 + 1) * 1 ≤ 140737488355328) := ⟨by simp [maxLen]; omega, by omega⟩
  have m4 : Hid (m + 1 + 1 + 1 ≤ maxLen ∧ (m + 1 + 1 + 1) * 1 ≤ 140737488355328) := ⟨by simp [maxLen]; omega, by omega⟩
  obtain ⟨q, hq⟩ : ∃ q, q = n / 256 := ⟨_, rfl⟩
  obtain ⟨r, hr⟩ : ∃ r, r = n % 256 := ⟨_, rfl⟩
  have hq64 : q ≤ 63 := by omega
  have hr256 : r < 256 := by omega
  have hdiv : (n : Int).tdiv 256 = (q : Int) := by rw [Int.tdiv_eq_ediv_of_nonneg (by omega)]; omega
  have hdiv1 : (n : Int).tdiv 1 = n := by rw [Int.tdiv_one]
  have hmod : (n : Int).tmod 256 = (r : Int) := by rw [Int.tmod_eq_emod_of_nonneg (by omega)]; omega
  have hv0 : Hid (encB (UInt8.ofNat (128 + q)) = .int .u8 (128 + (q : Int))) := by show _ = _; unfold encB; rw [UInt8.toNat_ofNat', Nat.mod_eq_of_lt (by omega)]; simp
  have hv1 : Hid (encB (UInt8.ofNat n) = .int .u8 (r : Int)) := encN n r hr
  have HQ : Hid (n / 256 = q) := hq.symm
  rw [HQ.out]
  clear hq hr
  go_enter Tryz.func110, Tryz.ntmps110
  go_wp2_with (first
    | (go_at_call 179; refine g1.out.mono ?_; rintro e w1 ⟨rfl, hw1⟩; obtain rfl : w = w1 := hw1.symm)
    | (go_at_call 170; refine G2.out.mono ?_; rintro e w1 ⟨rfl, hw1⟩; obtain rfl : w = w1 := hw1.symm)
    | (at_builtin; refine wpList_app (enc := encB) rfl (.tmp 13) (.tmp 14) rfl uB infoB encB_one rfl rfl (Own.nil encB w w.heap.size _) (Nat.le_refl _) A m c xs 0 Hx.out hx.2.2 rfl m1.out.1 m1.out.2 ?_; intro A6 c6 W6 ho6 hb6 hg6))
  rw [List.nil_append, Nat.zero_add] at ho6
  have Ga := Lib.hid (show Calls _ _ _ _ _ from pwc 7 128 W6 (by omega) rfl)
  have Gb := Lib.hid (show Calls _ _ _ _ _ from pwc 8 256 W6 (by omega) rfl)
  have hsz6 := Lib.hid hb6.size
  refine Ga.out.mono ?_
  rintro e w1 ⟨rfl, hw1⟩
  obtain rfl : W6 = w1 := hw1.symm
  go_wp2_with fail
  refine Gb.out.mono ?_
  rintro e w1 ⟨rfl, hw1⟩
  obtain rfl : W6 = w1 := hw1.symm
  go_wp2_with (at_builtin; refine wpList_pushv (enc := encB) rfl (.tmp 16) (.tmp 28) rfl uB infoB encB_one rfl rfl ho6 hsz6.out (UInt8.ofNat (128 + q)) _ hv0.out rfl m2.out.1 m2.out.2 ?_; intro A7 c7 W7 ho7 hb7; have hB7 := Nat.le_trans hsz6.out hb7.size)
  refine wp_loop_rounds 2 ?_
  rw [rounds_succ]
  have G0 := Lib.hid (show Calls _ _ _ _ _ from pwc 0 1 W7 (by omega) rfl)
  go_wp2_with fail
  refine G0.out.mono ?_
  rintro e w1 ⟨rfl, hw1⟩
  obtain rfl : W7 = w1 := hw1.symm
  go_wp2_with (at_builtin; refine wpList_pushv (enc := encB) rfl (.tmp 36) (.tmp 44) rfl uB infoB encB_one rfl rfl ho7 hB7 (UInt8.ofNat n) _ hv1.out rfl m3.out.1 m3.out.2 ?_; intro A8 c8 W8 ho8 hb8)
  rw [rounds_succ]
  go_wp2_with fail
  go_ret
  rw [List.append_assoc] at ho8
  exact RetOwn.mk ho8 ((hb6.trans hb7).trans hb8)
theorem putIntR_big (A : Option Addr) (m c : Nat) (xs : List UInt8) (n : Nat) (w : World) (hx : Bytes w A m c xs) (hm : m ≤ 900000) (h1 : 16384 ≤ n) (h2 : n ≤ 2097151) :
    Calls Tryz.prog 110 #[.slice A m c, .int .i64 (n : Int)] w (RetOwn w.heap.size w (xs ++ [UInt8.ofNat (192 + n / 65536), UInt8.ofNat (n / 256), UInt8.ofNat n])) := by
  have g1 := Lib.hid (numberR_any n w (by omega))
  have g2 := sizeR_any n w (by omega)
  rw [furL_big h1 h2] at g2
  have G2 := Lib.hid g2; clear g2
  have Hx := Lib.hid hx.1
  have m1 : Hid (0 + m ≤ maxLen ∧ (0 + m) * 1 ≤ 140737488355328) := ⟨by simp [maxLen]; omega, by omega⟩
  have m2 : Hid (m + 1 ≤ maxLen ∧ (m + 1) * 1 ≤ 140737488355328) := ⟨by simp [maxLen]; omega, by omega⟩
  have m3 : Hid (m + 1 + 1 ≤ maxLen ∧ (m + 1 + 1) * 1 ≤ 140737488355328) := ⟨by simp [maxLen]; omega, by omega⟩
  have m4 : Hid (m + 1 + 1 + 1 ≤ maxLen ∧ (m + 1 + 1 + 1) * 1 ≤ 140737488355328) := ⟨by simp [maxLen]; omega, by omega⟩
  obtain ⟨q, hq⟩ : ∃ q, q = n / 65536 := ⟨_, rfl⟩
  obtain ⟨t, ht⟩ : ∃ t, t = n / 256 := ⟨_, rfl⟩
  obtain ⟨s, hs⟩ : ∃ s, s = t % 256 := ⟨_, rfl⟩
  obtain ⟨r, hr⟩ : ∃ r, r = n % 256 := ⟨_, rfl⟩
  have hq64 : q ≤ 31 := by omega
  have ht64 : t ≤ 8191 := by omega
  have hs256 : s < 256 := by omega
  have hr256 : r < 256 := by omega
  have hdiv : (n : Int).tdiv 65536 = (q : Int) := by rw [Int.tdiv_eq_ediv_of_nonneg (by omega)]; omega
  have hdiv2 : (n : Int).tdiv 256 = (t : Int) := by rw [Int.tdiv_eq_ediv_of_nonneg (by omega)]; omega
  have hdiv1 : (n : Int).tdiv 1 = n := by rw [Int.tdiv_one]
  have hmod2 : (t : Int).tmod 256 = (s : Int) := by rw [Int.tmod_eq_emod_of_nonneg (by omega)]; omega
  have hmod : (n : Int).tmod 256 = (r : Int) := by rw [Int.tmod_eq_emod_of_nonneg (by omega)]; omega
  have hv0 : Hid (encB (UInt8.ofNat (192 + q)) = .int .u8 (192 + (q : Int))) := by show _ = _; unfold encB; rw [UInt8.toNat_ofNat', Nat.mod_eq_of_lt (by omega)]; simp
  have hv1 : Hid (encB (UInt8.ofNat n) = .int .u8 (r : Int)) := encN n r hr
  have hv2 : Hid (encB (UInt8.ofNat t) = .int .u8 (s : Int)) := encN t s hs
  have HQ : Hid (n / 65536 = q ∧ n / 256 = t) := ⟨hq.symm, ht.symm⟩
  rw [HQ.out.1, HQ.out.2]
  clear hq hr ht hs
  go_enter Tryz.func110, Tryz.ntmps110
  go_wp2_with (first
    | (go_at_call 179; refine g1.out.mono ?_; rintro e w1 ⟨rfl, hw1⟩; obtain rfl : w = w1 := hw1.symm)
    | (go_at_call 170; refine G2.out.mono ?_; rintro e w1 ⟨rfl, hw1⟩; obtain rfl : w = w1 := hw1.symm)
    | (at_builtin; refine wpList_app (enc := encB) rfl (.tmp 13) (.tmp 14) rfl uB infoB encB_one rfl rfl (Own.nil encB w w.heap.size _) (Nat.le_refl _) A m c xs 0 Hx.out hx.2.2 rfl m1.out.1 m1.out.2 ?_; intro A6 c6 W6 ho6 hb6 hg6))
  rw [List.nil_append, Nat.zero_add] at ho6
  have Ga := Lib.hid (show Calls _ _ _ _ _ from pwc 6 64 W6 (by omega) rfl)
  have Gb := Lib.hid (show Calls _ _ _ _ _ from pwc 16 65536 W6 (by omega) rfl)
  have hsz6 := Lib.hid hb6.size
  refine Ga.out.mono ?_
  rintro e w1 ⟨rfl, hw1⟩
  obtain rfl : W6 = w1 := hw1.symm
  go_wp2_with fail
  refine Gb.out.mono ?_
  rintro e w1 ⟨rfl, hw1⟩
  obtain rfl : W6 = w1 := hw1.symm
  go_wp2_with (at_builtin; refine wpList_pushv (enc := encB) rfl (.tmp 16) (.tmp 28) rfl uB infoB encB_one rfl rfl ho6 hsz6.out (UInt8.ofNat (192 + q)) _ hv0.out rfl m2.out.1 m2.out.2 ?_; intro A7 c7 W7 ho7 hb7; have hB7 := Nat.le_trans hsz6.out hb7.size)
  refine wp_loop_rounds 3 ?_
  rw [rounds_succ]
  have Gc := Lib.hid (show Calls _ _ _ _ _ from pwc 8 256 W7 (by omega) rfl)
  go_wp2_with fail
  refine Gc.out.mono ?_
  rintro e w1 ⟨rfl, hw1⟩
  obtain rfl : W7 = w1 := hw1.symm
  go_wp2_with (at_builtin; refine wpList_pushv (enc := encB) rfl (.tmp 36) (.tmp 44) rfl uB infoB encB_one rfl rfl ho7 hB7 (UInt8.ofNat t) _ hv2.out rfl m3.out.1 m3.out.2 ?_; intro A8 c8 W8 ho8 hb8; have hB8 := Nat.le_trans hB7 hb8.size)
  rw [rounds_succ]
  have G0 := Lib.hid (show Calls _ _ _ _ _ from pwc 0 1 W8 (by omega) rfl)
  go_wp2_with fail
  refine G0.out.mono ?_
  rintro e w1 ⟨rfl, hw1⟩
  obtain rfl : W8 = w1 := hw1.symm
  go_wp2_with (at_builtin; refine wpList_pushv (enc := encB) rfl (.tmp 36) (.tmp 44) rfl uB infoB encB_one rfl rfl ho8 hB8 (UInt8.ofNat n) _ hv1.out rfl m4.out.1 m4.out.2 ?_; intro A9 c9 W9 ho9 hb9)
  rw [rounds_succ]
  go_wp2_with fail
  go_ret
  rw [List.append_assoc, List.append_assoc] at ho9
  exact RetOwn.mk ho9 (((hb6.trans hb7).trans hb8).trans hb9)
theorem putIntT_any (A : Option Addr) (m c : Nat) (xs : List UInt8) (n : Nat) (w : World) (hx : Bytes w A m c xs) (hm : m ≤ 900000) (hn : n ≤ 2097151) :
    Calls Tryz.prog 110 #[.slice A m c, .int .i64 (n : Int)] w (RetOwn w.heap.size w (xs ++ putN n)) := by
  unfold putN
  by_cases h : n ≤ 127
  · rw [if_pos h]; exact putIntR_small A m c xs n w hx hm h
  · rw [if_neg h]
    by_cases h2 : n ≤ 16383
    · rw [if_pos h2]; exact putIntR_mid A m c xs n w hx hm (by omega) h2
    · rw [if_neg h2]; exact putIntR_big A m c xs n w hx hm (by omega) hn
theorem packT_any (A : Option Addr) (n c : Nat) (bs : List UInt8) (w : World) (hx : Bytes w A n c bs) (hn : n ≤ 1000000000) :
    Calls Tryz.prog 58 #[.slice A n c] w (RetBytes w (packQ bs).1 ((packQ bs).2 : Int)) := by
  have Hn := Lib.hid hx.1
  have hcal := forwardR_any A n c bs w hx hn
  by_cases h1 : 65536 < n
  · have hR : Hid (packQ bs = ([], 5)) := by show _ = _; unfold packQ; rw [Hn.out, if_pos h1]
    have hF : fwdRes bs = ([], 0, 5) := by unfold fwdRes; rw [Hn.out, if_pos h1]
    rw [hF] at hcal
    have Hcal := Lib.hid hcal; clear hcal hF
    go_enter Tryz.func58, Tryz.ntmps58
    go_wp2_with fail
    refine Hcal.out.mono ?_
    rintro e w1 ⟨A1, n1, c1, rfl, -, hb1⟩
    go_wp2_with fail
    go_ret2
    rw [hR.out]
    exact RetBytes.err rfl hb1
  · have hR : Hid (packQ bs = if 65536 < (putN (primN bs) ++ fwdL bs).length then ([], 5) else (putN (primN bs) ++ fwdL bs, 0)) := by show _ = _; unfold packQ; rw [Hn.out, if_neg h1]
    have hF : fwdRes bs = (fwdL bs, primN bs, 0) := by unfold fwdRes; rw [Hn.out, if_neg h1]
    rw [hF] at hcal
    have Hcal := Lib.hid hcal; clear hcal hF
    have hpn := primN_le bs
    rw [Hn.out] at hpn
    have hfl := fwdTo_le bs (bs.length + 1)
    have hfl' : (fwdL bs).length ≤ n + 1 := by unfold fwdL; rw [Hn.out] at hfl ⊢; exact hfl
    have hn6 : n ≤ 65536 := by omega
    clear hfl h1
    obtain ⟨q, hq⟩ : ∃ q, q = primN bs := ⟨_, rfl⟩
    rw [← hq] at hR Hcal hpn
    clear hq
    go_enter Tryz.func58, Tryz.ntmps58
    go_wp2_with fail
    refine Hcal.out.mono ?_
    rintro e w1 ⟨A1, n1, c1, rfl, hx1, hb1⟩
    have hl1 : (fwdL bs).length = n1 := hx1.1
    have hn1 : n1 ≤ 65537 := by omega
    have Hcal2 := Lib.hid (putIntT_any none 0 0 [] q w1 (Bytes.nil w1 0) (by omega) (by omega))
    clear Hcal
    go_wp2_with fail
    refine Hcal2.out.mono ?_
    rintro e w2 ⟨A2, n2, c2, rfl, ho2, hb2⟩
    rw [List.nil_append] at ho2
    have hn2 : n2 ≤ 3 := by rw [← ho2.length]; exact putN_le _
    have hx2 := hx1.below hb2
    have Hx2 := Lib.hid hx2.1
    have hll : (putN q ++ fwdL bs).length = n2 + n1 := by rw [List.length_append, ho2.length, hl1]
    have m1 : Hid (n2 + n1 ≤ maxLen ∧ (n2 + n1) * 1 ≤ 140737488355328) := ⟨by simp [maxLen]; omega, by omega⟩
    have hB2 := hb2.size
    clear Hcal2 hl1
    by_cases h65 : 65536 < n2 + n1
    · have hR2 : Hid (packQ bs = ([], 5)) := by show _ = _; rw [hR.out, hll, if_pos h65]
      have d1 : decide ((65536 : Int) < ((n2 + n1 : Nat) : Int)) = true := by simp; omega
      have d2 : decide ((65536 : Int) < (n2 : Int) + (n1 : Int)) = true := by simp; omega
      clear hll h65
      go_wp2_with (at_builtin; refine wpList_app (enc := encB) rfl (.tmp 18) (.tmp 19) rfl uB infoB encB_one rfl rfl ho2 hB2 A1 n1 c1 (fwdL bs) 0 Hx2.out hx2.2.2 rfl m1.out.1 m1.out.2 ?_; intro A7 c7 W7 ho7 hb7 hg7)
      go_ret2
      rw [hR2.out]
      exact RetBytes.err rfl (hb1.trans ((hb2.trans hb7).mono hb1.size))
    · have hR2 : Hid (packQ bs = (putN q ++ fwdL bs, 0)) := by show _ = _; rw [hR.out, hll, if_neg h65]
      have d1 : decide ((65536 : Int) < ((n2 + n1 : Nat) : Int)) = false := by simp; omega
      have d2 : decide ((65536 : Int) < (n2 : Int) + (n1 : Int)) = false := by simp; omega
      clear hll h65
      go_wp2_with (at_builtin; refine wpList_app (enc := encB) rfl (.tmp 18) (.tmp 19) rfl uB infoB encB_one rfl rfl ho2 hB2 A1 n1 c1 (fwdL bs) 0 Hx2.out hx2.2.2 rfl m1.out.1 m1.out.2 ?_; intro A7 c7 W7 ho7 hb7 hg7)
      go_ret2
      rw [hR2.out]
      exact RetBytes.mk rfl ho7.bytesBBwt (hb1.trans ((hb2.trans hb7).mono hb1.size))
end Go.Proofs.YtohadkmaemmfgaaGreatDoor.Bwt
namespace Go.Proofs.YtohadkmaemmfgaaGreatDoor.Bwt
open Go.RowKit Go.Proofs
set_option linter.unusedVariables false
section
variable {p : Nat} {bs : List UInt8}
end
end Go.Proofs.YtohadkmaemmfgaaGreatDoor.Bwt
namespace Go.Proofs.YtohadkmaemmfgaaGreatDoor.Bwt
open Go.RowKit Go.Proofs Go.Sort
set_option linter.unusedVariables false
def goesB (p : Nat) (bs : List UInt8) (r k : Nat) : Prop := k ≠ p ∧ (byteR bs p k < byteR bs p r ∨ byteR bs p k = byteR bs p r ∧ k < r)
instance (p : Nat) (bs : List UInt8) (r k : Nat) : Decidable (goesB p bs r k) := by unfold goesB; infer_instance


end Go.Proofs.YtohadkmaemmfgaaGreatDoor.Bwt
namespace Go.Proofs.YtohadkmaemmfgaaGreatDoor.Bwt
open Go.RowKit Go.Proofs
set_option linter.unusedVariables false
section
variable {p : Nat} {bs : List UInt8}
end
section
variable {b : List UInt8}
end
section
variable {p : Nat} {bs : List UInt8}
end
end Go.Proofs.YtohadkmaemmfgaaGreatDoor.Bwt
namespace Go.Proofs.YtohadkmaemmfgaaGreatDoor.Bwt
open Go.RowKit Go.Proofs Go.Sort
set_option linter.unusedVariables false
set_option linter.unusedSimpArgs false

end Go.Proofs.YtohadkmaemmfgaaGreatDoor.Bwt

/- Bo Bq Cq By Br Bs Bt Bz Cf Cs. -/
import Derived.Test.YtckkmafppfcecaaGreatDoorRN16
import Derived.Test.YtckkmafppfcecaaGreatDoorRN34
import Derived.Test.YtckkmafppfcecaaGreatDoorRN36
set_option maxRecDepth 100000
set_option maxHeartbeats 4000000
namespace Go.Proofs.YtckkmafppfcecaaGreatDoor.Bwt
open Go.RowKit Go.Proofs Go.Sort
set_option linter.unusedVariables false
theorem sort_long (A : Option Addr) (c n : Nat) (w : World) (h1 : 65536 < n) (h2 : n ≤ 1000000000) :
    Calls Tryz.prog 201 #[.slice A n c] w (RetInts w [] 5) := by
  have d1 : decide ((65536 : Int) < (n : Int)) = true := by simp; omega
  have d2 : decide (65536 < n) = true := by simp; omega
  go_enter Tryz.func201, Tryz.ntmps201
  go_wp2_with fail
  go_ret2
  exact RetInts.mk rfl (Ints.nil _ _) (Below.refl _ _)
def fwdTo (bs : List UInt8) : Nat → List UInt8
  | 0 => []
  | k + 1 => fwdTo bs k ++ if 0 < gi (sortL bs) k then [bs.getD ((gi (sortL bs) k).toNat - 1) 0] else []
def fwdL (bs : List UInt8) : List UInt8 := fwdTo bs (bs.length + 1)
def primN (bs : List UInt8) : Nat := (sortL bs).idxOf 0
theorem fwdTo_le (bs : List UInt8) : ∀ k, (fwdTo bs k).length ≤ k
  | 0 => by simp [fwdTo]
  | k + 1 => by rw [fwdTo, List.length_append]; have := fwdTo_le bs k; split <;> simp <;> omega
theorem zero_mem (bs : List UInt8) : (0 : Int) ∈ sortL bs := mem_sortL.2 ⟨by omega, by omega⟩
theorem primN_le (bs : List UInt8) : primN bs ≤ bs.length := by
  have := List.idxOf_lt_length_iff.2 (zero_mem bs)
  rw [sortL_length] at this
  unfold primN; omega
theorem gi_prim (bs : List UInt8) : gi (sortL bs) (primN bs) = 0 := by
  have h := List.idxOf_lt_length_iff.2 (zero_mem bs)
  rw [gi_get (k := primN bs) h]
  exact List.getElem_idxOf h
theorem sortL_nodup (bs : List UInt8) : (sortL bs).Nodup := ((permErr_zero_iff _).1 (sortL_perm bs)).2
theorem prim_only {bs : List UInt8} {k : Nat} (hk : k ≤ bs.length) (h : gi (sortL bs) k = 0) : k = primN bs := by
  have hl := sortL_length bs
  have h1 : k < (sortL bs).length := by omega
  rw [gi_get h1] at h
  have := (sortL_nodup bs).idxOf_getElem k h1
  rw [h] at this
  exact this.symm
theorem gi_sort (bs : List UInt8) {k : Nat} (hk : k ≤ bs.length) : 0 ≤ gi (sortL bs) k ∧ gi (sortL bs) k ≤ bs.length := mem_sortL.1 (gi_mem (by rw [sortL_length]; omega))
def fwdRes (bs : List UInt8) : List UInt8 × Nat × Nat := if 65536 < bs.length then ([], 0, 5) else (fwdL bs, primN bs, 0)
def RetFwd (w : World) (x : List UInt8 × Nat × Nat) (e : Ending) (w' : World) : Prop := ∃ A n c, e = .returned (.tuple #[.slice A n c, .int .i64 (x.2.1 : Int), .int .i64 (x.2.2 : Int)]) ∧ Bytes w' A n c x.1 ∧ Below w.heap.size w w'
theorem forward_any (A : Option Addr) (n c : Nat) (bs : List UInt8) (w : World) (hx : Bytes w A n c bs) (hn : n ≤ 1000000000) :
    Calls Tryz.prog 125 #[.slice A n c] w (RetFwd w (fwdRes bs)) := by
  have Hn := Lib.hid hx.1
  by_cases h1 : 65536 < n
  · have hR : Hid (fwdRes bs = ([], 0, 5)) := by show _ = _; unfold fwdRes; rw [Hn.out, if_pos h1]
    have Hcal := Lib.hid (sort_long A c n w h1 hn)
    go_enter Tryz.func125, Tryz.ntmps125
    go_wp2_with fail
    refine Hcal.out.mono ?_
    rintro e w1 ⟨A1, n1, c1, rfl, -, hb1⟩
    go_wp2_with fail
    go_ret3
    rw [hR.out]
    exact ⟨none, 0, 0, rfl, Bytes.nil _ _, hb1⟩
  · have hR : Hid (fwdRes bs = (fwdL bs, primN bs, 0)) := by show _ = _; unfold fwdRes; rw [Hn.out, if_neg h1]
    have hn6 : n ≤ 65536 := by omega
    have Hcal := Lib.hid (sort_any A c n bs w hx hn6)
    go_enter Tryz.func125, Tryz.ntmps125
    go_wp2_with fail
    refine Hcal.out.mono ?_
    rintro e w1 ⟨A1, n1, c1, rfl, hi1, hb1⟩
    have hn1 : n1 = n + 1 := by rw [← hi1.1, sortL_length, Hn.out]
    subst hn1
    obtain ⟨b, off, rfl, hbl, hcell⟩ := hi1.get (k := 0) (by omega)
    have hix := Tryz.slices_Index_int b off (n + 1) c1 (sortL bs) 0 w1 (by rw [sortL_length, Hn.out]; exact Nat.le_refl _) (by omega) (fun j hj => hcell j (by rw [sortL_length, Hn.out] at hj; exact hj))
    have hpe : Lib.idxOf ((sortL bs).take (n + 1)) 0 = (primN bs : Int) := Lib.idxOf_hit _ _ _ _ (by have := primN_le bs; rw [Hn.out] at this; omega) (by rw [sortL_length, Hn.out]; exact Nat.le_refl _) (gi_prim bs) (fun j hj h => by
      have := prim_only (bs := bs) (k := j) (by have := primN_le bs; omega) h
      omega)
    rw [hpe] at hix
    have Hix := Lib.hid hix; clear hix hpe Hcal hcell
    go_wp2_with fail
    refine Hix.out.mono ?_
    rintro e w2 ⟨rfl, hw2⟩
    obtain rfl : w1 = w2 := hw2.symm
    have hmk := run_make_cap (P := Tryz.prog) (enc := encB) uB infoB rfl n (by omega) (by omega)
    clear Hix
    go_wp2_with fail
    have ho0 := Own.made (enc := encB) w1 5 0 n (B := w1.heap.size) (Nat.le_refl _) (by simp [maxLen]; omega)
    have hb0 : Below w1.heap.size w1 (w1.alloc (rowObj encB 5 (List.replicate n 0))) := (Below.refl _ _).alloc (Nat.le_refl _) _
    clear hmk
    have hx1 := hx.below hb1
    go_loopw [8, 10, 26] (fun o _ i wr => ∃ (k : Nat) (A3 : Option Addr) (n3 c3 : Nat), k ≤ n + 1 ∧ i = .int .i64 (k : Int) ∧ o = .slice A3 n3 c3 ∧ n3 ≤ k ∧ Own encB wr w1.heap.size 5 A3 n3 c3 (fwdTo bs k) ∧ Below w1.heap.size w1 wr) (fun _ _ i _ => n + 1 - (intOf i).toNat)
    case atStart => exact ⟨0, _, _, _, Nat.zero_le _, rfl, rfl, Nat.le_refl _, ho0, hb0⟩
    case round =>
      clear ho0 hb0
      obtain ⟨k, A3, n3, c3, hk, rfl, rfl, hn3, ho3, hb3⟩ := hrel
      by_cases hlt : k < n + 1
      · have dk : decide ((k : Int) < (n : Int) + 1) = true := by simp; omega
        have dk' : decide (k < n + 1) = true := by simp; omega
        have c1 := (hi1.below hb3).cell hlt
        obtain ⟨g0, g1⟩ := gi_sort bs (k := k) (by rw [Hn.out]; omega)
        rw [Hn.out] at g1
        have hnx : Hid (fwdTo bs (k + 1) = fwdTo bs k ++ if 0 < gi (sortL bs) k then [bs.getD ((gi (sortL bs) k).toNat - 1) 0] else []) := rfl
        obtain ⟨z, hz⟩ : ∃ z, z = gi (sortL bs) k := ⟨_, rfl⟩
        rw [← hz] at c1 g0 g1 hnx
        clear hz
        obtain ⟨q, rfl⟩ : ∃ q : Nat, z = (q : Int) := ⟨z.toNat, by omega⟩
        rw [Int.toNat_natCast] at hnx
        by_cases hq : 0 < q
        · have dq : decide ((0 : Int) < (q : Int)) = true := by simp; omega
          have dq' : decide (0 < q) = true := by simp; omega
          obtain ⟨b5, off5, rfl, hb5, hc5⟩ := (hx1.below hb3).get (k := q - 1) (by omega)
          have c5 := hc5 (q - 1) (by omega)
          clear hc5
          have hq1 : (1 : Int) ≤ q := by omega
          rw [if_pos (by omega)] at hnx
          have hv : Hid (encB (bs.getD (q - 1) 0) = .int .u8 (gb bs (q - 1))) := rfl
          have m1 : Hid (n3 + 1 ≤ maxLen ∧ (n3 + 1) * 1 ≤ 140737488355328) := ⟨by simp [maxLen]; omega, by omega⟩
          have hB3 := hb3.size
          go_wp2_with (at_builtin; refine wpList_pushv (enc := encB) rfl (.tmp 32) (.tmp 38) rfl uB infoB encB_one rfl rfl ho3 hB3 (bs.getD (q - 1) 0) _ hv.out rfl m1.out.1 m1.out.2 ?_; intro A7 c7 W7 ho7 hb7)
          go_roundw
          case rel => exact ⟨k + 1, A7, n3 + 1, c7, by omega, by go_num, rfl, by omega, by rw [hnx.out]; exact ho7, hb3.trans hb7⟩
          case measure => simp [intOf]; omega
        · have dq : decide ((0 : Int) < (q : Int)) = false := by simp; omega
          have dq' : decide (0 < q) = false := by simp; omega
          rw [if_neg (by omega)] at hnx
          go_wp2_with fail
          go_roundw
          case rel => exact ⟨k + 1, A3, n3, c3, by omega, by go_num, rfl, by omega, by rw [hnx.out, List.append_nil]; exact ho3, hb3⟩
          case measure => simp [intOf]; omega
      · have dk : decide ((k : Int) < (n : Int) + 1) = false := by simp; omega
        have dk' : decide (k < n + 1) = false := by simp; omega
        have he : Hid (fwdTo bs k = fwdL bs) := by show _ = _; unfold fwdL; rw [Hn.out, show k = n + 1 by omega]
        go_wp2_with fail
        go_ret3
        rw [hR.out]
        rw [he.out] at ho3
        exact ⟨_, _, _, rfl, ho3.bytesBBwt, hb1.trans (hb3.mono hb1.size)⟩
def unpackRes (bs : List UInt8) : List UInt8 × Int := if 65536 < bs.length then ([], 5) else if (intL bs).2.2 ≠ 0 then ([], ((intL bs).2.2 : Int)) else (invRes (intL bs).2.1 ((intL bs).1 : Int), invErr (intL bs).2.1 ((intL bs).1 : Int))
theorem intL_len (bs : List UInt8) : (intL bs).2.1.length ≤ bs.length := by
  unfold intL
  split
  · simp
  · split
    · simp
    · split
      · simp
      · split
        · simp
        · simp
theorem unpack_any (A : Option Addr) (n c : Nat) (bs : List UInt8) (w : World) (hx : Bytes w A n c bs) (hn : n ≤ 1000000000) :
    Calls Tryz.prog 68 #[.slice A n c] w (RetBytes w (unpackRes bs).1 (unpackRes bs).2) := by
  have Hn := Lib.hid hx.1
  by_cases h1 : 65536 < n
  · have hR : Hid (unpackRes bs = ([], 5)) := by show _ = _; unfold unpackRes; rw [Hn.out, if_pos h1]
    have d1 : decide ((65536 : Int) < (n : Int)) = true := by simp; omega
    have d2 : decide (65536 < n) = true := by simp; omega
    go_enter Tryz.func68, Tryz.ntmps68
    go_wp2_with fail
    go_ret2
    rw [hR.out]
    exact RetBytes.err rfl (Below.refl _ _)
  · have d1 : decide ((65536 : Int) < (n : Int)) = false := by simp; omega
    have d2 : decide (65536 < n) = false := by simp; omega
    have hU : unpackRes bs = if (intL bs).2.2 ≠ 0 then ([], ((intL bs).2.2 : Int)) else (invRes (intL bs).2.1 ((intL bs).1 : Int), invErr (intL bs).2.1 ((intL bs).1 : Int)) := by unfold unpackRes; rw [Hn.out, if_neg h1]
    have hcal := intP_any A n c bs w hx (by omega)
    have hil := intL_len bs
    rw [Hn.out] at hil
    obtain ⟨x, hxe⟩ : ∃ x, x = intL bs := ⟨_, rfl⟩
    rw [← hxe] at hcal hU hil
    clear hxe
    obtain ⟨v, rest, er⟩ := x
    simp only at hU hil
    have Hcal := Lib.hid hcal; clear hcal
    by_cases he : er = 0
    · subst he
      rw [if_neg (by simp)] at hU
      have HU := Lib.hid hU; clear hU
      go_enter Tryz.func68, Tryz.ntmps68
      go_wp2_with fail
      refine Hcal.out.mono ?_
      rintro e w1 ⟨A1, n1, c1, rfl, ho1, hb1⟩
      have hl1 := ho1.length
      simp only at hl1
      have Hc2 := Lib.hid (inverseP_any A1 n1 c1 (v : Int) rest w1 ho1.bytesBBwt (by omega))
      clear Hcal
      go_wp2_with fail
      refine Hc2.out.mono ?_
      rintro e w2 ⟨A2, n2, c2, rfl, hx2, hb2⟩
      go_wp2_with fail
      go_ret2
      rw [HU.out]
      exact RetBytes.mk rfl hx2 (hb1.trans (hb2.mono hb1.size))
    · rw [if_pos he] at hU
      have HU := Lib.hid hU; clear hU
      have d3 : ((er : Int) != 0) = true := by simp; exact he
      clear he
      go_enter Tryz.func68, Tryz.ntmps68
      go_wp2_with fail
      refine Hcal.out.mono ?_
      rintro e w1 ⟨A1, n1, c1, rfl, ho1, hb1⟩
      go_wp2_with fail
      go_ret2
      rw [HU.out]
      exact RetBytes.err rfl hb1
end Go.Proofs.YtckkmafppfcecaaGreatDoor.Bwt
namespace Go.Proofs.YtckkmafppfcecaaGreatDoor.Bwt
open Go.RowKit Go.Proofs Go.Sort
set_option linter.unusedVariables false
set_option linter.unusedSimpArgs false
theorem pw7 : pw 7 = 128 ∧ pw 14 = 16384 ∧ pw 21 = 2097152 := by decide
theorem furL_mid {n : Nat} (h1 : 128 ≤ n) (h2 : n ≤ 16383) : furL n = 1 := by
  have a := furL_lt (n := n) (k := 0) (by omega)
  have b := furL_lt (n := n) (k := 1) (by omega)
  have := pw7
  rw [show 7 * (0 + 1) = 7 from rfl, this.1] at a
  rw [show 7 * (1 + 1) = 14 from rfl, this.2.1] at b
  omega
theorem furL_big {n : Nat} (h1 : 16384 ≤ n) (h2 : n ≤ 2097151) : furL n = 2 := by
  have a := furL_lt (n := n) (k := 1) (by omega)
  have b := furL_lt (n := n) (k := 2) (by omega)
  have := pw7
  rw [show 7 * (1 + 1) = 14 from rfl, this.2.1] at a
  rw [show 7 * (2 + 1) = 21 from rfl, this.2.2] at b
  omega
theorem or_128k : ∀ k : Fin 64, bits BinOp.or IntKind.u8 128 (k.val : Int) = ((128 + k.val : Nat) : Int) := by decide +kernel
theorem or_192k : ∀ k : Fin 32, bits BinOp.or IntKind.u8 192 (k.val : Int) = ((192 + k.val : Nat) : Int) := by decide +kernel
theorem wrapN (n : Nat) : IntKind.u8.wrap (n : Int) = ((n % 256 : Nat) : Int) := by
  simp [IntKind.wrap, IntKind.bits, IntKind.signed]
theorem encN (n r : Nat) (h : r = n % 256) : encB (UInt8.ofNat n) = .int .u8 (r : Int) := by
  unfold encB; rw [UInt8.toNat_ofNat', h]
theorem put_mid (B : Nat) (A : Option Addr) (m c : Nat) (xs : List UInt8) (n : Nat) (w : World) (hown : Own encB w B 5 A m c xs) (hB : B ≤ w.heap.size) (hm : m ≤ 1000000) (h1 : 128 ≤ n) (h2 : n ≤ 16383) :
    Calls Tryz.prog 186 #[.slice A m c, .int .i64 (n : Int)] w (RetOwn B w (xs ++ [UInt8.ofNat (128 + n / 256), UInt8.ofNat n])) := by
  have g1 := Lib.hid (number_any n w (by omega))
  have g2 := further_any n w (by omega)
  rw [furL_mid h1 h2] at g2
  have G2 := Lib.hid g2; clear g2
  obtain ⟨q, hq⟩ : ∃ q, q = n / 256 := ⟨_, rfl⟩
  obtain ⟨v, hv⟩ : ∃ v, v = 128 + q := ⟨_, rfl⟩
  obtain ⟨r, hr⟩ : ∃ r, r = n % 256 := ⟨_, rfl⟩
  have hor : bits BinOp.or IntKind.u8 128 (q : Int) = (v : Int) := by rw [hv]; exact or_128k ⟨q, by omega⟩
  have hdiv : (n : Int) / 256 = (q : Int) := by omega
  have hdiv1 : (n : Int) / 1 = n := by omega
  have hqm : (q : Int) % 256 = (q : Int) := by omega
  have hnm : (n : Int) % 256 = (r : Int) := by omega
  have hw1 : IntKind.u8.wrap (q : Int) = (q : Int) := by rw [wrapN, Nat.mod_eq_of_lt (by omega)]
  have hw2 : IntKind.u8.wrap (n : Int) = (r : Int) := by rw [wrapN, hr]
  have hv0 : Hid (encB (UInt8.ofNat v) = .int .u8 (v : Int)) := encN v v (by omega)
  have hv1 : Hid (encB (UInt8.ofNat n) = .int .u8 (r : Int)) := encN n r hr
  have HQ : Hid (UInt8.ofNat (128 + n / 256) = UInt8.ofNat v) := by show _ = _; rw [hv, hq]
  have m1 : Hid (m + 1 ≤ maxLen ∧ (m + 1) * 1 ≤ 140737488355328) := ⟨by simp [maxLen]; omega, by omega⟩
  have m2 : Hid (m + 1 + 1 ≤ maxLen ∧ (m + 1 + 1) * 1 ≤ 140737488355328) := ⟨by simp [maxLen]; omega, by omega⟩
  rw [HQ.out]
  clear hq hv hr
  go_enter Tryz.func186, Tryz.ntmps186
  go_wp2_with (first
    | (go_at_call 257; refine g1.out.mono ?_; rintro e w1 ⟨rfl, hw1⟩; obtain rfl : w = w1 := hw1.symm)
    | (go_at_call 190; refine G2.out.mono ?_; rintro e w1 ⟨rfl, hw1⟩; obtain rfl : w = w1 := hw1.symm)
    | (at_builtin; refine wpList_pushv (enc := encB) rfl (.tmp 15) (.tmp 23) rfl uB infoB encB_one rfl rfl hown hB (UInt8.ofNat v) _ hv0.out rfl m1.out.1 m1.out.2 ?_; intro A6 c6 W6 ho6 hb6; have hB6 := Nat.le_trans hB hb6.size))
  refine wp_loop_rounds 2 ?_
  rw [rounds_succ]
  go_wp2_with (at_builtin; refine wpList_pushv (enc := encB) rfl (.tmp 31) (.tmp 37) rfl uB infoB encB_one rfl rfl ho6 hB6 (UInt8.ofNat n) _ hv1.out rfl m2.out.1 m2.out.2 ?_; intro A7 c7 W7 ho7 hb7)
  rw [rounds_succ]
  go_wp2_with fail
  go_ret
  rw [List.append_assoc] at ho7
  exact RetOwn.mk ho7 (hb6.trans hb7)
theorem put_big (B : Nat) (A : Option Addr) (m c : Nat) (xs : List UInt8) (n : Nat) (w : World) (hown : Own encB w B 5 A m c xs) (hB : B ≤ w.heap.size) (hm : m ≤ 1000000) (h1 : 16384 ≤ n) (h2 : n ≤ 2097151) :
    Calls Tryz.prog 186 #[.slice A m c, .int .i64 (n : Int)] w (RetOwn B w (xs ++ [UInt8.ofNat (192 + n / 65536), UInt8.ofNat (n / 256), UInt8.ofNat n])) := by
  have g1 := Lib.hid (number_any n w (by omega))
  have g2 := further_any n w (by omega)
  rw [furL_big h1 h2] at g2
  have G2 := Lib.hid g2; clear g2
  obtain ⟨q, hq⟩ : ∃ q, q = n / 65536 := ⟨_, rfl⟩
  obtain ⟨v, hv⟩ : ∃ v, v = 192 + q := ⟨_, rfl⟩
  obtain ⟨t, ht⟩ : ∃ t, t = n / 256 := ⟨_, rfl⟩
  obtain ⟨s, hs⟩ : ∃ s, s = t % 256 := ⟨_, rfl⟩
  obtain ⟨r, hr⟩ : ∃ r, r = n % 256 := ⟨_, rfl⟩
  have hor : bits BinOp.or IntKind.u8 192 (q : Int) = (v : Int) := by rw [hv]; exact or_192k ⟨q, by omega⟩
  have hdiv : (n : Int) / 65536 = (q : Int) := by omega
  have hdiv2 : (n : Int) / 256 = (t : Int) := by omega
  have hdiv1 : (n : Int) / 1 = n := by omega
  have hqm : (q : Int) % 256 = (q : Int) := by omega
  have htm : (t : Int) % 256 = (s : Int) := by omega
  have hnm : (n : Int) % 256 = (r : Int) := by omega
  have hw1 : IntKind.u8.wrap (q : Int) = (q : Int) := by rw [wrapN, Nat.mod_eq_of_lt (by omega)]
  have hw2 : IntKind.u8.wrap (n : Int) = (r : Int) := by rw [wrapN, hr]
  have hw3 : IntKind.u8.wrap (t : Int) = (s : Int) := by rw [wrapN, hs]
  have hv0 : Hid (encB (UInt8.ofNat v) = .int .u8 (v : Int)) := encN v v (by omega)
  have hv1 : Hid (encB (UInt8.ofNat n) = .int .u8 (r : Int)) := encN n r hr
  have hv2 : Hid (encB (UInt8.ofNat t) = .int .u8 (s : Int)) := encN t s hs
  have HQ : Hid (UInt8.ofNat (192 + n / 65536) = UInt8.ofNat v ∧ n / 256 = t) := by show _ ∧ _; rw [hv, hq, ht]; exact ⟨rfl, rfl⟩
  have m1 : Hid (m + 1 ≤ maxLen ∧ (m + 1) * 1 ≤ 140737488355328) := ⟨by simp [maxLen]; omega, by omega⟩
  have m2 : Hid (m + 1 + 1 ≤ maxLen ∧ (m + 1 + 1) * 1 ≤ 140737488355328) := ⟨by simp [maxLen]; omega, by omega⟩
  have m3 : Hid (m + 1 + 1 + 1 ≤ maxLen ∧ (m + 1 + 1 + 1) * 1 ≤ 140737488355328) := ⟨by simp [maxLen]; omega, by omega⟩
  rw [HQ.out.1, HQ.out.2]
  clear hq hv hr ht hs
  go_enter Tryz.func186, Tryz.ntmps186
  go_wp2_with (first
    | (go_at_call 257; refine g1.out.mono ?_; rintro e w1 ⟨rfl, hw1⟩; obtain rfl : w = w1 := hw1.symm)
    | (go_at_call 190; refine G2.out.mono ?_; rintro e w1 ⟨rfl, hw1⟩; obtain rfl : w = w1 := hw1.symm)
    | (at_builtin; refine wpList_pushv (enc := encB) rfl (.tmp 15) (.tmp 23) rfl uB infoB encB_one rfl rfl hown hB (UInt8.ofNat v) _ hv0.out rfl m1.out.1 m1.out.2 ?_; intro A6 c6 W6 ho6 hb6; have hB6 := Nat.le_trans hB hb6.size))
  refine wp_loop_rounds 3 ?_
  rw [rounds_succ]
  go_wp2_with (at_builtin; refine wpList_pushv (enc := encB) rfl (.tmp 31) (.tmp 37) rfl uB infoB encB_one rfl rfl ho6 hB6 (UInt8.ofNat t) _ hv2.out rfl m2.out.1 m2.out.2 ?_; intro A7 c7 W7 ho7 hb7; have hB7 := Nat.le_trans hB6 hb7.size)
  rw [rounds_succ]
  go_wp2_with (at_builtin; refine wpList_pushv (enc := encB) rfl (.tmp 31) (.tmp 37) rfl uB infoB encB_one rfl rfl ho7 hB7 (UInt8.ofNat n) _ hv1.out rfl m3.out.1 m3.out.2 ?_; intro A8 c8 W8 ho8 hb8)
  rw [rounds_succ]
  go_wp2_with fail
  go_ret
  rw [List.append_assoc, List.append_assoc] at ho8
  exact RetOwn.mk ho8 ((hb6.trans hb7).trans hb8)
def putN (n : Nat) : List UInt8 := if n ≤ 127 then [UInt8.ofNat n] else if n ≤ 16383 then [UInt8.ofNat (128 + n / 256), UInt8.ofNat n] else [UInt8.ofNat (192 + n / 65536), UInt8.ofNat (n / 256), UInt8.ofNat n]
theorem putN_le (n : Nat) : (putN n).length ≤ 3 := by unfold putN; split; (simp); split <;> simp
theorem put_any (B : Nat) (A : Option Addr) (m c : Nat) (xs : List UInt8) (n : Nat) (w : World) (hown : Own encB w B 5 A m c xs) (hB : B ≤ w.heap.size) (hm : m ≤ 1000000) (hn : n ≤ 2097151) :
    Calls Tryz.prog 186 #[.slice A m c, .int .i64 (n : Int)] w (RetOwn B w (xs ++ putN n)) := by
  unfold putN
  by_cases h : n ≤ 127
  · rw [if_pos h]; exact put_small B A m c xs n w hown hB hm h
  · rw [if_neg h]
    by_cases h2 : n ≤ 16383
    · rw [if_pos h2]; exact put_mid B A m c xs n w hown hB hm (by omega) h2
    · rw [if_neg h2]; exact put_big B A m c xs n w hown hB hm (by omega) hn
theorem putInt_any (A : Option Addr) (m c : Nat) (xs : List UInt8) (n : Nat) (w : World) (hx : Bytes w A m c xs) (hm : m ≤ 900000) (hn : n ≤ 2097151) :
    Calls Tryz.prog 116 #[.slice A m c, .int .i64 (n : Int)] w (RetOwn w.heap.size w (xs ++ putN n)) := by
  have hcal := Lib.hid (clone_any A m c xs w hx (by omega))
  have Hm := Lib.hid hx.1
  go_enter Tryz.func116, Tryz.ntmps116
  go_wp2_with fail
  refine hcal.out.mono ?_
  rintro e w1 ⟨A1, n1, c1, rfl, ho1, hb1⟩
  have hn1 : n1 ≤ 900000 := by rw [← ho1.length, Hm.out]; exact hm
  have hcal2 := Lib.hid (put_any w.heap.size A1 n1 c1 xs n w1 ho1 hb1.size (by omega) hn)
  go_wp2_with fail
  refine hcal2.out.mono ?_
  rintro e w2 ⟨A2, n2, c2, rfl, ho2, hb2⟩
  go_wp2_with fail
  go_ret
  exact RetOwn.mk ho2 (hb1.trans hb2)
def packQ (bs : List UInt8) : List UInt8 × Nat := if 65536 < bs.length then ([], 5) else if 65536 < (putN (primN bs) ++ fwdL bs).length then ([], 5) else (putN (primN bs) ++ fwdL bs, 0)
theorem packQ_length (bs : List UInt8) : (packQ bs).1.length ≤ 65536 := by
  unfold packQ
  split
  · exact Nat.zero_le _
  · split
    · exact Nat.zero_le _
    · rename_i h; show (putN (primN bs) ++ fwdL bs).length ≤ _; omega
theorem packQ_any (A : Option Addr) (n c : Nat) (bs : List UInt8) (w : World) (hx : Bytes w A n c bs) (hn : n ≤ 1000000000) :
    Calls Tryz.prog 67 #[.slice A n c] w (RetBytes w (packQ bs).1 ((packQ bs).2 : Int)) := by
  have Hn := Lib.hid hx.1
  have hcal := forward_any A n c bs w hx hn
  by_cases h1 : 65536 < n
  · have hR : Hid (packQ bs = ([], 5)) := by show _ = _; unfold packQ; rw [Hn.out, if_pos h1]
    have hF : fwdRes bs = ([], 0, 5) := by unfold fwdRes; rw [Hn.out, if_pos h1]
    rw [hF] at hcal
    have Hcal := Lib.hid hcal; clear hcal hF
    go_enter Tryz.func67, Tryz.ntmps67
    go_wp2_with fail
    refine Hcal.out.mono ?_
    rintro e w1 ⟨A1, n1, c1, rfl, -, hb1⟩
    go_wp2_with fail
    go_ret2
    rw [hR.out]
    exact RetBytes.err rfl hb1
  · have hR : Hid (packQ bs = if 65536 < (putN (primN bs) ++ fwdL bs).length then ([], 5) else (putN (primN bs) ++ fwdL bs, 0)) := by show _ = _; unfold packQ; rw [Hn.out, if_neg h1]
    have hF : fwdRes bs = (fwdL bs, primN bs, 0) := by unfold fwdRes; rw [Hn.out, if_neg h1]
    rw [hF] at hcal
    have Hcal := Lib.hid hcal; clear hcal hF
    have hpn := primN_le bs
    rw [Hn.out] at hpn
    have hfl := fwdTo_le bs (bs.length + 1)
    have hfl' : (fwdL bs).length ≤ n + 1 := by unfold fwdL; rw [Hn.out] at hfl ⊢; exact hfl
    have hn6 : n ≤ 65536 := by omega
    clear hfl h1
    obtain ⟨q, hq⟩ : ∃ q, q = primN bs := ⟨_, rfl⟩
    rw [← hq] at hR Hcal hpn
    clear hq
    go_enter Tryz.func67, Tryz.ntmps67
    go_wp2_with fail
    refine Hcal.out.mono ?_
    rintro e w1 ⟨A1, n1, c1, rfl, hx1, hb1⟩
    have hl1 : (fwdL bs).length = n1 := hx1.1
    have hn1 : n1 ≤ 65537 := by omega
    have Hcal2 := Lib.hid (putInt_any none 0 0 [] q w1 (Bytes.nil w1 0) (by omega) (by omega))
    clear Hcal
    go_wp2_with fail
    refine Hcal2.out.mono ?_
    rintro e w2 ⟨A2, n2, c2, rfl, ho2, hb2⟩
    rw [List.nil_append] at ho2
    have hn2 : n2 ≤ 3 := by rw [← ho2.length]; exact putN_le _
    have hx2 := hx1.below hb2
    have Hx2 := Lib.hid hx2.1
    have hll : (putN q ++ fwdL bs).length = n2 + n1 := by rw [List.length_append, ho2.length, hl1]
    have m1 : Hid (n2 + n1 ≤ maxLen ∧ (n2 + n1) * 1 ≤ 140737488355328) := ⟨by simp [maxLen]; omega, by omega⟩
    have hB2 := hb2.size
    clear Hcal2 hl1
    by_cases h65 : 65536 < n2 + n1
    · have hR2 : Hid (packQ bs = ([], 5)) := by show _ = _; rw [hR.out, hll, if_pos h65]
      have d1 : decide ((65536 : Int) < ((n2 + n1 : Nat) : Int)) = true := by simp; omega
      have d2 : decide ((65536 : Int) < (n2 : Int) + (n1 : Int)) = true := by simp; omega
      clear hll h65
      go_wp2_with (at_builtin; refine wpList_app (enc := encB) rfl (.tmp 18) (.tmp 19) rfl uB infoB encB_one rfl rfl ho2 hB2 A1 n1 c1 (fwdL bs) 0 Hx2.out hx2.2.2 rfl m1.out.1 m1.out.2 ?_; intro A7 c7 W7 ho7 hb7 hg7)
      go_ret2
      rw [hR2.out]
      exact RetBytes.err rfl (hb1.trans ((hb2.trans hb7).mono hb1.size))
    · have hR2 : Hid (packQ bs = (putN q ++ fwdL bs, 0)) := by show _ = _; rw [hR.out, hll, if_neg h65]
      have d1 : decide ((65536 : Int) < ((n2 + n1 : Nat) : Int)) = false := by simp; omega
      have d2 : decide ((65536 : Int) < (n2 : Int) + (n1 : Int)) = false := by simp; omega
      clear hll h65
      go_wp2_with (at_builtin; refine wpList_app (enc := encB) rfl (.tmp 18) (.tmp 19) rfl uB infoB encB_one rfl rfl ho2 hB2 A1 n1 c1 (fwdL bs) 0 Hx2.out hx2.2.2 rfl m1.out.1 m1.out.2 ?_; intro A7 c7 W7 ho7 hb7 hg7)
      go_ret2
      rw [hR2.out]
      exact RetBytes.mk rfl ho7.bytesBBwt (hb1.trans ((hb2.trans hb7).mono hb1.size))
end Go.Proofs.YtckkmafppfcecaaGreatDoor.Bwt
namespace Go.Proofs.YtckkmafppfcecaaGreatDoor.Bwt
open Go.RowKit Go.Proofs
set_option linter.unusedVariables false
theorem rowI_lt_iff' {p k r : Nat} (hk : k ≠ p) (hr : r ≠ p) : rowI p k < rowI p r ↔ k < r := by
  unfold rowI
  split <;> split <;> omega
section
variable {p : Nat} {bs : List UInt8}
def strW (p : Nat) (bs : List UInt8) : List UInt8 := (backL p bs).reverse
theorem strW_length (hw : wl p bs = bs.length) : (strW p bs).length = bs.length := by unfold strW backL; rw [List.length_reverse, backTo_length, hw]
theorem strW_get (hw : wl p bs = bs.length) {k : Nat} (hk : k < bs.length) : (strW p bs).getD (bs.length - 1 - k) 0 = by8 p bs (itR p bs k) := by
  have hl : (backL p bs).length = bs.length := by unfold backL; rw [backTo_length, hw]
  unfold strW
  rw [List.getD_eq_getElem?_getD, List.getElem?_reverse (by omega), hl, show bs.length - 1 - (bs.length - 1 - k) = k by omega]
  unfold backL backTo
  rw [hw]
  simp [hk]
theorem bn_by8 (r : Nat) : bn bs (rowI p r) = (by8 p bs r).toNat := rfl
theorem lk_lt_iff (hp : p ≤ bs.length) {r s : Nat} (hr : r ≤ bs.length) (hs : s ≤ bs.length) (h1 : r ≠ p) (h2 : s ≠ p) : lk p bs r < lk p bs s ↔ (by8 p bs r).toNat < (by8 p bs s).toNat ∨ by8 p bs r = by8 p bs s ∧ r < s := by
  unfold lk
  rw [if_neg h1, if_neg h2, lkN_lt_iff (rowI_lt hp hr h1) (rowI_lt hp hs h2), bn_by8, bn_by8, rowI_lt_iff' h1 h2]
  constructor
  · rintro (h | ⟨h, h'⟩)
    · exact .inl h
    · exact .inr ⟨UInt8.toNat_inj.1 h, h'⟩
  · rintro (h | ⟨h, h'⟩)
    · exact .inl h
    · exact .inr ⟨by rw [h], h'⟩
end
end Go.Proofs.YtckkmafppfcecaaGreatDoor.Bwt
namespace Go.Proofs.YtckkmafppfcecaaGreatDoor.Bwt
open Go.RowKit Go.Proofs Go.Sort
set_option linter.unusedVariables false
def goesB (p : Nat) (bs : List UInt8) (r k : Nat) : Prop := k ≠ p ∧ (byteR bs p k < byteR bs p r ∨ byteR bs p k = byteR bs p r ∧ k < r)
instance (p : Nat) (bs : List UInt8) (r k : Nat) : Decidable (goesB p bs r k) := by unfold goesB; infer_instance


end Go.Proofs.YtckkmafppfcecaaGreatDoor.Bwt
namespace Go.Proofs.YtckkmafppfcecaaGreatDoor.Bwt
open Go.RowKit Go.Proofs
set_option linter.unusedVariables false
def idxR (p r : Nat) : Nat := if r ≤ p then r else r - 1
section
variable {p : Nat} {bs : List UInt8}
theorem countP_range (lo hi : Nat) : ∀ m, (List.range m).countP (fun r => decide (lo ≤ r ∧ r < hi)) = min m hi - min m lo
  | 0 => by simp
  | m + 1 => by
    rw [List.range_succ, List.countP_append, countP_range lo hi m, List.countP_singleton]
    by_cases h : lo ≤ m ∧ m < hi
    · rw [if_pos (by simpa using h)]; omega
    · rw [if_neg (by simpa using h)]; omega
theorem perm_of_inj (n : Nat) (f : Nat → Nat) (h1 : ∀ k, k ≤ n → f k ≤ n) (h2 : ∀ k l, k ≤ n → l ≤ n → f k = f l → k = l) : ((List.range (n + 1)).map f).Perm (List.range (n + 1)) := by
  have hnd : ((List.range (n + 1)).map f).Nodup := by
    rw [List.Nodup, List.pairwise_map]
    refine List.Pairwise.imp_of_mem (R := fun a b => a ≠ b) ?_ List.nodup_range
    intro a b ha hb hne e
    exact hne (h2 a b (by simp at ha; omega) (by simp at hb; omega) e)
  refine (List.perm_ext_iff_of_nodup hnd List.nodup_range).2 fun a => ?_
  constructor
  · intro h
    obtain ⟨k, hk, rfl⟩ := List.mem_map.1 h
    have := h1 k (by simp at hk; omega)
    simp
    omega
  · intro h
    have ha : a < n + 1 := by simpa using h
    have hperm : permErr ((List.range (n + 1)).map fun k => (f k : Int)) = 0 := by
      rw [permErr_zero_iff]
      constructor
      · intro z hz
        obtain ⟨k, hk, rfl⟩ := List.mem_map.1 hz
        have := h1 k (by simp at hk; omega)
        simp
        omega
      · rw [List.Nodup, List.pairwise_map] at hnd ⊢
        exact hnd.imp fun hne e => hne (by omega)
    have := perm_all_mem hperm (j := a) (by simp; omega)
    obtain ⟨k, hk, he⟩ := List.mem_map.1 this
    exact List.mem_map.2 ⟨k, hk, by omega⟩
end
section
variable {b : List UInt8}
def plO (b : List UInt8) (r : Nat) : Nat := (gi (sortL b) r).toNat
def rowO (b : List UInt8) (z : Nat) : Nat := (sortL b).idxOf (z : Int)
theorem gi_plO {r : Nat} (hr : r ≤ b.length) : gi (sortL b) r = (plO b r : Int) := by
  have := gi_sort b hr
  unfold plO
  omega
theorem plO_le {r : Nat} (hr : r ≤ b.length) : plO b r ≤ b.length := by
  have := gi_sort b hr
  unfold plO
  omega
theorem rowO_lt {z : Nat} (hz : z ≤ b.length) : rowO b z < (sortL b).length := List.idxOf_lt_length_iff.2 (mem_sortL.2 ⟨by omega, by omega⟩)
theorem rowO_le {z : Nat} (hz : z ≤ b.length) : rowO b z ≤ b.length := by
  have := rowO_lt hz
  rw [sortL_length] at this
  omega
theorem plO_rowO {z : Nat} (hz : z ≤ b.length) : plO b (rowO b z) = z := by
  have h := rowO_lt hz
  have e : (sortL b)[rowO b z] = (z : Int) := List.getElem_idxOf h
  unfold plO
  rw [gi_get h, e]
  exact Int.toNat_natCast z
theorem rowO_plO {r : Nat} (hr : r ≤ b.length) : rowO b (plO b r) = r := by
  have h : r < (sortL b).length := by rw [sortL_length]; omega
  have e := gi_plO hr
  rw [gi_get h] at e
  unfold rowO
  rw [← e]
  exact (sortL_nodup b).idxOf_getElem r h
theorem rowO_inj {x y : Nat} (hx : x ≤ b.length) (hy : y ≤ b.length) (h : rowO b x = rowO b y) : x = y := by rw [← plO_rowO hx, ← plO_rowO hy, h]
theorem rowO_asc {x y : Nat} (hx : x ≤ b.length) (hy : y ≤ b.length) (h : rowO b x < rowO b y) : less (b.drop x) (b.drop y) = true := by
  have h1 := rowO_lt hx
  have h2 := rowO_lt hy
  have := List.pairwise_iff_getElem.1 (sortL_sorted b) _ _ h1 h2 h
  have e1 : (sortL b)[rowO b x] = (x : Int) := List.getElem_idxOf h1
  have e2 : (sortL b)[rowO b y] = (y : Int) := List.getElem_idxOf h2
  rw [e1, e2] at this
  exact this
theorem rowO_lt_iff {x y : Nat} (hx : x ≤ b.length) (hy : y ≤ b.length) : rowO b x < rowO b y ↔ less (b.drop x) (b.drop y) = true := by
  refine ⟨rowO_asc hx hy, fun h => ?_⟩
  rcases Nat.lt_trichotomy (rowO b x) (rowO b y) with h1 | h1 | h1
  · exact h1
  · rw [rowO_inj hx hy h1, less_irrefl] at h; cases h
  · rw [less_asymm (rowO_asc hy hx h1)] at h; cases h
theorem rowO_zero : rowO b 0 = primN b := rfl
theorem rowO_end : rowO b b.length = 0 := by
  rcases Nat.eq_zero_or_pos (rowO b b.length) with h | h
  · exact h
  · have h1 : rowO b (plO b 0) < rowO b b.length := by rw [rowO_plO (Nat.zero_le _)]; exact h
    have := rowO_asc (plO_le (Nat.zero_le _)) (Nat.le_refl _) h1
    rw [List.drop_length, less_nil] at this
    cases this
theorem rowO_pos {z : Nat} (hz : z < b.length) : 0 < rowO b z := by
  rcases Nat.eq_zero_or_pos (rowO b z) with h | h
  · have := rowO_inj (by omega) (Nat.le_refl b.length) (h.trans rowO_end.symm)
    omega
  · exact h
theorem rowN_idxR {p k : Nat} (h : k ≠ p) : rowN p (idxR p k) = k := by unfold rowN idxR; split <;> split <;> omega
theorem plO_pos {r : Nat} (hr : r ≤ b.length) (h : r ≠ primN b) : 0 < plO b r := by
  rcases Nat.eq_zero_or_pos (plO b r) with h1 | h1
  · exact absurd (prim_only hr (by rw [gi_plO hr, h1]; rfl)) h
  · exact h1
theorem fwdTo_get (b : List UInt8) : ∀ k, k ≤ b.length + 1 → (fwdTo b k).length = idxR (primN b) k ∧ ∀ j, j < idxR (primN b) k → (fwdTo b k).getD j 0 = b.getD (plO b (rowN (primN b) j) - 1) 0
  | 0, _ => ⟨by simp [fwdTo, idxR], fun j hj => by simp [idxR] at hj⟩
  | k + 1, hk => by
    obtain ⟨h1, h2⟩ := fwdTo_get b k (by omega)
    rw [fwdTo]
    by_cases h : k = primN b
    · have e : gi (sortL b) k = 0 := by rw [h]; exact gi_prim b
      have e2 : idxR (primN b) (k + 1) = idxR (primN b) k := by unfold idxR; split <;> split <;> omega
      rw [e, if_neg (by omega), List.append_nil, e2]
      exact ⟨h1, h2⟩
    · have e2 : idxR (primN b) (k + 1) = idxR (primN b) k + 1 := by unfold idxR; split <;> split <;> omega
      have hp := plO_pos (by omega : k ≤ b.length) h
      rw [gi_plO (by omega), if_pos (by omega), e2, Int.toNat_natCast]
      refine ⟨by simp [h1], fun j hj => ?_⟩
      rcases Nat.lt_or_ge j (idxR (primN b) k) with h3 | h3
      · rw [List.getD_eq_getElem?_getD, List.getElem?_append_left (by omega), ← List.getD_eq_getElem?_getD]
        exact h2 j h3
      · obtain rfl : j = idxR (primN b) k := by omega
        rw [List.getD_eq_getElem?_getD, List.getElem?_append_right (by omega), h1, Nat.sub_self, rowN_idxR h]
        rfl
theorem fwdL_length (b : List UInt8) : (fwdL b).length = b.length := by
  have := (fwdTo_get b (b.length + 1) (Nat.le_refl _)).1
  unfold fwdL
  rw [this]
  have := primN_le b
  unfold idxR
  split <;> omega
theorem by8_fwd {r : Nat} (hr : r ≤ b.length) (h : r ≠ primN b) : by8 (primN b) (fwdL b) r = b.getD (plO b r - 1) 0 := by
  have h1 := rowI_lt (primN_le b) hr h
  have h2 := (fwdTo_get b (b.length + 1) (Nat.le_refl _)).2 (rowI (primN b) r) (by have := primN_le b; unfold idxR; split <;> omega)
  unfold by8
  rw [show fwdL b = fwdTo b (b.length + 1) from rfl, h2, rowN_rowI h]
theorem count_perm (n : Nat) (f : Nat → Nat) (h1 : ∀ k, k ≤ n → f k ≤ n) (h2 : ∀ k l, k ≤ n → l ≤ n → f k = f l → k = l) {r : Nat} (hr : r ≤ n) : (List.range (n + 1)).countP (fun s => decide (f s < f r)) = f r := by
  have h3 := countP_range 0 (f r) (n + 1)
  rw [← (perm_of_inj n f h1 h2).countP_eq, List.countP_map] at h3
  have := h1 r hr
  rw [show min (n + 1) (f r) - min (n + 1) 0 = f r by omega] at h3
  refine Eq.trans ?_ h3
  apply List.countP_congr
  intro s _
  simp
theorem perm_same (n : Nat) (f g : Nat → Nat) (f1 : ∀ k, k ≤ n → f k ≤ n) (f2 : ∀ k l, k ≤ n → l ≤ n → f k = f l → k = l) (g1 : ∀ k, k ≤ n → g k ≤ n) (g2 : ∀ k l, k ≤ n → l ≤ n → g k = g l → k = l)
    (h : ∀ s r, s ≤ n → r ≤ n → (f s < f r ↔ g s < g r)) {r : Nat} (hr : r ≤ n) : f r = g r := by
  rw [← count_perm n f f1 f2 hr, ← count_perm n g g1 g2 hr]
  apply List.countP_congr
  intro s hs
  have := h s r (by simp at hs; omega) hr
  simp only [decide_eq_true_eq]
  exact this
def gO (b : List UInt8) (r : Nat) : Nat := if r = primN b then 0 else rowO b (plO b r - 1)
theorem gO_pos {r : Nat} (hr : r ≤ b.length) (h : r ≠ primN b) : 0 < gO b r := by
  unfold gO
  rw [if_neg h]
  have := plO_le hr
  have := plO_pos hr h
  exact rowO_pos (by omega)
theorem gO_le {r : Nat} (hr : r ≤ b.length) : gO b r ≤ b.length := by
  unfold gO
  split
  · omega
  · have := plO_le hr
    exact rowO_le (by omega)
theorem gO_prim : gO b (primN b) = 0 := by unfold gO; rw [if_pos rfl]
theorem gO_inj {r s : Nat} (hr : r ≤ b.length) (hs : s ≤ b.length) (h : gO b r = gO b s) : r = s := by
  by_cases h1 : r = primN b
  · by_cases h2 : s = primN b
    · rw [h1, h2]
    · have := gO_pos hs h2
      rw [← h, h1, gO_prim] at this
      omega
  · by_cases h2 : s = primN b
    · have := gO_pos hr h1
      rw [h, h2, gO_prim] at this
      omega
    · unfold gO at h
      rw [if_neg h1, if_neg h2] at h
      have a1 := plO_le hr
      have a2 := plO_le hs
      have a3 := plO_pos hr h1
      have a4 := plO_pos hs h2
      have := rowO_inj (by omega) (by omega) h
      rw [← rowO_plO hr, ← rowO_plO hs, show plO b r = plO b s by omega]
theorem drop_cons {z : Nat} (h1 : 0 < z) (h2 : z ≤ b.length) : b.drop (z - 1) = b.getD (z - 1) 0 :: b.drop z := by
  rw [List.drop_eq_getElem_cons (by omega : z - 1 < b.length), show z - 1 + 1 = z by omega]
  congr 1
  rw [List.getD_eq_getElem?_getD, List.getElem?_eq_getElem (by omega : z - 1 < b.length)]
  rfl
theorem gO_lt {s r : Nat} (hs : s ≤ b.length) (hr : r ≤ b.length) : lk (primN b) (fwdL b) s < lk (primN b) (fwdL b) r ↔ gO b s < gO b r := by
  have hl := fwdL_length b
  have hp := primN_le b
  by_cases h2 : r = primN b
  · rw [h2, gO_prim]
    unfold lk
    rw [if_pos (rfl : primN b = primN b)]
    omega
  by_cases h1 : s = primN b
  · have a1 := gO_pos hr h2
    have a2 := lk_pos (p := primN b) (bs := fwdL b) (by omega) (r := r) (by omega) h2
    rw [h1, gO_prim]
    have : lk (primN b) (fwdL b) (primN b) = 0 := by unfold lk; rw [if_pos rfl]
    omega
  rw [lk_lt_iff (by omega) (by omega) (by omega) h1 h2, by8_fwd hs h1, by8_fwd hr h2]
  have a1 := plO_le hr
  have a2 := plO_le hs
  have a3 := plO_pos hr h2
  have a4 := plO_pos hs h1
  unfold gO
  rw [if_neg h1, if_neg h2, rowO_lt_iff (by omega) (by omega), drop_cons a4 a2, drop_cons a3 a1, less_cons, ← rowO_lt_iff a2 a1, rowO_plO hs, rowO_plO hr]
theorem lk_fwd {r : Nat} (hr : r ≤ b.length) : lk (primN b) (fwdL b) r = gO b r := by
  have hl := fwdL_length b
  have hp := primN_le b
  refine perm_same b.length (lk (primN b) (fwdL b)) (gO b) (fun k hk => ?_) (fun k l hk hl' h => ?_) (fun k hk => gO_le hk) (fun k l hk hl' h => gO_inj hk hl' h) (fun s r hs hr => gO_lt hs hr) hr
  · have := lk_le (p := primN b) (bs := fwdL b) (by omega) (r := k) (by omega)
    omega
  · exact lk_inj (p := primN b) (bs := fwdL b) (by omega) (by omega) (by omega) h
theorem itR_fwd : ∀ k, k ≤ b.length → itR (primN b) (fwdL b) k = rowO b (b.length - k)
  | 0, _ => by rw [Nat.sub_zero, rowO_end]; rfl
  | k + 1, hk => by
    rw [itR, itR_fwd k (by omega), lk_fwd (rowO_le (by omega))]
    unfold gO
    rw [if_neg, plO_rowO (by omega)]
    · rfl
    · intro h
      have := rowO_inj (b := b) (by omega) (Nat.zero_le _) (h.trans rowO_zero.symm)
      omega
theorem wl_fwd (b : List UInt8) : wl (primN b) (fwdL b) = b.length := by
  have hl := fwdL_length b
  have hp := primN_le b
  have h1 := wl_le (p := primN b) (bs := fwdL b) (by omega)
  have h2 := wl_at (p := primN b) (bs := fwdL b) (by omega)
  rw [itR_fwd _ (by omega)] at h2
  have := rowO_inj (b := b) (by omega) (Nat.zero_le _) (h2.trans rowO_zero.symm)
  omega
theorem strW_fwd (b : List UInt8) : strW (primN b) (fwdL b) = b := by
  have hl := fwdL_length b
  have hw : wl (primN b) (fwdL b) = (fwdL b).length := by rw [wl_fwd, hl]
  have hsl := strW_length hw
  apply List.ext_getElem
  · rw [hsl, hl]
  intro i h1 h2
  have h3 := strW_get hw (k := b.length - 1 - i) (by omega)
  rw [hl, show b.length - 1 - (b.length - 1 - i) = i by omega, itR_fwd _ (by omega), by8_fwd (rowO_le (by omega)), plO_rowO (by omega)] at h3
  · rw [List.getD_eq_getElem?_getD, List.getElem?_eq_getElem h1, show b.length - (b.length - 1 - i) - 1 = i by omega, List.getD_eq_getElem?_getD, List.getElem?_eq_getElem h2] at h3
    exact h3
  · intro h
    have := rowO_inj (b := b) (by omega) (Nat.zero_le _) (h.trans rowO_zero.symm)
    omega
end
section
variable {p : Nat} {bs : List UInt8}
end
end Go.Proofs.YtckkmafppfcecaaGreatDoor.Bwt
namespace Go.Proofs.YtckkmafppfcecaaGreatDoor.Bwt
open Go.RowKit Go.Proofs Go.Sort
set_option linter.unusedVariables false
set_option linter.unusedSimpArgs false
theorem small_num : ∀ q : Fin 128, onesN q.val = 0 ∧ headN q.val = q.val ∧ furL q.val = 0 := by decide +kernel
theorem mid_num : ∀ k : Fin 64, onesN (128 + k.val) = 1 ∧ headN (128 + k.val) = k.val := by decide +kernel
theorem big_num : ∀ k : Fin 32, onesN (192 + k.val) = 2 ∧ headN (192 + k.val) = k.val := by decide +kernel
theorem ofN (n : Nat) : (UInt8.ofNat n).toNat = n % 256 := UInt8.toNat_ofNat'
theorem intL_putN (q : Nat) (hq : q ≤ 65536) (ys : List UInt8) : intL (putN q ++ ys) = (q, ys, 0) := by
  unfold putN
  by_cases h : q ≤ 127
  · rw [if_pos h]
    obtain ⟨h1, h2, h3⟩ := small_num ⟨q, by omega⟩
    simp only at h1 h2 h3
    have e : (([UInt8.ofNat q] ++ ys).getD 0 0).toNat = q := by show (UInt8.ofNat q).toNat = q; rw [ofN]; omega
    unfold intL
    rw [if_neg (by simp), e, if_neg (by omega), h1, if_neg (by simp), h2]
    rw [show numTo ([UInt8.ofNat q] ++ ys) q 0 = q from rfl, if_neg (by rw [h3]; omega)]
    rfl
  · rw [if_neg h]
    by_cases h' : q ≤ 16383
    · rw [if_pos h']
      obtain ⟨k, hk⟩ : ∃ k, k = q / 256 := ⟨_, rfl⟩
      have hk64 : k < 64 := by omega
      obtain ⟨h1, h2⟩ := mid_num ⟨k, hk64⟩
      simp only at h1 h2
      have h3 := furL_mid (n := q) (by omega) h'
      rw [← hk]
      have e0 : (([UInt8.ofNat (128 + k), UInt8.ofNat q] ++ ys).getD 0 0).toNat = 128 + k := by show (UInt8.ofNat (128 + k)).toNat = _; rw [ofN]; omega
      have e1 : (([UInt8.ofNat (128 + k), UInt8.ofNat q] ++ ys).getD 1 0).toNat = q % 256 := by show (UInt8.ofNat q).toNat = _; rw [ofN]
      unfold intL
      rw [if_neg (by simp), e0, if_neg (by omega), h1, if_neg (by simp), h2]
      have en : numTo ([UInt8.ofNat (128 + k), UInt8.ofNat q] ++ ys) k 1 = q := by simp only [numTo]; rw [e1]; omega
      rw [en, if_neg (by rw [h3]; omega)]
      rfl
    · rw [if_neg h']
      obtain ⟨k, hk⟩ : ∃ k, k = q / 65536 := ⟨_, rfl⟩
      have hk2 : k < 32 := by omega
      obtain ⟨h1, h2⟩ := big_num ⟨k, hk2⟩
      simp only at h1 h2
      have h3 := furL_big (n := q) (by omega) (by omega)
      rw [← hk]
      have e0 : (([UInt8.ofNat (192 + k), UInt8.ofNat (q / 256), UInt8.ofNat q] ++ ys).getD 0 0).toNat = 192 + k := by show (UInt8.ofNat (192 + k)).toNat = _; rw [ofN]; omega
      have e1 : (([UInt8.ofNat (192 + k), UInt8.ofNat (q / 256), UInt8.ofNat q] ++ ys).getD 1 0).toNat = q / 256 % 256 := by show (UInt8.ofNat (q / 256)).toNat = _; rw [ofN]
      have e2 : (([UInt8.ofNat (192 + k), UInt8.ofNat (q / 256), UInt8.ofNat q] ++ ys).getD 2 0).toNat = q % 256 := by show (UInt8.ofNat q).toNat = _; rw [ofN]
      unfold intL
      rw [if_neg (by simp), e0, if_neg (by omega), h1, if_neg (by simp), h2]
      have en : numTo ([UInt8.ofNat (192 + k), UInt8.ofNat (q / 256), UInt8.ofNat q] ++ ys) k 2 = q := by simp only [numTo]; rw [e1, e2]; omega
      rw [en, if_neg (by rw [h3]; omega)]
      rfl
theorem inv_fwdQ (bs : List UInt8) (h : bs.length ≤ 65536) : invRes (fwdL bs) (primN bs : Int) = bs ∧ invErr (fwdL bs) (primN bs : Int) = 0 := by
  have hl := fwdL_length bs
  have hp := primN_le bs
  have hs := strW_fwd bs
  have hw := wl_fwd bs
  have hL : limE (fwdL bs).length (primN bs : Int) = 0 := by unfold limE; rw [if_neg (by omega), if_neg (by omega)]
  unfold strW at hs
  unfold invRes invErr invL invE
  rw [hL, if_pos rfl, if_pos rfl, Int.toNat_natCast, hw, if_neg (by omega), if_neg (by omega)]
  exact ⟨hs, rfl⟩
theorem unpack_packQ {bs : List UInt8} (h : (packQ bs).2 = 0) : unpackRes (packQ bs).1 = (bs, 0) := by
  unfold packQ at h ⊢
  split at h
  · cases h
  rename_i a1
  rw [if_neg a1]
  split at h
  · cases h
  rename_i a2
  rw [if_neg a2]
  have hp := primN_le bs
  have hi := inv_fwdQ bs (by omega)
  show unpackRes (putN (primN bs) ++ fwdL bs) = _
  unfold unpackRes
  rw [if_neg a2, intL_putN _ (by omega)]
  dsimp only
  rw [if_neg (by simp), hi.1, hi.2]
theorem invRes_length (bs : List UInt8) (p : Int) : (invRes bs p).length ≤ bs.length := by
  unfold invRes
  split
  · rename_i h
    have hp : p.toNat ≤ bs.length := by
      unfold limE at h
      split at h
      · cases h
      · split at h
        · cases h
        · omega
    unfold invL
    split
    · exact Nat.zero_le _
    · unfold backL
      rw [List.length_reverse, backTo_length]
      exact wl_le hp
  · exact Nat.zero_le _
theorem unpackRes_length (bs : List UInt8) : (unpackRes bs).1.length ≤ 65536 := by
  have hl := intL_len bs
  unfold unpackRes
  split
  · exact Nat.zero_le _
  · split
    · exact Nat.zero_le _
    · exact Nat.le_trans (invRes_length _ _) (by omega)
theorem packQ_err {bs : List UInt8} (h : (packQ bs).2 ≠ 0) : (packQ bs).2 = 5 := by
  unfold packQ at h ⊢
  split
  · rfl
  · rename_i a; rw [if_neg a] at h
    split
    · rfl
    · rename_i b; rw [if_neg b] at h; exact absurd rfl h
end Go.Proofs.YtckkmafppfcecaaGreatDoor.Bwt

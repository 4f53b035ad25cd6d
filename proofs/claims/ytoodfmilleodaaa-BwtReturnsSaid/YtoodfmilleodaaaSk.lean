/- slices.Collect, Sort, Sorted at bytes; what is packed is unpacked. The walk of the law BwtReturns. -/
import Derived.Test.YtoodfmilleodaaaSi
import Derived.Test.YtoodfmilleodaaaCf
import Derived.Test.YtoodfmilleodaaaBq
import Derived.Test.YtoodfmilleodaaaCe
namespace Go.Proofs.Ytoodfmilleodaaa
open Go.RowKit Go.Proofs Go.Sort Go.Shelf
set_option linter.unusedVariables false
set_option linter.unusedSimpArgs false

theorem collect_any (A : Option Addr) (n c bx : Nat) (bs : List UInt8) (w : World) (hx : Bytes w A n c bs) (hn : n ≤ 65536) (hbx : Boxed w bx 22 (.slice A n c)) :
    Calls Try.prog 56 #[.func (.func 58) #[] #[.pointer (some ⟨bx, 0, none⟩)]] w fun e w' => ∃ A2 c2, e = .returned (.slice A2 n c2) ∧ Own encB w' w.heap.size 5 A2 n c2 bs ∧ Below w.heap.size w w' := by
  have H := Lib.hid (appendSeq_any A n c bx bs w hx hn hbx)
  go_enter Try.func56, Try.ntmps56
  go_wp2_with fail
  refine H.out.mono ?_
  rintro e w1 ⟨A2, c2, rfl, h1, h2⟩
  go_wp2_with fail
  go_ret
  exact ⟨A2, c2, rfl, h1, h2⟩

theorem insertion_nil (w : World) : Calls Try.prog 88 #[.slice none 0 0, .int .i64 0, .int .i64 0] w fun e w' => e = .returned (.tuple #[]) ∧ w' = w := by
  go_enter Try.func88, Try.ntmps88
  go_wp2
  refine wp_loop_rounds 1 ?_
  rw [rounds_succ]
  go_wp2
  go_end0
  exact ⟨rfl, rfl⟩
theorem pdq_nil (lim : Nat) (w : World) : Calls Try.prog 80 #[.slice none 0 0, .int .i64 0, .int .i64 0, .int .i64 lim] w fun e w' => e = .returned (.tuple #[]) ∧ w' = w := by
  go_enter Try.func80, Try.ntmps80
  go_wp2
  refine wp_loop_rounds 1 ?_
  rw [rounds_succ]
  go_wp2_with fail
  refine (insertion_nil _).mono ?_
  rintro e w1 ⟨rfl, rfl⟩
  go_wp2_with fail
  (try simp only [Exit.inBlock, Exit.then])
  refine bodyPost_ret (results_none rfl _ _ _) rfl ?_
  exact ⟨rfl, rfl⟩

set_option maxHeartbeats 1000000 in
theorem sort_own {A : Option Addr} {n c B : Nat} {bs : List UInt8} {w : World} (h : Own encB w B 5 A n c bs) (hn : n ≤ 65536) (hB : B ≤ w.heap.size) :
    Calls Try.prog 57 #[.slice A n c] w fun e w' => e = .returned (.tuple #[]) ∧ Bytes w' A n c (srtL bs) ∧ Below B w w' := by
  have hLen : ∀ W : World, Calls Try.prog 81 #[.int .u64 (n : Int)] W fun e w' => e = .returned (.int .i64 (bitsLen n : Nat)) ∧ w' = W := fun W => by
    have h := Try.bits_Len (n : Int) W (by omega) (by omega)
    rwa [Int.toNat_natCast, bitLen_eq _ (by omega)] at h
  have hk : bitsLen n ≤ 62 := (bitsLen_le_iff n 62).2 (by omega)
  obtain ⟨lim, hlim⟩ : ∃ lim, lim = bitsLen n := ⟨_, rfl⟩
  rw [← hlim] at hLen hk
  have HLen := Lib.hid hLen
  clear hLen hlim
  have hl := h.length
  have hw : IntKind.u64.wrap (n : Int) = (n : Int) := by simp [IntKind.wrap, IntKind.bits, IntKind.signed]; omega
  have hcal : Calls Try.prog 80 #[.slice A n c, .int .i64 0, .int .i64 n, .int .i64 lim] w fun e w' => e = .returned (.tuple #[]) ∧ Bytes w' A n c (srtL bs) ∧ Below B w w' := by
    by_cases hv : Value.slice A n c = .slice none 0 0
    · injection hv with h1 h2 h3
      subst h1 h2 h3
      obtain rfl : bs = [] := List.length_eq_zero_iff.1 hl
      refine (pdq_nil lim w).mono ?_
      rintro e w' ⟨rfl, rfl⟩
      exact ⟨rfl, ⟨by rw [srtL_length]; rfl, Nat.le_refl _, fun hp => absurd hp (by omega)⟩, Below.refl _ _⟩
    · obtain ⟨g, cap, hv', hBg, hlt, hnc, hm, hlen, hH⟩ := Lib.holds_of_ownsRow h hv
      injection hv' with h1 h2 h3
      subst h1 h3
      have hsz : bs.toArray.size = n := by simpa using hlen
      have hp := pdq_any g 0 c n 0 n lim bs.toArray w (by omega) (Nat.zero_le _) (by rw [hsz]; exact Nat.le_refl _) (by rw [hsz]; omega) (by omega) (Or.inl rfl) ⟨⟨hH, hlt⟩, World.grownBy.refl _ _⟩
      rw [hsz] at hp
      refine hp.mono ?_
      rintro e w' ⟨rfl, d', hP, hS, hA⟩
      have hd : d'.size = n := by rw [hP.1, hsz]
      have e1 : d'.toList = srtL bs := sorted_is (by rw [hlen]; exact hP) (by rw [hlen]; exact hS)
      refine ⟨rfl, ⟨by rw [srtL_length]; exact hlen, hnc, fun hp => ⟨g, 0, rfl, hA.1.2, fun i hi => ?_⟩⟩, (Below.refl _ _).grown hA.2 hB (fun k e => by cases e; exact hBg)⟩
      rw [hA.cell (by omega), ← e1]
      unfold gA gb
      congr 3
      rw [getElem!_pos d' i (by omega), List.getD_eq_getElem?_getD, List.getElem?_eq_getElem (by simp; omega)]
      simp
  have Hcal := Lib.hid hcal
  clear hcal h hk
  go_enter Try.func57, Try.ntmps57
  go_wp2_with fail
  refine (HLen.out _).mono ?_
  rintro e w1 ⟨rfl, hw1⟩
  obtain rfl : w = w1 := hw1.symm
  go_wp2_with fail
  refine Hcal.out.mono ?_
  rintro e w1 ⟨rfl, h1, h2⟩
  go_wp2_with fail
  go_end0
  exact ⟨rfl, h1, h2⟩

theorem sorted_any (A : Option Addr) (n c bx : Nat) (bs : List UInt8) (w : World) (hx : Bytes w A n c bs) (hn : n ≤ 65536) (hbx : Boxed w bx 22 (.slice A n c)) :
    Calls Try.prog 34 #[.func (.func 58) #[] #[.pointer (some ⟨bx, 0, none⟩)]] w fun e w' => ∃ A2 c2, e = .returned (.slice A2 n c2) ∧ Bytes w' A2 n c2 (srtL bs) ∧ Below w.heap.size w w' := by
  have H := Lib.hid (collect_any A n c bx bs w hx hn hbx)
  go_enter Try.func34, Try.ntmps34
  go_wp2_with fail
  refine H.out.mono ?_
  rintro e w1 ⟨A2, c2, rfl, h1, h2⟩
  have H2 := Lib.hid (sort_own h1 hn h2.size)
  clear h1 H
  go_wp2_with fail
  refine H2.out.mono ?_
  rintro e w2 ⟨rfl, h3, h4⟩
  go_wp2_with fail
  go_ret
  exact ⟨A2, c2, rfl, h3, h2.trans h4⟩

/-! ### Packed and unpacked -/
theorem small_num : ∀ q : Fin 128, onesN q.val = 0 ∧ headN q.val = q.val ∧ furL q.val = 0 := by decide +kernel
theorem two_num : ∀ q : Fin 256, 128 ≤ q.val → furL q.val = 1 := by decide +kernel
theorem intL_put (q : Nat) (hq : q ≤ 255) (ys : List UInt8) : intL (putL q ++ ys) = (q, ys, 0) := by
  unfold putL
  by_cases h : q ≤ 127
  · rw [if_pos h]
    obtain ⟨h1, h2, h3⟩ := small_num ⟨q, by omega⟩
    simp only at h1 h2 h3
    have e : (([UInt8.ofNat q] ++ ys).getD 0 0).toNat = q := by simp; omega
    unfold intL
    rw [if_neg (by simp), e, if_neg (by omega), h1, if_neg (by simp), h2]
    rw [show numTo ([UInt8.ofNat q] ++ ys) q 0 = q from rfl, if_neg (by rw [h3]; omega)]
    rfl
  · rw [if_neg h]
    have h3 := two_num ⟨q, by omega⟩ (by show 128 ≤ q; omega)
    simp only at h3
    have e0 : (([128, UInt8.ofNat q] ++ ys).getD 0 0).toNat = 128 := rfl
    have e1 : (([128, UInt8.ofNat q] ++ ys).getD 1 0).toNat = q := by simp; omega
    have h1 : onesN 128 = 1 := by decide +kernel
    have h2 : headN 128 = 0 := by decide +kernel
    unfold intL
    rw [if_neg (by simp), e0, if_neg (by omega), h1, if_neg (by simp), h2]
    have en : numTo ([128, UInt8.ofNat q] ++ ys) 0 1 = q := by simp only [numTo]; rw [e1]; omega
    rw [en, if_neg (by rw [h3]; omega)]
    rfl
theorem inv_fwd (bs : List UInt8) (h : bs.length ≤ 65536) : invRes (fwdL bs) (primN bs : Int) = bs ∧ invErr (fwdL bs) (primN bs : Int) = 0 := by
  have hl := fwdL_length bs
  have hp := primN_le bs
  have h := inv_ok (q := primN bs) (bs := fwdL bs) (by omega) (by omega) (by rw [wl_fwd, hl])
  rw [strW_fwd] at h
  exact h
theorem unpack_pack (bs : List UInt8) (h : bs.length ≤ 200) : unpackRes (packRes bs).1 = (bs, 0) := by
  have hp := primN_le bs
  have hl := fwdL_length bs
  have hq := putL_le (primN bs)
  have hi := inv_fwd bs (by omega)
  unfold packRes
  rw [if_neg (by omega)]
  unfold unpackRes
  rw [if_neg (by simp only [List.length_append]; omega), intL_put _ (by omega)]
  simp only [ne_eq, not_true_eq_false, if_false]
  rw [hi.1, hi.2]
end Go.Proofs.Ytoodfmilleodaaa
namespace Go.Proofs.Ytoodfmilleodaaa
open Go.RowKit Go.Proofs Go.Sort Go.Shelf
set_option linter.unusedVariables false
set_option linter.unusedSimpArgs false

theorem packRes_le (bs : List UInt8) (h : bs.length ≤ 200) : (packRes bs).1.length ≤ 1000000000 ∧ (packRes bs).2 = 0 := by
  have hp := primN_le bs
  have hl := fwdL_length bs
  have hq := putL_le (primN bs)
  unfold packRes
  rw [if_neg (by omega)]
  exact ⟨by simp only [List.length_append]; omega, rfl⟩
set_option maxRecDepth 100000 in
set_option maxHeartbeats 2000000 in
theorem bwtReturns_any (A : Option Addr) (n c : Nat) (bs : List UInt8) (w : World) (hx : Bytes w A n c bs) :
    Calls Try.prog 11 #[.slice A n c] w fun e w' => e = .returned (.bool true) ∧ Below w.heap.size w w' := by
  have Hn := Lib.hid hx.1
  by_cases h1 : 200 < n
  · have d1 : decide ((200 : Int) < (n : Int)) = true := by simp; omega
    have d1' : decide (200 < n) = true := by simp; omega
    go_enter Try.func11, Try.ntmps11
    go_wp2_with fail
    refine (awake_any _).mono ?_
    rintro e w1 ⟨rfl, hb1⟩
    go_wp2_with fail
    go_ret
    exact ⟨rfl, hb1⟩
  · have d1 : decide ((200 : Int) < (n : Int)) = false := by simp; omega
    have d1' : decide (200 < n) = false := by simp; omega
    have hfr : Hid (fwdRes bs = (fwdL bs, primN bs, 0)) := by show _ = _; unfold fwdRes; rw [Hn.out, if_neg (by omega)]
    have hiv := Lib.hid (inv_fwd bs (by have := Hn.out; omega))
    have hup := Lib.hid (unpack_pack bs (by have := Hn.out; omega))
    have hpl : Hid (primN bs ≤ bs.length) := primN_le bs
    have hfl : Hid ((fwdL bs).length = n) := by show _ = _; rw [fwdL_length]; exact Hn.out
    have hsr : Hid (srtL (fwdL bs) = srtL bs) := srtL_perm (fwdL_perm bs)
    have hF := forward_any A n c bs w hx (by omega)
    rw [hfr.out] at hF
    have HF := Lib.hid hF; clear hF
    go_enter Try.func11, Try.ntmps11
    go_wp2_with fail
    refine HF.out.mono ?_
    rintro e w1 ⟨A1, n1, c1, rfl, k1, hb1⟩
    obtain rfl : n1 = n := by rw [← k1.1]; exact hfl.out
    have hx1 := hx.below hb1
    have b1 := hb1
    clear HF hb1
    obtain ⟨p, hp⟩ : ∃ p, p = primN bs := ⟨_, rfl⟩
    have h2 := inverseP_any A1 n1 c1 (p : Int) _ w1 k1 (by omega)
    rw [hp, hiv.out.1, hiv.out.2] at h2
    have H2 := Lib.hid h2; clear h2
    go_wp2_with fail
    refine H2.out.mono ?_
    rintro e w2 ⟨A2, n2, c2, rfl, k2, hb2⟩
    obtain rfl : n2 = n1 := by rw [← k2.1]; exact Hn.out
    have b2 := b1.trans (hb2.mono b1.size)
    have hx2 := hx1.below hb2
    have k1 := k1.below hb2
    clear H2 hb2
    have hP := pack_any A n2 c bs w2 hx2 (by omega) (.inl (by omega))
    have HP := Lib.hid hP; clear hP
    go_wp2_with fail
    refine HP.out.mono ?_
    rintro e w3 ⟨A3, n3, c3, rfl, k3, hb3⟩
    have hpk : (packRes bs).1.length ≤ 1000000000 ∧ (packRes bs).2 = 0 := packRes_le bs (by have := Hn.out; omega)
    have hn3 : n3 ≤ 1000000000 := by rw [← k3.1]; exact hpk.1
    have hp0 : (((packRes bs).2 : Nat) : Int) = 0 := by rw [hpk.2]; rfl
    rw [hp0]
    clear hp0 hpk
    have b3 := b2.trans (hb3.mono b2.size)
    have hx3 := hx2.below hb3
    have k1 := k1.below hb3
    have k2 := k2.below hb3
    clear HP hb3 hx2
    have hU := unpack_any A3 n3 c3 _ w3 k3 hn3
    rw [hup.out] at hU
    have HU := Lib.hid hU; clear hU
    go_wp2_with fail
    refine HU.out.mono ?_
    rintro e w4 ⟨A4, n4, c4, rfl, k4, hb4⟩
    have b4 := b3.trans (hb4.mono b3.size)
    have hx4 := hx3.below hb4
    have k1 := k1.below hb4
    have k2 := k2.below hb4
    clear HU hb4 hx3 k3
    have h5 := equalB_any _ _ _ _ _ _ _ _ _ k2 hx4
    rw [decide_eq_true rfl] at h5
    have H5 := Lib.hid h5; clear h5
    have h6 := equalB_any _ _ _ _ _ _ _ _ _ k4 hx4
    rw [decide_eq_true rfl] at h6
    have H6 := Lib.hid h6; clear h6
    have p1 : decide ((primN bs : Int) < 0) = false := by simp
    have p2 : decide ((n2 : Int) < (primN bs : Int)) = false := by have := hpl.out; have := Hn.out; simp; omega
    have p3 : decide (n2 < primN bs) = false := by have := hpl.out; have := Hn.out; simp; omega
    go_wp2_with fail
    refine H5.out.mono ?_
    rintro e w5 ⟨rfl, hw5⟩
    obtain rfl : w4 = w5 := hw5.symm
    clear H5 k2
    go_wp2_with fail
    refine H6.out.mono ?_
    rintro e w5 ⟨rfl, hw5⟩
    obtain rfl : w4 = w5 := hw5.symm
    clear H6 k4
    have hV := Lib.hid (values_any A1 n2 c1 w4)
    go_wp2_with fail
    refine hV.out.mono ?_
    rintro e w5 ⟨rfl, hw5⟩
    have hb5 : Below w4.heap.size w4 w5 := by rw [hw5]; exact balloc (Below.refl _ _) _
    have hbx : Boxed w5 w4.heap.size 22 (.slice A1 n2 c1) := by rw [hw5]; exact Boxed.new w4 _ _
    have k1 := k1.below hb5
    have hx5 := hx4.below hb5
    have b5 := b4.trans (hb5.mono b4.size)
    clear hV hw5 hb5 hx4
    have hS := Lib.hid (sorted_any A1 n2 c1 w4.heap.size (fwdL bs) w5 k1 (by omega) hbx)
    go_wp2_with fail
    refine hS.out.mono ?_
    rintro e w6 ⟨A6, c6, rfl, k6, hb6⟩
    have hx6 := hx5.below hb6
    have b6 := b5.trans (hb6.mono b5.size)
    clear hS hb6 hbx k1 hx5
    have hV := Lib.hid (values_any A n2 c w6)
    go_wp2_with fail
    refine hV.out.mono ?_
    rintro e w7 ⟨rfl, hw7⟩
    have hb7 : Below w6.heap.size w6 w7 := by rw [hw7]; exact balloc (Below.refl _ _) _
    have hbx : Boxed w7 w6.heap.size 22 (.slice A n2 c) := by rw [hw7]; exact Boxed.new w6 _ _
    have k6 := k6.below hb7
    have hx7 := hx6.below hb7
    have b7 := b6.trans (hb7.mono b6.size)
    clear hV hw7 hb7 hx6
    have hS := Lib.hid (sorted_any A n2 c w6.heap.size bs w7 hx7 (by omega) hbx)
    go_wp2_with fail
    refine hS.out.mono ?_
    rintro e w8 ⟨A8, c8, rfl, k8, hb8⟩
    have k6 := k6.below hb8
    have b8 := b7.trans (hb8.mono b7.size)
    clear hS hb8 hbx hx7
    rw [hsr.out] at k6
    have h9 := equalB_any _ _ _ _ _ _ _ _ _ k6 k8
    rw [decide_eq_true rfl] at h9
    have H9 := Lib.hid h9; clear h9 k6 k8
    go_wp2_with fail
    refine H9.out.mono ?_
    rintro e w9 ⟨rfl, hw9⟩
    obtain rfl : w8 = w9 := hw9.symm
    clear H9
    go_wp2_with fail
    refine (awake_any _).mono ?_
    rintro e wz ⟨rfl, hbz⟩
    go_wp2_with fail
    go_ret
    exact ⟨rfl, b8.trans (hbz.mono b8.size)⟩
end Go.Proofs.Ytoodfmilleodaaa

/- Inverse, Count and Unpack of the reference of layer 33. -/
import Derived.Test.YtoodfmilleodaaaBr
namespace Go.Proofs.Ytoodfmilleodaaa
open Go.RowKit Go.Proofs Go.Sort
set_option linter.unusedVariables false

theorem rev_step (l : List UInt8) {j : Nat} (hj : j < l.length) : (l.drop j).reverse = (l.drop (j + 1)).reverse ++ [l.getD j 0] := by
  rw [List.drop_eq_getElem_cons hj, List.reverse_cons]
  simp [List.getD, hj]

set_option maxRecDepth 100000 in
set_option maxHeartbeats 4000000 in
theorem inverseR_any (A : Option Addr) (n c : Nat) (p : Int) (bs : List UInt8) (w : World) (hx : Bytes w A n c bs) (hn : n ≤ 1000000000) :
    Calls Try.prog 26 #[.slice A n c, .int .i64 p] w (RetBytes w (invRes bs p) (invErr bs p)) := by
  have Hn := Lib.hid hx.1
  have hcal := linksR_any A n c p bs w hx hn
  by_cases h : limE n p = 0
  · obtain ⟨h1, h2, h3⟩ := limE_zero h
    have hR : Hid (invRes bs p = invL p.toNat bs ∧ invErr bs p = invE p.toNat bs) := by show _ ∧ _; unfold invRes invErr; rw [Hn.out, if_pos h, if_pos h]; exact ⟨rfl, rfl⟩
    have hL : lkRes bs p = lkAll p.toNat bs := by unfold lkRes; rw [Hn.out, if_pos h]
    rw [h, hL] at hcal
    clear h hL
    obtain ⟨q, rfl⟩ : ∃ q : Nat, p = (q : Int) := ⟨p.toNat, by omega⟩
    rw [Int.toNat_natCast] at hR hcal
    have Hcal := Lib.hid hcal; clear hcal
    have hq : q ≤ n := by omega
    have hq' : Hid (q ≤ bs.length) := by show _ ≤ _; rw [Hn.out]; exact hq
    clear h2 h3
    go_enter Try.func26, Try.ntmps26
    go_wp2_with fail
    refine Hcal.out.mono ?_
    rintro e w1 ⟨A1, n1, c1, rfl, hi1, hb1⟩
    have hn1 : n1 = n + 1 := by rw [← hi1.1]; unfold lkAll; rw [lkTo_length, Hn.out]
    subst hn1
    obtain ⟨b, off, rfl, hbl, hcell⟩ := hi1.get (k := 0) (by omega)
    clear hcell Hcal
    have hx1 := hx.below hb1
    go_wp2_with fail
    go_loopw [8, 9] (fun o i wr => ∃ (k : Nat) (A3 : Option Addr) (c3 : Nat), k ≤ wl q bs ∧ i = .int .i64 (itR q bs k : Int) ∧ o = .slice A3 k c3 ∧ Own encB wr w1.heap.size 5 A3 k c3 (backTo q bs k) ∧ Below w1.heap.size w1 wr) (fun _ i _ => wl q bs + 1 - itIx q bs (intOf i).toNat)
    case atStart => exact ⟨0, none, 0, Nat.zero_le _, rfl, rfl, Own.nil _ _ _ _, Below.refl _ _⟩
    case round =>
      obtain ⟨k, A3, c3, hk, rfl, rfl, ho3, hb3⟩ := hrel
      have hw := wl_le hq'.out
      rw [Hn.out] at hw
      by_cases hlt : k < wl q bs
      · have hne := wl_ne hlt
        have hr : itR q bs k ≤ n := by rw [← Hn.out]; exact itR_le hq'.out k
        have c1 := (hi1.below hb3).cell (k := itR q bs k) (by omega)
        have e1 : gi (lkAll q bs) (itR q bs k) = (itR q bs (k + 1) : Int) := by rw [gi_lkAll hq'.out (by rw [Hn.out]; exact hr)]; rfl
        rw [e1] at c1
        clear e1
        have HB := Lib.hid (byte_any A n c q (itR q bs k) bs wr (hx1.below hb3) h1 hq hr hne)
        have HI := Lib.hid (And.intro (itIx_at hq'.out (Nat.le_of_lt hlt)) (itIx_at hq'.out hlt))
        have hnext := Lib.hid (backTo_next q bs k)
        have hbv : Hid (encB (by8 q bs (itR q bs k)) = .int .u8 (byteR bs q (itR q bs k))) := by show _ = _; rw [byteR_eq]; rfl
        have m1 : Hid (k + 1 ≤ maxLen ∧ (k + 1) * 1 ≤ 140737488355328) := ⟨by simp [maxLen]; omega, by omega⟩
        have hB3 := hb3.size
        obtain ⟨y, hy⟩ : ∃ y, y = by8 q bs (itR q bs k) := ⟨_, rfl⟩
        rw [← hy] at hnext hbv
        clear hy
        obtain ⟨r', hr'⟩ : ∃ r', r' = itR q bs (k + 1) := ⟨_, rfl⟩
        have Hr' := Lib.hid hr'
        obtain ⟨r, hr0⟩ : ∃ r, r = itR q bs k := ⟨_, rfl⟩
        rw [← hr'] at c1 HI
        rw [← hr0] at c1 hne hr HB HI hbv ⊢
        clear hr' hr0
        obtain ⟨bv, hbv'⟩ : ∃ bv, bv = byteR bs q r := ⟨_, rfl⟩
        rw [← hbv'] at HB hbv
        clear hbv'
        have d1 : ((r : Int) != (q : Int)) = true := by simp; omega
        have d1' : (r != q) = true := by simp; omega
        clear hne
        have c1' : ∀ W, Below wr.heap.size wr W → W.cell? ⟨b, off + r, none⟩ = some (.int .i64 (r' : Int)) := fun W hb => ((hi1.below hb3).below hb).cell (k := r) (by omega) |>.trans (by
          have := (hi1.below hb3).cell (k := r) (by omega)
          rw [c1] at this
          exact this.symm)
        go_wp2_with fail
        refine HB.out.mono ?_
        rintro e w5 ⟨rfl, hw5⟩
        obtain rfl : wr = w5 := hw5.symm
        go_wp2_with (at_builtin; refine wpList_pushv (enc := encB) rfl (.tmp 28) (.tmp 33) rfl uB infoB encB_one rfl rfl ho3 hB3 y _ hbv.out rfl m1.out.1 m1.out.2 ?_; intro A7 c7 W7 ho7 hb7; have c7' := (hi1.below (hb3.trans hb7)).cell (k := r) (by omega); have c8 := (hi1.below hb3).cell (k := r) (by omega); rw [c1] at c8; rw [← c8] at c7'; clear c8)
        go_roundw
        case rel => exact ⟨k + 1, A7, c7, hlt, by rw [Hr'.out], rfl, by rw [hnext.out]; exact ho7, hb3.trans hb7⟩
        case measure => simp only [intOf, Int.toNat_natCast]; rw [HI.out.1, HI.out.2]; omega
      · obtain rfl : k = wl q bs := by omega
        rw [wl_at hq'.out]
        have hown' : Own encB wr w1.heap.size 5 A3 (wl q bs) c3 (backL q bs) := ho3
        by_cases hwn : wl q bs < n
        · have hR2 : Hid (invL q bs = [] ∧ invE q bs = 3) := by show _ ∧ _; unfold invL invE; rw [Hn.out, if_pos hwn, if_pos hwn]; exact ⟨rfl, rfl⟩
          obtain ⟨m, hm⟩ : ∃ m, m = wl q bs := ⟨_, rfl⟩
          rw [← hm] at hwn ⊢
          clear hm
          have d1 : ((m : Int) != (n : Int)) = true := by simp; omega
          have d1' : (m != n) = true := by simp; omega
          go_wp2_with fail
          go_ret2
          rw [hR.out.1, hR.out.2, hR2.out.1, hR2.out.2]
          exact RetBytes.err rfl (hb1.trans (hb3.mono hb1.size))
        · have hR2 : Hid (invL q bs = (backL q bs).reverse ∧ invE q bs = 0) := by show _ ∧ _; unfold invL invE; rw [Hn.out, if_neg hwn, if_neg hwn]; exact ⟨rfl, rfl⟩
          have hbk := hown'.bytesB
          have hlen : Hid ((backL q bs).length = n) := by show _ = _; rw [hown'.length]; omega
          obtain ⟨m, hm⟩ : ∃ m, m = wl q bs := ⟨_, rfl⟩
          rw [← hm] at hwn hw hbk ⊢
          obtain rfl : m = n := by omega
          clear hm hwn ho3 hown'
          obtain ⟨bl, hbl'⟩ : ∃ bl, bl = backL q bs := ⟨_, rfl⟩
          rw [← hbl'] at hbk hR2 hlen
          clear hbl'
          obtain ⟨W0, rfl⟩ : ∃ W0, W0 = wr := ⟨_, rfl⟩
          go_wp2_with fail
          go_loopw [10, 11] (fun o i wr => ∃ (j s : Nat) (A4 : Option Addr) (c4 : Nat), j + s = m ∧ i = .int .i64 ((s : Int) - 1) ∧ o = .slice A4 j c4 ∧ Own encB wr W0.heap.size 5 A4 j c4 (bl.drop s).reverse ∧ Below W0.heap.size W0 wr) (fun _ i _ => (intOf i + 1).toNat)
          case atStart => exact ⟨0, m, none, 0, by omega, rfl, rfl, by rw [List.drop_of_length_le (by rw [hlen.out]; exact Nat.le_refl _)]; exact Own.nil _ _ _ _, Below.refl _ _⟩
          case round =>
            obtain ⟨j, s, A4, c4, hjs, rfl, rfl, ho4, hb4⟩ := hrel
            rcases Nat.eq_zero_or_pos s with h0 | h0
            · have he : Hid (bl.drop s = bl) := by show _ = _; rw [h0]; rfl
              have es : (s : Int) - 1 = -1 := by omega
              rw [es]
              clear h0 es
              go_wp2_with fail
              go_ret2
              rw [hR.out.1, hR.out.2, hR2.out.1, hR2.out.2]
              rw [he.out] at ho4
              exact RetBytes.mk rfl ho4.bytesB (hb1.trans ((hb3.mono hb1.size).trans (hb4.mono (Nat.le_trans hb1.size hb3.size))))
            · obtain ⟨t, rfl⟩ : ∃ t, s = t + 1 := ⟨s - 1, by omega⟩
              have ec : ((t + 1 : Nat) : Int) - 1 = (t : Int) := by omega
              rw [ec]
              clear ec h0
              obtain ⟨b5, off5, rfl, hb5, hc5⟩ := (hbk.below hb4).get (k := t) (by omega)
              have c5 := hc5 t (by omega)
              clear hc5
              have hstep := Lib.hid (rev_step bl (j := t) (by rw [hlen.out]; omega))
              have hv : Hid (encB (bl.getD t 0) = .int .u8 (gb bl t)) := rfl
              have m1 : Hid (j + 1 ≤ maxLen ∧ (j + 1) * 1 ≤ 140737488355328) := ⟨by simp [maxLen]; omega, by omega⟩
              have hB4 := hb4.size
              have d2 : decide ((0 : Int) ≤ (t : Int)) = true := by simp
              have htm : t < m := by omega
              go_wp2_with (at_builtin; refine wpList_pushv (enc := encB) rfl (.tmp 47) (.tmp 52) rfl uB infoB encB_one rfl rfl ho4 hB4 (bl.getD t 0) _ hv.out rfl m1.out.1 m1.out.2 ?_; intro A7 c7 W7 ho7 hb7)
              go_roundw
              case rel => exact ⟨j + 1, t, A7, c7, by omega, by go_num, rfl, by rw [hstep.out]; exact ho7, hb4.trans hb7⟩
              case measure => simp [intOf]
  · have hR : Hid (invRes bs p = [] ∧ invErr bs p = limE n p) := by show _ ∧ _; unfold invRes invErr; rw [Hn.out, if_neg h, if_neg h]; exact ⟨rfl, rfl⟩
    have Hcal := Lib.hid hcal; clear hcal
    obtain ⟨x, hx'⟩ : ∃ x, x = limE n p := ⟨_, rfl⟩
    rw [← hx'] at Hcal h hR
    clear hx'
    have d0 : (x != 0) = true := by simp; exact h
    go_enter Try.func26, Try.ntmps26
    go_wp2_with fail
    refine Hcal.out.mono ?_
    rintro e w1 ⟨A1, n1, c1, rfl, -, hb1⟩
    go_wp2_with fail
    go_ret2
    rw [hR.out.1, hR.out.2]
    exact RetBytes.err rfl hb1

set_option maxHeartbeats 1000000 in
theorem unpackR_any (A : Option Addr) (n c : Nat) (bs : List UInt8) (w : World) (hx : Bytes w A n c bs) (hn : n ≤ 1000000000) :
    Calls Try.prog 31 #[.slice A n c] w (RetBytes w (unpackRes bs).1 (unpackRes bs).2) := by
  have Hn := Lib.hid hx.1
  by_cases h1 : 65536 < n
  · have hR : Hid (unpackRes bs = ([], 5)) := by show _ = _; unfold unpackRes; rw [Hn.out, if_pos h1]
    have d1 : decide ((65536 : Int) < (n : Int)) = true := by simp; omega
    have d2 : decide (65536 < n) = true := by simp; omega
    go_enter Try.func31, Try.ntmps31
    go_wp2_with fail
    go_ret2
    rw [hR.out]
    exact RetBytes.err rfl (Below.refl _ _)
  · have d1 : decide ((65536 : Int) < (n : Int)) = false := by simp; omega
    have d2 : decide (65536 < n) = false := by simp; omega
    have hU : unpackRes bs = if (intL bs).2.2 ≠ 0 then ([], ((intL bs).2.2 : Int)) else (invRes (intL bs).2.1 ((intL bs).1 : Int), invErr (intL bs).2.1 ((intL bs).1 : Int)) := by unfold unpackRes; rw [Hn.out, if_neg h1]
    have hcal := intR_any A n c bs w hx (by omega)
    have hil := intL_len bs
    rw [Hn.out] at hil
    obtain ⟨x, hxe⟩ : ∃ x, x = intL bs := ⟨_, rfl⟩
    rw [← hxe] at hcal hU hil
    clear hxe
    obtain ⟨v, rest, er⟩ := x
    simp only at hU hil
    have Hcal := Lib.hid hcal; clear hcal
    by_cases he : er = 0
    · subst he
      rw [if_neg (by simp)] at hU
      have HU := Lib.hid hU; clear hU
      go_enter Try.func31, Try.ntmps31
      go_wp2_with fail
      refine Hcal.out.mono ?_
      rintro e w1 ⟨A1, n1, c1, rfl, ho1, hb1⟩
      have hl1 := ho1.length
      simp only at hl1
      have Hc2 := Lib.hid (inverseR_any A1 n1 c1 (v : Int) rest w1 ho1.bytesB (by omega))
      clear Hcal
      go_wp2_with fail
      refine Hc2.out.mono ?_
      rintro e w2 ⟨A2, n2, c2, rfl, hx2, hb2⟩
      go_wp2_with fail
      go_ret2
      rw [HU.out]
      exact RetBytes.mk rfl hx2 (hb1.trans (hb2.mono hb1.size))
    · rw [if_pos he] at hU
      have HU := Lib.hid hU; clear hU
      have d3 : ((er : Int) != 0) = true := by simp; exact he
      clear he
      go_enter Try.func31, Try.ntmps31
      go_wp2_with fail
      refine Hcal.out.mono ?_
      rintro e w1 ⟨A1, n1, c1, rfl, ho1, hb1⟩
      go_wp2_with fail
      go_ret2
      rw [HU.out]
      exact RetBytes.err rfl hb1
end Go.Proofs.Ytoodfmilleodaaa

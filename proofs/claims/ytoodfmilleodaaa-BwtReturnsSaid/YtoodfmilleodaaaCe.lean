/- The walk of the law BwtAccepts. -/
import Derived.Test.YtoodfmilleodaaaCd
namespace Go.Proofs.Ytoodfmilleodaaa
open Go.RowKit Go.Proofs Go.Sort
set_option linter.unusedVariables false

theorem bounds_u16 {a : Int} (h : (Lit.int .u16 a).wf = true) : 0 ≤ a ∧ a ≤ 65535 := by
  simp [Lit.wf, IntKind.min, IntKind.max, IntKind.bits, IntKind.signed] at h
  omega
theorem rem_nat (X n : Nat) : (X : Int).tmod ((n : Int) + 1) = ((X % (n + 1) : Nat) : Int) := by
  rw [Int.tmod_eq_emod_of_nonneg (by omega)]
  exact (Int.natCast_emod X (n + 1)).symm
theorem limE_ok {n q : Nat} (h1 : n ≤ 65536) (h2 : q ≤ n) : limE n (q : Int) = 0 := by unfold limE; rw [if_neg (by omega), if_neg (by omega)]
theorem inv_ok {q : Nat} {bs : List UInt8} (hl : bs.length ≤ 65536) (hq : q ≤ bs.length) (hw : wl q bs = bs.length) : invRes bs (q : Int) = strW q bs ∧ invErr bs (q : Int) = 0 := by
  unfold invRes invErr invL invE
  rw [limE_ok hl hq, if_pos rfl, if_pos rfl, Int.toNat_natCast, hw, if_neg (by omega), if_neg (by omega)]
  exact ⟨rfl, rfl⟩
theorem inv_bad {q : Nat} {bs : List UInt8} (hl : bs.length ≤ 65536) (hq : q ≤ bs.length) (hw : wl q bs < bs.length) : invErr bs (q : Int) = 3 := by
  unfold invErr invE
  rw [limE_ok hl hq, if_pos rfl, Int.toNat_natCast, if_pos hw]
theorem fwd_ok {q : Nat} {bs : List UInt8} (hl : bs.length ≤ 65536) (hq : q ≤ bs.length) (hw : wl q bs = bs.length) : fwdRes (strW q bs) = (bs, q, 0) := by
  unfold fwdRes
  rw [strW_length hw, if_neg (by omega), (fwdL_strW hq hw).1, (fwdL_strW hq hw).2]

set_option maxRecDepth 100000 in
set_option maxHeartbeats 2000000 in
theorem bwtAccepts_any (A : Option Addr) (n c X : Nat) (bs : List UInt8) (w : World) (hx : Bytes w A n c bs) (hX : X ≤ 65535) :
    Calls Try.prog 3 #[.slice A n c, .int .u16 (X : Int)] w fun e w' => e = .returned (.bool true) ∧ Below w.heap.size w w' := by
  have Hn := Lib.hid hx.1
  by_cases h1 : 200 < n
  · have d1 : decide ((200 : Int) < (n : Int)) = true := by simp; omega
    have d1' : decide (200 < n) = true := by simp; omega
    go_enter Try.func3, Try.ntmps3
    go_wp2_with fail
    refine (awake_any _).mono ?_
    rintro e w1 ⟨rfl, hb1⟩
    go_wp2_with fail
    go_ret
    exact ⟨rfl, hb1⟩
  · have d1 : decide ((200 : Int) < (n : Int)) = false := by simp; omega
    have d1' : decide (200 < n) = false := by simp; omega
    have hrem := rem_nat X n
    have hq : X % (n + 1) ≤ n := by have := Nat.mod_lt X (by omega : 0 < n + 1); omega
    obtain ⟨q, hqe⟩ : ∃ q, q = X % (n + 1) := ⟨_, rfl⟩
    rw [← hqe] at hrem hq
    clear hqe
    have hq' : Hid (q ≤ bs.length) := by show _ ≤ _; rw [Hn.out]; exact hq
    have hl' : Hid (bs.length ≤ 65536) := by show _ ≤ _; rw [Hn.out]; omega
    have hcal := inverseP_any A n c (q : Int) bs w hx (by omega)
    have hwl := wl_le hq'.out
    by_cases hw : wl q bs = bs.length
    · rw [(inv_ok hl'.out hq'.out hw).1, (inv_ok hl'.out hq'.out hw).2] at hcal
      have Hcal := Lib.hid hcal; clear hcal
      have HF := Lib.hid (fwd_ok hl'.out hq'.out hw)
      have hsl := Lib.hid (strW_length hw)
      clear hw hwl
      go_enter Try.func3, Try.ntmps3
      go_wp2_with fail
      refine Hcal.out.mono ?_
      rintro e w1 ⟨A1, n1, c1, rfl, k1, hb1⟩
      have hn1 : n1 ≤ 200 := by rw [← k1.1, hsl.out, Hn.out]; omega
      have h2 := forward_any A1 n1 c1 _ w1 k1 (by omega)
      rw [HF.out] at h2
      have H2 := Lib.hid h2; clear h2 Hcal
      go_wp2_with fail
      refine H2.out.mono ?_
      rintro e w2 ⟨A2, n2, c2, rfl, k2, hb2⟩
      have b2 := hb1.trans (hb2.mono hb1.size)
      have h3 := equalB_any _ _ _ _ _ _ _ _ _ k2 (hx.below b2)
      rw [decide_eq_true rfl] at h3
      have H3 := Lib.hid h3; clear h3 H2 k2 k1
      go_wp2_with fail
      refine H3.out.mono ?_
      rintro e w3 ⟨rfl, hw3⟩
      obtain rfl : w2 = w3 := hw3.symm
      clear H3
      go_wp2_with fail
      refine (awake_any _).mono ?_
      rintro e wz ⟨rfl, hbz⟩
      go_wp2_with fail
      go_ret
      exact ⟨rfl, b2.trans (hbz.mono b2.size)⟩
    · have hlt : wl q bs < bs.length := by omega
      rw [inv_bad hl'.out hq'.out hlt] at hcal
      have Hcal := Lib.hid hcal; clear hcal
      rw [Hn.out] at hlt
      clear hw hwl
      go_enter Try.func3, Try.ntmps3
      go_wp2_with fail
      refine Hcal.out.mono ?_
      rintro e w1 ⟨A1, n1, c1, rfl, -, hb1⟩
      have h2 := linksP_any A n c (q : Int) bs w1 (hx.below hb1) (by omega)
      rw [limE_ok (by omega) hq] at h2
      have hlr : lkRes bs (q : Int) = lkAll q bs := by unfold lkRes; rw [limE_ok hl'.out hq'.out, if_pos rfl, Int.toNat_natCast]
      rw [hlr] at h2
      have H2 := Lib.hid h2; clear h2 Hcal hlr
      go_wp2_with fail
      refine H2.out.mono ?_
      rintro e w2 ⟨A2, n2, c2, rfl, k2, hb2⟩
      have hn2 : n2 = n + 1 := by rw [← k2.1]; unfold lkAll; rw [lkTo_length, Hn.out]
      subst hn2
      have b2 := hb1.trans (hb2.mono hb1.size)
      obtain ⟨b, off, rfl, hbl, hcell⟩ := k2.get (k := 0) (by omega)
      clear hcell H2
      go_wp2_with fail
      go_loop [13, 14] (fun s r => ∃ k : Nat, k ≤ wl q bs ∧ s = .int .i64 (k : Int) ∧ r = .int .i64 (itR q bs k : Int)) (fun s _ => n + 1 - (intOf s).toNat)
      case atStart => exact ⟨0, Nat.zero_le _, rfl, rfl⟩
      case round =>
        obtain ⟨k, hk, rfl, rfl⟩ := hrel
        by_cases hkl : k < wl q bs
        · have hne := wl_ne hkl
          have hr : itR q bs k ≤ n := by rw [← Hn.out]; exact itR_le hq'.out k
          have c1 := k2.cell (k := itR q bs k) (by omega)
          have e1 : gi (lkAll q bs) (itR q bs k) = (itR q bs (k + 1) : Int) := by rw [gi_lkAll hq'.out (by rw [Hn.out]; exact hr)]; rfl
          rw [e1] at c1
          clear e1
          obtain ⟨r', hr'⟩ : ∃ r', r' = itR q bs (k + 1) := ⟨_, rfl⟩
          have Hr' := Lib.hid hr'
          obtain ⟨r, hr0⟩ : ∃ r, r = itR q bs k := ⟨_, rfl⟩
          rw [← hr'] at c1
          rw [← hr0] at c1 hne hr ⊢
          clear hr' hr0
          have e2 : ((r : Int) != (q : Int)) = true := by simp; omega
          have e3 : decide ((k : Int) ≤ (n : Int)) = true := by simp; omega
          have e4 : decide ((r : Int) < 0) = false := by simp
          have e5 : decide ((n : Int) + 1 ≤ (r : Int)) = false := by simp; omega
          have HK : Hid (k + 1 ≤ wl q bs) := hkl
          clear hne
          go_wp2_with fail
          go_round
          case rel => exact ⟨k + 1, HK.out, by go_num, by rw [Hr'.out]⟩
          case measure => simp [intOf]; omega
        · obtain rfl : k = wl q bs := by omega
          rw [wl_at hq'.out]
          obtain ⟨m, hm⟩ : ∃ m, m = wl q bs := ⟨_, rfl⟩
          rw [← hm] at hlt ⊢
          clear hm hkl hk
          have e6 : ((m : Int) != (n : Int)) = true := by simp; omega
          go_wp2_with fail
          refine (awake_any _).mono ?_
          rintro e wz ⟨rfl, hbz⟩
          go_wp2_with fail
          go_ret
          exact ⟨rfl, b2.trans (hbz.mono b2.size)⟩
end Go.Proofs.Ytoodfmilleodaaa

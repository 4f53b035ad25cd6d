/- Uf. -/
import Derived.Test.YtohadkmaemmfgaaGreatDoorRI44
import Derived.Test.YtohadkmaemmfgaaGreatDoorRI37
set_option maxRecDepth 100000
set_option maxHeartbeats 4000000
namespace Go.Proofs.YtohadkmaemmfgaaGreatDoor
open Go.RowKit Go.Proofs
set_option linter.unusedVariables false
set_option linter.unusedSimpArgs false
def DgS (l : List UInt8) (j nn pw : Nat) : Prop := (nn ≤ 65536 ∧ nn = valR (l.take j) ∧ pw = 2 ^ j ∧ pw ≤ nn + 1) ∨ (65536 < nn ∧ nn ≤ 400000 ∧ nn ≤ valR (l.take j))
theorem DgS.start (l : List UInt8) : DgS l 0 0 1 := .inl ⟨by omega, rfl, rfl, by omega⟩
theorem DgS.le {l : List UInt8} {j nn pw : Nat} (h : DgS l j nn pw) : nn ≤ 400000 := by rcases h with h | h <;> omega
theorem DgS.pw {l : List UInt8} {j nn pw : Nat} (h : DgS l j nn pw) (hn : nn ≤ 65536) : pw ≤ 65537 := by rcases h with h | h <;> omega
theorem take_bAx {l : List UInt8} {j : Nat} (hj : j < l.length) : l.take (j + 1) = l.take j ++ [bA l j] := by
  rw [List.take_succ_eq_append_getElem hj]
  congr 2
  unfold bA; rw [List.getD_eq_getElem?_getD, List.getElem?_eq_getElem hj]; rfl
theorem valR_take {l : List UInt8} {j : Nat} (hj : j < l.length) : valR (l.take (j + 1)) = valR (l.take j) + 2 ^ j * ((bA l j).toNat + 1) := by
  rw [take_bAx hj, valR_snoc, List.length_take, Nat.min_eq_left (by omega)]
theorem DgS.add {l : List UInt8} {j nn pw : Nat} (h : DgS l j nn pw) (hn : nn ≤ 65536) (hj : j < l.length) (hx : (bA l j).toNat < 2) : DgS l (j + 1) (nn + ((bA l j).toNat + 1) * pw) (2 * pw) := by
  have h1 := h.pw hn
  rcases h with ⟨h2, h3, h4, h5⟩ | ⟨h2, _⟩
  · have e := valR_take hj
    rw [← h3, ← h4, Nat.mul_comm pw] at e
    have hp : 2 * pw = 2 ^ (j + 1) := by rw [Nat.pow_succ, h4, Nat.mul_comm]
    rcases (by omega : (bA l j).toNat = 0 ∨ (bA l j).toNat = 1) with hb | hb
    · rw [hb] at e ⊢
      by_cases hg : nn + (0 + 1) * pw ≤ 65536
      · exact .inl ⟨hg, e.symm, hp, by omega⟩
      · exact .inr ⟨by omega, by omega, by omega⟩
    · rw [hb] at e ⊢
      by_cases hg : nn + (1 + 1) * pw ≤ 65536
      · exact .inl ⟨hg, e.symm, hp, by omega⟩
      · exact .inr ⟨by omega, by omega, by omega⟩
  · omega
theorem DgS.skip {l : List UInt8} {j nn pw : Nat} (h : DgS l j nn pw) (hn : 65536 < nn) (hj : j < l.length) : DgS l (j + 1) nn pw := by
  rcases h with ⟨h2, _⟩ | ⟨h2, h3, h4⟩
  · omega
  · exact .inr ⟨h2, h3, by rw [valR_take hj]; omega⟩
theorem ExD.zr {bs : List UInt8} {k m nn pw : Nat} {xs : List UInt8} (h : ExD bs k xs) (hm : xs.length = m) (hm6 : m ≤ 65536) (hk : k < bs.length) (hl : ¬ 65536 < bs.length) (hs : DgS (bs.drop k) (dgs (bs.drop k)) nn pw) :
    (65536 < m + nn → expandP bs = ([], 5)) ∧ (m + nn ≤ 65536 → ExD bs (k + dgs (bs.drop k)) (xs ++ List.replicate nn 0)) := by
  by_cases hd : (bA bs k).toNat < 2
  · have he := expR_dig (m := xs.length) hk hd
    have hdg1 : 1 ≤ dgs (bs.drop k) := by
      rw [drop_bA hk, dgs, if_pos hd]; omega
    rw [show max 1 (dgs (bs.drop k)) = dgs (bs.drop k) by omega, hm] at he
    obtain ⟨V, hV⟩ : ∃ V, V = valR ((bs.drop k).take (dgs (bs.drop k))) := ⟨_, rfl⟩
    rw [← hV] at he
    have hs' : (nn ≤ 65536 ∧ nn = V) ∨ (65536 < nn ∧ nn ≤ V) := by
      rcases hs with ⟨h1, h2, _⟩ | ⟨h1, _, h2⟩
      · exact .inl ⟨h1, by rw [hV]; exact h2⟩
      · exact .inr ⟨h1, by rw [hV]; exact h2⟩
    constructor
    · intro hb
      rw [if_pos (by omega)] at he
      exact h.err (by rw [hm]; exact he) hl
    · intro hb
      obtain rfl : nn = V := by omega
      rw [if_neg (by omega)] at he
      exact h.next (by rw [List.length_append, List.length_replicate, hm]; exact he)
  · have hd0 : dgs (bs.drop k) = 0 := by rw [drop_bA hk, dgs, if_neg hd]
    rw [hd0] at hs ⊢
    have h0 : nn = 0 := by
      rcases hs with ⟨h1, h2, _⟩ | ⟨h1, _, h2⟩
      · exact h2
      · have : valR ((bs.drop k).take 0) = 0 := rfl
        omega
    subst h0
    refine ⟨fun hb => by omega, fun _ => ?_⟩
    show ExD bs k (xs ++ [])
    rw [List.append_nil]; exact h
theorem ref34E_any (A : Option Addr) (n c : Nat) (bs : List UInt8) (w : World) (hx : Bytes w A n c bs) (hn : n ≤ 1000000) :
    Calls Tryz.prog 61 #[.slice A n c] w (RetBytes w (expandP bs).1 (expandP bs).2) := by
  have Hn := Lib.hid hx.1
  by_cases h6 : 65536 < n
  · have HE : Hid (expandP bs = ([], 5)) := by unfold Hid expandP; rw [Hn.out, if_pos h6]
    have d0 : decide ((65536 : Int) < (n : Int)) = true := decide_eq_true (by omega)
    have d0' : decide (65536 < n) = true := decide_eq_true h6
    clear h6 hx
    go_enter Tryz.func61, Tryz.ntmps61
    go_wp2_with fail
    go_ret2
    rw [HE.out]
    exact RetBytes.err rfl (Below.refl _ _)
  · have HE : Hid (¬ 65536 < bs.length) := by unfold Hid; rw [Hn.out]; exact h6
    have d0 : decide ((65536 : Int) < (n : Int)) = false := decide_eq_false (by omega)
    have d0' : decide (65536 < n) = false := decide_eq_false h6
    have HX := Lib.hid hx
    have hn6 : n ≤ 65536 := by omega
    clear h6 hx
    go_enter Tryz.func61, Tryz.ntmps61
    go_wp2_with fail
    go_loopw [4, 5, 6, 7, 8] (fun vo vi _ _ _ wr => ∃ (k m c2 : Nat) (A2 : Option Addr) (xs : List UInt8), k ≤ n ∧ m ≤ 65536 ∧ vi = .int .i64 (k : Int) ∧ vo = .slice A2 m c2 ∧ Hid (Own encB wr w.heap.size 5 A2 m c2 xs ∧ ExD bs k xs ∧ Below w.heap.size w wr)) (fun _ vi _ _ _ _ => n - (intOf vi).toNat)
    case atStart => exact ⟨0, 0, 0, none, [], Nat.zero_le _, Nat.zero_le _, rfl, rfl, Lib.hid ⟨Own.nil _ _ _ _, ExD.start bs, Below.refl _ _⟩⟩
    case round =>
      obtain ⟨k, m, c2, A2, xs, hk, hm, rfl, rfl, HI⟩ := hrel
      by_cases hlt : k < n
      · have d1 : decide ((k : Int) < (n : Int)) = true := decide_eq_true (by omega)
        have d1' : decide (k < n) = true := decide_eq_true hlt
        have hkb : Hid (k < bs.length) := by unfold Hid; rw [Hn.out]; exact hlt
        obtain ⟨b1, o1, rfl, hb1, hc1⟩ := HX.out.get (show 0 < n by omega)
        have HC : Hid (∀ W, Below w.heap.size w W → ∀ j, j < n → W.cell? ⟨b1, o1 + j, none⟩ = some (.int .u8 ((bA bs j).toNat : Int))) := fun W h j hj => (Below.cell h (p := ⟨b1, o1 + j, none⟩) hb1).trans (hc1 j hj)
        have hcap := HX.out.2.1
        have HZ := Lib.hid (fun nn pw => HI.out.2.1.zr (nn := nn) (pw := pw) HI.out.1.length hm hkb.out HE.out)
        have hdl : dgs (bs.drop k) ≤ n - k := by have := dgs_le (bs.drop k); rwa [List.length_drop, Hn.out] at this
        obtain ⟨d, hd⟩ : ∃ d, d = dgs (bs.drop k) := ⟨_, rfl⟩
        have HD := Lib.hid hd
        rw [← hd] at hdl
        clear hd hc1 hb1
        obtain ⟨V, rfl⟩ : ∃ V, V = wr := ⟨_, rfl⟩
        go_wp2_with fail
        go_loopw [5, 6, 7] (fun vi vn vp W => ∃ (i nn pw : Nat), k ≤ i ∧ i ≤ k + d ∧ vi = .int .i64 (i : Int) ∧ vn = .int .i64 (nn : Int) ∧ vp = .int .i64 (pw : Int) ∧ nn ≤ 400000 ∧ Hid (DgS (bs.drop k) (i - k) nn pw) ∧ Hid (W = V)) (fun vi _ _ _ => n - (intOf vi).toNat)
        case atStart => exact ⟨k, 0, 1, Nat.le_refl _, Nat.le_add_right _ _, rfl, rfl, rfl, by omega, Lib.hid (by rw [Nat.sub_self]; exact DgS.start _), Lib.hid rfl⟩
        case round =>
          obtain ⟨i, nn, pw, hki, hid, rfl, rfl, rfl, hnn, HS0, HW⟩ := hrel
          obtain rfl := HW.out
          obtain ⟨j, hi⟩ : ∃ j, i = k + j := ⟨i - k, by omega⟩
          have HS : Hid (DgS (bs.drop k) j nn pw) := by have h := HS0.out; rw [show i - k = j by omega] at h; exact h
          have HIJ := Lib.hid hi
          clear HS0 hi
          have HCW := Lib.hid (HC.out _ HI.out.2.2)
          by_cases hin : i < n
          · have e1 : decide ((i : Int) < (n : Int)) = true := decide_eq_true (by omega)
            have e1' : decide (i < n) = true := decide_eq_true hin
            obtain ⟨x, hx⟩ : ∃ x, x = bA bs i := ⟨_, rfl⟩
            have c1 : wr.cell? ⟨b1, o1 + i, none⟩ = some (.int .u8 (x.toNat : Int)) := by rw [hx]; exact HCW.out i hin
            have hx256 := x.toNat_lt
            have hbx : Hid (bA (bs.drop k) j = x) := by show _ = _; rw [bA_drop, hx, ← HIJ.out]
            have hjl : Hid (j < (bs.drop k).length) := by show _ < _; have := HIJ.out; rw [List.length_drop, Hn.out]; omega
            have HXX := Lib.hid hx
            clear hx
            by_cases hx2 : x.toNat < 2
            · have e2 : decide ((x.toNat : Int) < 2) = true := decide_eq_true (by omega)
              have e2' : decide (x.toNat < 2) = true := decide_eq_true hx2
              have hjd : j < d := by
                rcases Nat.lt_or_ge j d with h | h
                · exact h
                · have h1 : j = dgs (bs.drop k) := by have := HIJ.out; rw [← HD.out]; omega
                  have h2 := dgs_end (l := bs.drop k) (by rw [← h1]; exact hjl.out)
                  rw [← h1, hbx.out] at h2
                  omega
              by_cases hnb : nn ≤ 65536
              · have e3 : decide ((nn : Int) ≤ 65536) = true := decide_eq_true (by omega)
                have e3' : decide (nn ≤ 65536) = true := decide_eq_true hnb
                have hp := HS.out.pw hnb
                obtain ⟨q, hq⟩ : ∃ q, q = (x.toNat + 1) * pw := ⟨_, rfl⟩
                have hq6 : q ≤ 140000 := by
                  rw [hq]
                  rcases (by omega : x.toNat = 0 ∨ x.toNat = 1) with h | h <;> rw [h] <;> omega
                have hqi : ((x.toNat : Int) + 1) * (pw : Int) = (q : Int) := by rw [hq]; push_cast; rfl
                have hwq : wrap64 (((x.toNat : Int) + 1) * (pw : Int)) = (q : Int) := by rw [hqi]; exact w64b q (Nat.le_trans hq6 (by decide))
                have HS2 : Hid (DgS (bs.drop k) (j + 1) (nn + q) (2 * pw)) := by
                  have := HS.out.add hnb hjl.out (by rw [hbx.out]; exact hx2)
                  rw [hbx.out, ← hq] at this
                  exact this
                have HL := Lib.hid HS2.out.le
                have HWN : Hid (wrap64 ((nn : Int) + (q : Int)) = ((nn + q : Nat) : Int)) := by show _ = _; have h := w64b (nn + q) (Nat.le_trans (Nat.add_le_add hnb hq6) (by decide)); rw [Int.natCast_add] at h ⊢; exact h
                have HW2 : Hid (wrap64 (2 * (pw : Int)) = ((2 * pw : Nat) : Int)) := by show _ = _; have h := w64b (2 * pw) (Nat.le_trans (Nat.mul_le_mul_left 2 hp) (by decide)); rw [Int.natCast_mul] at h ⊢; exact h
                clear hq hqi
                go_wp2_with fail
                go_roundw
                case rel => exact ⟨i + 1, nn + q, 2 * pw, by omega, (by have := HIJ.out; omega), by go_num, by (first | rfl | (rw [HWN.out])), by (first | rfl | (rw [HW2.out])), HL.out, by rw [show i + 1 - k = j + 1 by have := HIJ.out; omega]; exact HS2, by first | exact Lib.hid rfl | exact Lib.hid trivial⟩
                case measure => (simp [intOf]) <;> omega
              · have e3 : decide ((nn : Int) ≤ 65536) = false := decide_eq_false (by omega)
                have e3' : decide (nn ≤ 65536) = false := decide_eq_false hnb
                have HS2 := Lib.hid (HS.out.skip (by omega) hjl.out)
                go_wp2_with fail
                go_roundw
                case rel => exact ⟨i + 1, nn, pw, by omega, (by have := HIJ.out; omega), by go_num, rfl, rfl, hnn, by rw [show i + 1 - k = j + 1 by have := HIJ.out; omega]; exact HS2, by first | exact Lib.hid rfl | exact Lib.hid trivial⟩
                case measure => (simp [intOf]) <;> omega
            · have e2 : decide ((x.toNat : Int) < 2) = false := decide_eq_false (by omega)
              have e2' : decide (x.toNat < 2) = false := decide_eq_false hx2
              have hjd : j = d := by
                rcases Nat.lt_or_ge j d with h | h
                · have h2 := dgs_lt (l := bs.drop k) (k := j) (by rw [← HD.out]; exact h)
                  rw [hbx.out] at h2
                  omega
                · have := HIJ.out; omega
              subst hjd
              obtain ⟨hz5, hz6⟩ := HZ.out nn pw (by rw [← HD.out]; exact HS.out)
              have HZ5 := Lib.hid hz5
              have HZ6 := Lib.hid hz6
              clear hz5 hz6
              by_cases hbig : 65536 < m + nn
              · have e4 : decide ((65536 : Int) < (m : Int) + (nn : Int)) = true := decide_eq_true (by omega)
                have e4' : decide (65536 < m + nn) = true := decide_eq_true hbig
                have HF := Lib.hid (HZ5.out hbig)
                clear hbig
                go_wp2_with fail
                go_ret2
                rw [HF.out]
                exact RetBytes.err rfl HI.out.2.2
              · have e4 : decide ((65536 : Int) < (m : Int) + (nn : Int)) = false := decide_eq_false (by omega)
                have e4' : decide (65536 < m + nn) = false := decide_eq_false hbig
                have HEX := Lib.hid (HZ6.out (by omega))
                obtain ⟨A4, c4, w4, hrun, ho4, hb4, hg4⟩ := run_append_zerosB (P := Tryz.prog) (t := 23) (tn := 3) 23 uB uInt' infoB HI.out.1 HI.out.2.2.size nn (by omega)
                obtain ⟨M, hM⟩ : ∃ M, M = m + nn := ⟨_, rfl⟩
                rw [← hM] at hrun ho4
                have HM := Lib.hid hM
                have hM6 : M ≤ 65536 := by rw [hM]; omega
                clear hM
                have HO4 := Lib.hid (And.intro ho4 (HI.out.2.2.trans hb4))
                have HRUN := Lib.hid hrun
                clear hrun ho4 hb4 hg4
                have HEI : Hid (ExD bs i (xs ++ List.replicate nn 0)) := by
                  have h := HEX.out
                  rw [← HD.out, ← HIJ.out] at h
                  exact h
                have hml : (xs ++ List.replicate nn 0).length = M := HO4.out.1.length
                have HML := Lib.hid hml
                have e5 : ((i : Int) == (n : Int)) = false := by rw [beq_eq_false_iff_ne]; omega
                have hib : Hid (i < bs.length) := by show _ < _; rw [Hn.out]; exact hin
                have hlo : 2 ≤ x.toNat := by omega
                clear hml HEX
                by_cases hx5 : x.toNat < 255
                · have e6 : ((x.toNat : Int) - 1 == 254) = false := by rw [beq_eq_false_iff_ne]; omega
                  have he := expR_byte (bs := bs) (i := i) (m := (xs ++ List.replicate nn 0).length) hib.out (by rw [← HXX.out]; omega) (by rw [← HXX.out]; exact hx5)
                  rw [← HXX.out, HML.out] at he
                  have hv : Hid (encB (x - 1) = .int .u8 ((x.toNat : Int) - 1)) := by
                    show Value.int .u8 (((x - 1).toNat : Nat) : Int) = _
                    rw [u8_one (by omega), Int.ofNat_sub (by omega)]; rfl
                  obtain ⟨y1, hy1⟩ : ∃ y, y = x - 1 := ⟨_, rfl⟩
                  rw [← hy1] at he hv
                  have HY := Lib.hid hv
                  clear hy1 hv
                  have c9 : w4.cell? ⟨b1, o1 + i, none⟩ = some (.int .u8 (x.toNat : Int)) := by rw [HXX.out]; exact HC.out w4 HO4.out.2 i hin
                  by_cases hMb : 65536 < M + 1
                  · rw [if_pos hMb] at he
                    have e7 : decide ((65536 : Int) ≤ (M : Int)) = true := decide_eq_true (by omega)
                    have e7' : decide (65536 ≤ M) = true := decide_eq_true (by omega)
                    have HF := Lib.hid (HEI.out.err (by rw [HML.out]; exact he) HE.out)
                    clear he hMb
                    go_wp2_with (at_builtin; refine Lib.wpList_append_run _ rfl (.tmp 48) (.tmp 49) 23 3 rfl _ _ rfl rfl _ _ HRUN.out ?_)
                    go_ret2
                    rw [HF.out]
                    exact RetBytes.err rfl HO4.out.2
                  · rw [if_neg hMb] at he
                    have e7 : decide ((65536 : Int) ≤ (M : Int)) = false := decide_eq_false (by omega)
                    have e7' : decide (65536 ≤ M) = false := decide_eq_false (by omega)
                    have HF := Lib.hid (HEI.out.next (k' := i + 1) (ys := [y1]) (by have e : (xs ++ List.replicate nn 0 ++ [y1]).length = M + 1 := (by rw [List.length_append, HML.out]; rfl); rw [e, HML.out]; exact he))
                    have HMM : Hid (M + 1 ≤ 65536) := by show _ ≤ _; omega
                    have m1 : Hid (M + 1 ≤ maxLen ∧ M + 1 ≤ 140737488355328) := ⟨by simp [maxLen]; omega, by omega⟩
                    clear he hMb
                    go_wp2_with (at_builtin; first
                      | refine Lib.wpList_append_run _ rfl (.tmp 48) (.tmp 49) 23 3 rfl _ _ rfl rfl _ _ HRUN.out ?_
                      | (refine wpList_pushg rfl (.tmp 83) (.tmp 85) rfl uB infoB rfl HO4.out.1 HO4.out.2.size y1 _ HY.out rfl m1.out.1 m1.out.2 ?_; intro A7 c7 w7 ho7 hb7 hg7; have HO7 := Lib.hid (And.intro ho7 (HO4.out.2.trans hb7)); clear ho7 hb7 hg7))
                    go_roundw
                    case rel => exact ⟨i + 1, M + 1, c7, A7, _, hin, HMM.out, by go_num, rfl, Lib.hid ⟨HO7.out.1, HF.out, HO7.out.2⟩⟩
                    case measure => (simp [intOf]) <;> omega
                · have e6 : ((x.toNat : Int) - 1 == 254) = true := by rw [beq_iff_eq]; omega
                  have c9 : w4.cell? ⟨b1, o1 + i, none⟩ = some (.int .u8 (x.toNat : Int)) := by rw [HXX.out]; exact HC.out w4 HO4.out.2 i hin
                  have hx255 : ¬ (bA bs i).toNat < 255 := by rw [← HXX.out]; exact hx5
                  by_cases hend : i + 1 = n
                  · have he := expR_torn (bs := bs) (i := i) (m := (xs ++ List.replicate nn 0).length) (by rw [Hn.out]; exact hend) hx255
                    have HF := Lib.hid (HEI.out.err he HE.out)
                    have e7 : ((i : Int) + 1 == (n : Int)) = true := by rw [beq_iff_eq]; omega
                    clear he hx255 hend
                    go_wp2_with (at_builtin; refine Lib.wpList_append_run _ rfl (.tmp 48) (.tmp 49) 23 3 rfl _ _ rfl rfl _ _ HRUN.out ?_)
                    go_ret2
                    rw [HF.out]
                    exact RetBytes.err rfl HO4.out.2
                  · have e7 : ((i : Int) + 1 == (n : Int)) = false := by rw [beq_eq_false_iff_ne]; omega
                    have hi1 : i + 1 < n := by omega
                    have hi1' : (i : Int) + 1 < (n : Int) := by omega
                    obtain ⟨z, hz⟩ : ∃ z, z = bA bs (i + 1) := ⟨_, rfl⟩
                    have c10 : w4.cell? ⟨b1, o1 + (i + 1), none⟩ = some (.int .u8 (z.toNat : Int)) := by rw [hz]; exact HC.out w4 HO4.out.2 (i + 1) hi1
                    have hz256 := z.toNat_lt
                    by_cases hz1 : 1 < z.toNat
                    · have he := expR_form (bs := bs) (i := i) (m := (xs ++ List.replicate nn 0).length) (by rw [Hn.out]; exact hi1) hx255 (by rw [← hz]; exact hz1)
                      have HF := Lib.hid (HEI.out.err he HE.out)
                      have e8 : decide ((1 : Int) < (z.toNat : Int)) = true := decide_eq_true (by omega)
                      have e8' : decide (1 < z.toNat) = true := decide_eq_true hz1
                      clear he hx255 hend hz hz1
                      go_wp2_with (at_builtin; refine Lib.wpList_append_run _ rfl (.tmp 48) (.tmp 49) 23 3 rfl _ _ rfl rfl _ _ HRUN.out ?_)
                      go_ret2
                      rw [HF.out]
                      exact RetBytes.err rfl HO4.out.2
                    · have e8 : decide ((1 : Int) < (z.toNat : Int)) = false := decide_eq_false (by omega)
                      have e8' : decide (1 < z.toNat) = false := decide_eq_false hz1
                      have he := expR_esc (bs := bs) (i := i) (m := (xs ++ List.replicate nn 0).length) (by rw [Hn.out]; exact hi1) hx255 (by rw [← hz]; exact hz1)
                      rw [← hz, HML.out] at he
                      have hv : Hid (encB (254 + z) = .int .u8 (254 + (z.toNat : Int))) := by
                        show Value.int .u8 (((254 + z).toNat : Nat) : Int) = _
                        rw [u8_esc hz1]; rfl
                      obtain ⟨y1, hy1⟩ : ∃ y, y = 254 + z := ⟨_, rfl⟩
                      rw [← hy1] at he hv
                      have HY := Lib.hid hv
                      have hz2 : z.toNat ≤ 1 := by omega
                      clear hy1 hv hx255 hend hz hz1
                      by_cases hMb : 65536 < M + 1
                      · rw [if_pos hMb] at he
                        have e9 : decide ((65536 : Int) ≤ (M : Int)) = true := decide_eq_true (by omega)
                        have e9' : decide (65536 ≤ M) = true := decide_eq_true (by omega)
                        have HF := Lib.hid (HEI.out.err (by rw [HML.out]; exact he) HE.out)
                        clear he hMb
                        go_wp2_with (at_builtin; refine Lib.wpList_append_run _ rfl (.tmp 48) (.tmp 49) 23 3 rfl _ _ rfl rfl _ _ HRUN.out ?_)
                        go_ret2
                        rw [HF.out]
                        exact RetBytes.err rfl HO4.out.2
                      · rw [if_neg hMb] at he
                        have e9 : decide ((65536 : Int) ≤ (M : Int)) = false := decide_eq_false (by omega)
                        have e9' : decide (65536 ≤ M) = false := decide_eq_false (by omega)
                        have HF := Lib.hid (HEI.out.next (k' := i + 2) (ys := [y1]) (by have e : (xs ++ List.replicate nn 0 ++ [y1]).length = M + 1 := (by rw [List.length_append, HML.out]; rfl); rw [e, HML.out]; exact he))
                        have HMM : Hid (M + 1 ≤ 65536) := by show _ ≤ _; omega
                        have m1 : Hid (M + 1 ≤ maxLen ∧ M + 1 ≤ 140737488355328) := ⟨by simp [maxLen]; omega, by omega⟩
                        clear he hMb
                        go_wp2_with (at_builtin; first
                          | refine Lib.wpList_append_run _ rfl (.tmp 48) (.tmp 49) 23 3 rfl _ _ rfl rfl _ _ HRUN.out ?_
                          | (refine wpList_pushg rfl (.tmp 83) (.tmp 85) rfl uB infoB rfl HO4.out.1 HO4.out.2.size y1 _ HY.out rfl m1.out.1 m1.out.2 ?_; intro A7 c7 w7 ho7 hb7 hg7; have HO7 := Lib.hid (And.intro ho7 (HO4.out.2.trans hb7)); clear ho7 hb7 hg7))
                        go_roundw
                        case rel => exact ⟨i + 2, M + 1, c7, A7, _, hi1, HMM.out, by go_num, rfl, Lib.hid ⟨HO7.out.1, HF.out, HO7.out.2⟩⟩
                        case measure => (simp [intOf]) <;> omega
          · have e1 : decide ((i : Int) < (n : Int)) = false := decide_eq_false (by omega)
            have e1' : decide (i < n) = false := decide_eq_false hin
            have hjd : j = d := by have := HIJ.out; omega
            obtain rfl := hjd
            obtain ⟨hz5, hz6⟩ := HZ.out nn pw (by rw [← HD.out]; exact HS.out)
            have HZ5 := Lib.hid hz5
            have HZ6 := Lib.hid hz6
            clear hz5 hz6
            by_cases hbig : 65536 < m + nn
            · have e4 : decide ((65536 : Int) < (m : Int) + (nn : Int)) = true := decide_eq_true (by omega)
              have e4' : decide (65536 < m + nn) = true := decide_eq_true hbig
              have HF := Lib.hid (HZ5.out hbig)
              clear hbig
              go_wp2_with fail
              go_ret2
              rw [HF.out]
              exact RetBytes.err rfl HI.out.2.2
            · have e4 : decide ((65536 : Int) < (m : Int) + (nn : Int)) = false := decide_eq_false (by omega)
              have e4' : decide (65536 < m + nn) = false := decide_eq_false hbig
              have HEX := Lib.hid (HZ6.out (by omega))
              obtain ⟨A4, c4, w4, hrun, ho4, hb4, hg4⟩ := run_append_zerosB (P := Tryz.prog) (t := 23) (tn := 3) 23 uB uInt' infoB HI.out.1 HI.out.2.2.size nn (by omega)
              have HO4 := Lib.hid (And.intro ho4 (HI.out.2.2.trans hb4))
              have HRUN := Lib.hid hrun
              clear hrun ho4 hb4 hg4
              have hin' : i = n := by omega
              subst hin'
              have HR : Hid (expandP bs = (xs ++ List.replicate nn 0, 0)) := by
                have h := HEX.out
                rw [← HD.out, ← HIJ.out] at h
                exact h.done (Nat.le_of_eq Hn.out) HE.out
              go_wp2_with (at_builtin; refine Lib.wpList_append_run _ rfl (.tmp 48) (.tmp 49) 23 3 rfl _ _ rfl rfl _ _ HRUN.out ?_)
              go_ret2
              rw [HR.out]
              exact RetBytes.mk rfl HO4.out.1.bytesB HO4.out.2
      · obtain rfl : k = n := by omega
        have d1 : decide ((k : Int) < (k : Int)) = false := decide_eq_false (by omega)
        have d1' : decide (k < k) = false := decide_eq_false (by omega)
        have HF := Lib.hid (HI.out.2.1.done (Nat.le_of_eq Hn.out) HE.out)
        go_wp2_with fail
        go_ret2
        rw [HF.out]
        exact RetBytes.mk rfl (Own.bytesB (B := w.heap.size) (e := 5) HI.out.1) HI.out.2.2
end Go.Proofs.YtohadkmaemmfgaaGreatDoor

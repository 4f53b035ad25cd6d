/- slices.Sort at []byte, part 7: pdqsortOrdered: a sorted permutation. -/
import Derived.Test.YtoodfmilleodaaaSe
import Derived.Test.YtoodfmilleodaaaSf
import Derived.Sort.AssemblyPlain
namespace Go.Proofs.Ytoodfmilleodaaa
open Go.RowKit Go.Proofs Go.Sort
set_option linter.unusedVariables false
set_option linter.unusedSimpArgs false

theorem Below.permU {a b : Nat} {d d' : Array UInt8} (hb : b ≤ d.size) (h : Sort.Below ltU a b d) (hP : PermIn a b d d') : Sort.Below ltU a b d' := Sort.Below.permA permIn_all hb h hP

set_option maxHeartbeats 12800000 in
set_option maxRecDepth 100000 in
theorem pdq_any (blk off cap : Nat) : ∀ (n a b lim : Nat) (d : Array UInt8) (w : World), b - a ≤ n → a ≤ b → b ≤ d.size → d.size < 4611686018427387904 → lim < 4611686018427387904 → Sort.Below ltU a b d → Arr w w blk off d →
    Calls Try.prog 80 #[.slice (some ⟨blk, off, none⟩) d.size cap, .int .i64 a, .int .i64 b, .int .i64 lim] w fun e w' => e = .returned (.tuple #[]) ∧ ∃ d', PermIn a b d d' ∧ SortedIn ltU a b d' ∧ Arr w w' blk off d' := by
  intro n
  induction n using Nat.strongRecOn with
  | _ n ih =>
  intro a0 b0 lim0 d w hn hab hb hsz hlim hB hA
  have IH := Lib.hid ih; clear ih
  have HSZ := Lib.hid hsz; clear hsz
  have HA0 := Lib.hid hA; clear hA
  have HB0 := Lib.hid hB; clear hB
  have HN := Lib.hid (And.intro hn hb)
  clear hn
  go_enter Try.func80, Try.ntmps80
  go_wp2
  go_loopw [1, 2, 3, 8, 9] (fun s1 s2 s3 s8 s9 wr => ∃ (a b lim : Nat) (wb wp : Bool) (dk : Array UInt8), s1 = .int .i64 a ∧ s2 = .int .i64 b ∧ s3 = .int .i64 lim ∧ s8 = .bool wb ∧ s9 = .bool wp ∧ lim < 4611686018427387904 ∧ a ≤ b ∧ b ≤ b0 ∧ b - a ≤ n ∧ dk.size = d.size ∧ Hid (Sort.Below ltU a b dk) ∧ Arr w wr blk off dk ∧
      Hid (∀ d', PermIn a b dk d' → SortedIn ltU a b d' → PermIn a0 b0 d d' ∧ SortedIn ltU a0 b0 d')) (fun s1 s2 _ _ _ _ => (intOf s2).toNat - (intOf s1).toNat)
  case atStart => exact ⟨a0, b0, lim0, true, true, d, rfl, rfl, rfl, rfl, rfl, hlim, hab, Nat.le_refl _, HN.out.1, rfl, HB0, HA0.out, fun d' h1 h2 => ⟨h1, h2⟩⟩
  case round =>
    clear HA0 HB0 hlim hab
    obtain ⟨a, b, lim, wb, wp, dk, rfl, rfl, rfl, rfl, rfl, hlim, hab, hbb, hbn, hds, HB, hAk, HF⟩ := hrel
    have HS := Lib.hid hds
    have HA := Lib.hid hAk
    clear hds hAk
    obtain ⟨l, hl⟩ : ∃ l, l = b - a := ⟨_, rfl⟩
    have e1 : (b : Int) - (a : Int) = (l : Int) := by omega
    have HL := Lib.hid hl
    have hl62 : l < 4611686018427387904 := by have := HSZ.out; have := HN.out; omega
    have hb62 : b < 4611686018427387904 := by have := HSZ.out; have := HN.out; omega
    clear hl
    by_cases h12 : l ≤ 12
    · have h12z : (l : Int) ≤ 12 := by omega
      have hins := insertion_any blk off cap a b dk wr HA.out.self hab (by have := HS.out; have := HN.out; omega) (by rw [HS.out]; exact HSZ.out)
      rw [HS.out] at hins
      have HINS := Lib.hid hins; clear hins
      have hfin := HF.out _ (insertionSort_holds ltU_swo dk a b hab (by have := HS.out; have := HN.out; omega)).1 (insertionSort_holds ltU_swo dk a b hab (by have := HS.out; have := HN.out; omega)).2
      have HFIN := Lib.hid hfin; clear hfin
      go_wp2_with fail
      refine HINS.out.mono ?_
      rintro e w1 ⟨rfl, h1⟩
      go_wp2_with fail
      (try simp only [Exit.inBlock, Exit.then])
      refine bodyPost_ret (results_none rfl _ _ _) rfl ?_
      exact ⟨rfl, _, HFIN.out.1, HFIN.out.2, HA.out.trans h1⟩
    · have h12z : ¬ ((l : Int) ≤ 12) := by omega
      have hlt : a < b := by have := HL.out; omega
      have hbs : b ≤ d.size := by have := HN.out; omega
      by_cases h0 : lim = 0
      · have hheap := heapSort_any blk off cap a b dk wr HA.out.self hab (by have := HS.out; omega) (by rw [HS.out]; exact HSZ.out)
        rw [HS.out] at hheap
        have HINS := Lib.hid hheap; clear hheap
        have hfin := HF.out _ (heapSort_holds ltU_swo dk a b hab (by have := HS.out; omega)).1 (heapSort_holds ltU_swo dk a b hab (by have := HS.out; omega)).2
        have HFIN := Lib.hid hfin; clear hfin
        subst h0
        go_wp2_with fail
        refine HINS.out.mono ?_
        rintro e w1 ⟨rfl, h1⟩
        go_wp2_with fail
        (try simp only [Exit.inBlock, Exit.then])
        refine bodyPost_ret (results_none rfl _ _ _) rfl ?_
        exact ⟨rfl, _, HFIN.out.1, HFIN.out.2, HA.out.trans h1⟩
      · have h0z : ((lim : Int) == 0) = false := by simp; omega
        obtain ⟨lm, hlm⟩ : ∃ lm, lm = lim - 1 := ⟨_, rfl⟩
        have elm : (lim : Int) - 1 = (lm : Int) := by omega
        have hlm62 : lm < 4611686018427387904 := by omega
        clear hlm h0
        go_upto_if 35 with fail
        go_cut [3] (fun s3 wx => ∃ (lim1 : Nat) (d1 : Array UInt8), s3 = .int .i64 lim1 ∧ lim1 < 4611686018427387904 ∧ PermIn a b dk d1 ∧ Arr w wx blk off d1)
        case first =>
          cases wb with
          | true =>
            go_wp2_with fail
            go_meet
            exact ⟨lim, dk, rfl, hlim, permIn_refl dk a b, HA.out⟩
          | false =>
            have hbp := breakPatterns_any blk off cap a b dk wr HA.out.self hlt (by have := HS.out; omega) (by rw [HS.out]; exact HSZ.out)
            rw [HS.out] at hbp
            have HBP := Lib.hid hbp; clear hbp
            go_wp2_with fail
            refine HBP.out.mono ?_
            rintro e w1 ⟨rfl, d1, hp1, h1⟩
            go_wp2_with fail
            go_meet
            exact ⟨lm, d1, rfl, hlm62, hp1, HA.out.trans h1⟩
        case rest =>
          obtain ⟨lim1, d1, rfl, hlim1, hp1, hA1⟩ := hcut
          have HP1 := Lib.hid hp1
          have HA1 := Lib.hid hA1
          have HS1 : Hid (d1.size = d.size) := by show _ = _; rw [hp1.1]; exact HS.out
          clear hp1 hA1 HA hlim hlm62 elm
          have hcp := choosePivot_any blk off cap a b d1 wc HA1.out.self hlt (by rw [HS1.out]; exact hbs) (by rw [HS1.out]; exact HSZ.out)
          rw [HS1.out] at hcp
          have HCP := Lib.hid hcp; clear hcp
          go_wp2_with fail
          refine HCP.out.mono ?_
          rintro e w2 ⟨p, h, rfl, hap, hpb, hh2, hg2⟩
          have HA2 := Lib.hid (HA1.out.keep hg2)
          clear hg2 HCP HA1
          obtain ⟨p2, hp2⟩ : ∃ p2, p2 = (b - 1) - (p - a) := ⟨_, rfl⟩
          have ep2 : (b : Int) - 1 - ((p : Int) - (a : Int)) = (p2 : Int) := by omega
          have hp2b : a ≤ p2 ∧ p2 < b := by omega
          have HP2B := Lib.hid hp2b
          clear hp2 hp2b
          go_upto_if 50 with fail
          go_cut [11, 12] (fun s11 s12 wx => ∃ (pv h2 : Nat) (d2 : Array UInt8), s11 = .int .i64 pv ∧ s12 = .int .i64 h2 ∧ a ≤ pv ∧ pv < b ∧ PermIn a b d1 d2 ∧ Arr w wx blk off d2)
          case first =>
            by_cases hh : h = 2
            · subst hh
              have hrv := reverseRange_any blk off cap a b d1 w2 HA2.out.self hab (by rw [HS1.out]; exact hbs) (by rw [HS1.out]; exact HSZ.out)
              rw [HS1.out] at hrv
              have HRV := Lib.hid hrv; clear hrv
              go_wp2_with fail
              refine HRV.out.mono ?_
              rintro e w3 ⟨rfl, d2, hp2, h2⟩
              go_wp2_with fail
              go_meet
              exact ⟨p2, 1, d2, rfl, rfl, HP2B.out.1, HP2B.out.2, hp2, HA2.out.trans h2⟩
            · have hhz : ((h : Int) == 2) = false := by simp; omega
              go_wp2_with fail
              go_meet
              exact ⟨p, h, d1, rfl, rfl, hap, hpb, permIn_refl d1 a b, HA2.out⟩
          case rest =>
            clear hap hpb hh2 ep2 HA2 HP2B
            obtain ⟨pv, h2, d2, rfl, rfl, hap, hpb, hp2, hA2⟩ := hcut
            have HP2 : Hid (PermIn a b dk d2) := permIn_trans dk d1 d2 a b HP1.out hp2
            have HS2 : Hid (d2.size = d.size) := by show _ = _; rw [hp2.1]; exact HS1.out
            have HA2 := Lib.hid hA2
            clear hp2 hA2 HP1 HS1
            go_upto_region 15 with fail
            go_cut [68] (fun s68 wx => ∃ c : Bool, s68 = .bool c ∧ Arr w wx blk off d2)
            case first =>
              cases wb <;> cases wp <;> (go_wp2_with fail; go_meet; exact ⟨_, rfl, HA2.out⟩)
            case rest =>
              obtain ⟨c, rfl, hA3⟩ := hcut
              have HA3 := Lib.hid hA3
              clear hA3 HA2
              go_upto_if 68 with fail
              go_cut [] (fun wx => ∃ d3 : Array UInt8, PermIn a b dk d3 ∧ Arr w wx blk off d3)
              case first =>
                cases c with
                | false =>
                  go_wp2_with fail
                  go_meet
                  exact ⟨d2, HP2.out, HA3.out⟩
                | true =>
                  have hpi := partialInsertion_any blk off cap a b d2 _ HA3.out.self hlt (by rw [HS2.out]; exact hbs) (by rw [HS2.out]; exact HSZ.out)
                  have hst := partialInsertionSort_holds ltU_swo d2 a b hlt (by rw [HS2.out]; exact hbs) (Below.permU (by have := HS.out; omega) HB.out HP2.out)
                  rw [HS2.out] at hpi
                  obtain ⟨r, hr⟩ : ∃ r, r = partialInsertionSort ltU d2 a b := ⟨_, rfl⟩
                  rw [← hr] at hpi hst
                  clear hr
                  obtain ⟨d3, bo⟩ := r
                  have HPI := Lib.hid hpi; clear hpi
                  have HST := Lib.hid hst; clear hst
                  go_wp2_with fail
                  refine HPI.out.mono ?_
                  rintro e w3 ⟨rfl, h3⟩
                  cases bo with
                  | true =>
                    go_wp2_with fail
                    (try simp only [Exit.inBlock, Exit.then])
                    refine bodyPost_ret (results_none rfl _ _ _) rfl ?_
                    have hfin := HF.out d3 (permIn_trans dk d2 d3 a b HP2.out HST.out.1) (HST.out.2 (by first | trivial | rfl))
                    exact ⟨rfl, d3, hfin.1, hfin.2, HA3.out.trans h3⟩
                  | false =>
                    go_wp2_with fail
                    go_meet
                    exact ⟨d3, permIn_trans dk d2 d3 a b HP2.out HST.out.1, HA3.out.trans h3⟩
              case rest =>
                obtain ⟨d3, hp3, hA4⟩ := hcut
                have HP3 := Lib.hid hp3
                have HS3 : Hid (d3.size = d.size) := by show _ = _; rw [hp3.1]; exact HS.out
                have HB3 : Hid (Sort.Below ltU a b d3) := Below.permU (by have := HS.out; omega) HB.out hp3
                have HA4 := Lib.hid hA4
                clear hp3 hA4 HA3 HS2 HP2
                go_upto_region 17 with fail
                go_cut [87] (fun s87 wx => s87 = .bool (decide (0 < a) && !ltU d3[a - 1]! d3[pv]!) ∧ Arr w wx blk off d3)
                case first =>
                  by_cases ha0 : 0 < a
                  · have ha0z : (0 : Int) < (a : Int) := by omega
                    have c1 := HA4.out.cell (t := a - 1) (by have := HS3.out; omega)
                    have c2 := HA4.out.cell (t := pv) (by have := HS3.out; omega)
                    have hpvs : pv < d.size := by omega
                    have hlt2 := ltZ_at d3 (a - 1) pv
                    have HLT := Lib.hid hlt2; clear hlt2
                    go_quiet (first | (go_at_call 94; refine Calls.quiet_of_same (lessZ_any _ _ _)))
                    go_wp2_with fail
                    go_meet
                    exact ⟨by rw [HLT.out]; simp [ha0], HA4.out.drewN _⟩
                  · have ha0z : decide ((0 : Int) < (a : Int)) = false := decide_eq_false (by omega)
                    go_quiet (first | (go_at_call 94; refine Calls.quiet_of_same (lessZ_any _ _ _)))
                    go_wp2_with fail
                    go_meet
                    exact ⟨by simp [ha0], HA4.out.drewN _⟩
                case rest =>
                  obtain ⟨rfl, hA5⟩ := hcut
                  have HA5 := Lib.hid hA5
                  clear hA5 HA4
                  cases hc : (decide (0 < a) && !ltU d3[a - 1]! d3[pv]!) with
                  | true =>
                    simp only [Bool.and_eq_true, decide_eq_true_eq, Bool.not_eq_true'] at hc
                    obtain ⟨ha0, hnl⟩ := hc
                    have hpe := partitionEqual_any blk off cap a b pv d3 _ HA5.out.self hap hpb (by rw [HS3.out]; exact hbs) (by rw [HS3.out]; exact HSZ.out)
                    rw [HS3.out] at hpe
                    obtain ⟨r, hr⟩ : ∃ r, r = partitionEqual ltU d3 a b pv := ⟨_, rfl⟩
                    rw [← hr] at hpe
                    obtain ⟨mid, d4⟩ := r
                    obtain ⟨m1, m2, m3, m4, m5⟩ := round_eq ltU_swo (partitionEqual_holds ltU) ha0 hap hpb (by rw [HS3.out]; exact hbs) HB3.out hnl hr.symm
                    have HPE := Lib.hid hpe; clear hpe hr
                    have HM := Lib.hid (And.intro m3 (And.intro m4 m5))
                    clear m3 m4 m5 hnl
                    go_wp2_with fail
                    refine HPE.out.mono ?_
                    rintro e w5 ⟨rfl, h5⟩
                    go_wp2_with fail
                    go_roundw
                    case rel => exact ⟨mid, b, lim1, wb, wp, d4, rfl, rfl, rfl, rfl, rfl, hlim1, m2, hbb, by omega, by rw [HM.out.1]; exact HS3.out, HM.out.2.1, HA5.out.trans h5, fun d' q1 q2 => HF.out d' (permIn_trans dk d3 d' a b HP3.out (HM.out.2.2 d' q1 q2).1) (HM.out.2.2 d' q1 q2).2⟩
                    case measure => (simp [intOf]) <;> omega
                  | false =>
                    clear hc
                    have hpt := partition_any blk off cap a b pv d3 _ HA5.out.self hap hpb (by rw [HS3.out]; exact hbs) (by rw [HS3.out]; exact HSZ.out)
                    rw [HS3.out] at hpt
                    obtain ⟨r, hr⟩ : ∃ r, r = partition ltU d3 a b pv := ⟨_, rfl⟩
                    rw [← hr] at hpt
                    obtain ⟨mid, ap, d4⟩ := r
                    obtain ⟨m1, m2, m3, m4, m5, m6, m7⟩ := round_part ltU_swo (partition_holds ltU) hap hpb (by rw [HS3.out]; exact hbs) HB3.out hr.symm
                    have HPT := Lib.hid hpt; clear hpt hr
                    have HS4 : Hid (d4.size = d.size) := by show _ = _; rw [m3]; exact HS3.out
                    have HM := Lib.hid (And.intro m4 (And.intro m5 (And.intro m6 m7)))
                    clear m3 m4 m5 m6 m7
                    obtain ⟨L, hL⟩ : ∃ L, L = mid - a := ⟨_, rfl⟩
                    obtain ⟨R, hR⟩ : ∃ R, R = b - mid := ⟨_, rfl⟩
                    obtain ⟨q8, hq8⟩ : ∃ q8, q8 = l / 8 := ⟨_, rfl⟩
                    obtain ⟨m', hm'⟩ : ∃ m', m' = mid + 1 := ⟨_, rfl⟩
                    have eL : (mid : Int) - (a : Int) = (L : Int) := by omega
                    have eR : (b : Int) - (mid : Int) = (R : Int) := by omega
                    have eq8 : (l : Int) / 8 = (q8 : Int) := by omega
                    have eq8' : (l : Int).tdiv 8 = (q8 : Int) := by rw [Int.tdiv_eq_ediv_of_nonneg (by omega)]; exact eq8
                    have em : (mid : Int) + 1 = (m' : Int) := by omega
                    have HQ : Hid (L = mid - a ∧ R = b - mid ∧ m' = mid + 1) := ⟨hL, hR, hm'⟩
                    clear hL hR hq8 hm'
                    go_wp2_with fail
                    refine HPT.out.mono ?_
                    rintro e w5 ⟨rfl, h5⟩
                    have HA6 := Lib.hid (HA5.out.trans h5)
                    by_cases hLR : L < R
                    · have hLRz : (L : Int) < (R : Int) := by omega
                      have hrec := IH.out (mid - a) (by have := HN.out; omega) a mid lim1 d4 w5 (Nat.le_refl _) m1 (by rw [HS4.out]; omega) (by rw [HS4.out]; exact HSZ.out) hlim1 HM.out.1 h5.self
                      rw [HS4.out] at hrec
                      have HREC := Lib.hid hrec; clear hrec h5
                      go_wp2_with fail
                      refine HREC.out.mono ?_
                      rintro e w6 ⟨rfl, d5, hp5, hs5, h6⟩
                      obtain ⟨hB5, hF5⟩ := HM.out.2.2.1 d5 hp5 hs5
                      have HF5 := Lib.hid hF5
                      have HB5 : Hid (Sort.Below ltU m' b d5) := by show Sort.Below ltU m' b d5; rw [HQ.out.2.2]; exact hB5
                      have HS5 : Hid (d5.size = d.size) := by show _ = _; rw [hp5.1]; exact HS4.out
                      clear hB5 hF5 hp5 hs5
                      go_wp2_with fail
                      go_roundw
                      case rel => exact ⟨m', b, lim1, _, _, d5, rfl, rfl, rfl, rfl, rfl, hlim1, by have := HQ.out; omega, hbb, by have := HQ.out; omega, HS5.out, HB5, HA6.out.trans h6, fun d' q1 q2 => by
                        rw [HQ.out.2.2] at q1 q2
                        have q := HF5.out d' q1 q2
                        exact HF.out d' (permIn_trans dk d3 d' a b HP3.out q.1) q.2⟩
                      case measure => (simp [intOf]) <;> (have := HQ.out; omega)
                    · have hLRz : ¬ ((L : Int) < (R : Int)) := by omega
                      have hrec := IH.out (b - m') (by have := HN.out; have := HQ.out; omega) m' b lim1 d4 w5 (Nat.le_refl _) (by have := HQ.out; omega) (by rw [HS4.out]; omega) (by rw [HS4.out]; exact HSZ.out) hlim1 (by rw [HQ.out.2.2]; exact HM.out.2.1) h5.self
                      rw [HS4.out] at hrec
                      have HREC := Lib.hid hrec; clear hrec h5
                      go_wp2_with fail
                      refine HREC.out.mono ?_
                      rintro e w6 ⟨rfl, d5, hp5, hs5, h6⟩
                      rw [HQ.out.2.2] at hp5 hs5
                      obtain ⟨hB5, hF5⟩ := HM.out.2.2.2 d5 hp5 hs5
                      have HF5 := Lib.hid hF5
                      have HB5 : Hid (Sort.Below ltU a mid d5) := hB5
                      have HS5 : Hid (d5.size = d.size) := by show _ = _; rw [hp5.1]; exact HS4.out
                      clear hB5 hF5 hp5 hs5
                      go_wp2_with fail
                      go_roundw
                      case rel => exact ⟨a, mid, lim1, _, _, d5, rfl, rfl, rfl, rfl, rfl, hlim1, m1, by omega, by omega, HS5.out, HB5, HA6.out.trans h6, fun d' q1 q2 => by
                        have q := HF5.out d' q1 q2
                        exact HF.out d' (permIn_trans dk d3 d' a b HP3.out q.1) q.2⟩
                      case measure => (simp [intOf]) <;> omega
end Go.Proofs.Ytoodfmilleodaaa

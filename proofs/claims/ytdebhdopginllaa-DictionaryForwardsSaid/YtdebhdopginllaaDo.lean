/- Learn of the reference. -/
import Derived.Test.YtdebhdopginllaaDn
namespace Go.Proofs.Ytdebhdopginllaa
open Go.RowKit Go.Proofs Go.Sort
set_option linter.unusedVariables false

theorem words_len {bs : List UInt8} {k : Nat} (h : k < (wordsL bs).length) : (gs (wordsL bs) k).length ≤ bs.length := by
  rw [gs_get h]; exact wordsTo_mem (Nat.le_refl _) _ (List.getElem_mem h)
theorem best_next_skip {ws out : List (List UInt8)} {k : Nat} (h : isWordB (gs ws k) = false ∨ gs ws k ∈ out) : bestTo ws out (k + 1) = bestTo ws out k := by rw [bestTo, if_pos h]
theorem best_next_take {ws out : List (List UInt8)} {k : Nat} (h1 : isWordB (gs ws k) = true) (h2 : gs ws k ∉ out) (h : (bestTo ws out k).2 < gainS ws (gs ws k) ∨ (gainS ws (gs ws k) = (bestTo ws out k).2 ∧ 0 < gainS ws (gs ws k) ∧ gs ws k < (bestTo ws out k).1)) : bestTo ws out (k + 1) = (gs ws k, gainS ws (gs ws k)) := by
  rw [bestTo, if_neg (by rw [h1]; simpa using h2), if_pos h]
theorem best_next_keep {ws out : List (List UInt8)} {k : Nat} (h1 : isWordB (gs ws k) = true) (h2 : gs ws k ∉ out) (h : ¬ ((bestTo ws out k).2 < gainS ws (gs ws k) ∨ (gainS ws (gs ws k) = (bestTo ws out k).2 ∧ 0 < gainS ws (gs ws k) ∧ gs ws k < (bestTo ws out k).1))) : bestTo ws out (k + 1) = bestTo ws out k := by
  rw [bestTo, if_neg (by rw [h1]; simpa using h2), if_neg h]

set_option maxRecDepth 100000 in
set_option maxHeartbeats 4000000 in
theorem learnR_any (A : Option Addr) (c m : Nat) (bs : List UInt8) (most : Int) (w : World) (hy : Bytes w A m c bs) (hm : m ≤ 2000) (hmo : -9223372036854775808 ≤ most ∧ most ≤ 9223372036854775807) :
    Calls Try.prog 10 #[.slice A m c, .int .i64 most] w (RetStrs w (learnR bs most).1 ((learnR bs most).2 : Nat)) := by
  have Hl := Lib.hid hy.1
  have d65 : decide ((65536 : Int) < (m : Int)) = false := by simp; omega
  by_cases hneg : most < 0
  · have hR : Hid ((learnR bs most).1 = [] ∧ (learnR bs most).2 = 2) := by show _ ∧ _; unfold learnR; rw [if_pos (.inl hneg)]; exact ⟨rfl, rfl⟩
    have d1 : decide (most < 0) = true := by simpa using hneg
    go_enter Try.func10, Try.ntmps10
    go_wp2_with fail
    go_ret2
    rw [hR.out.1, hR.out.2]
    exact RetStrs.err rfl (Below.refl _ _)
  · have d1 : decide (most < 0) = false := by simpa using hneg
    by_cases hbig : 64 < most
    · have hR : Hid ((learnR bs most).1 = [] ∧ (learnR bs most).2 = 2) := by show _ ∧ _; unfold learnR; rw [if_pos (.inr hbig)]; exact ⟨rfl, rfl⟩
      have d2 : decide (64 < most) = true := by simpa using hbig
      go_enter Try.func10, Try.ntmps10
      go_wp2_with fail
      go_ret2
      rw [hR.out.1, hR.out.2]
      exact RetStrs.err rfl (Below.refl _ _)
    · have d2 : decide (64 < most) = false := by simpa using hbig
      obtain ⟨mo, hmo'⟩ : ∃ mo : Nat, most = (mo : Int) := ⟨most.toNat, by omega⟩
      subst hmo'
      have hR : Hid ((learnR bs (mo : Int)).1 = learnSel (wordsL bs) mo [] ∧ (learnR bs (mo : Int)).2 = 0) := by show _ ∧ _; unfold learnR; rw [if_neg (by omega)]; exact ⟨rfl, rfl⟩
      have hcal := words_any A c m bs w hy (by omega)
      have Hcal := Lib.hid hcal; clear hcal
      have hwl : (wordsL bs).length ≤ 2000 := by
        have h1 : (wordsL bs).length ≤ _ := wordsTo_le bs (piecesL bs).length
        have h2 := pieces_len bs
        rw [Hl.out] at h2
        omega
      have Hwm : Hid (∀ k, k < (wordsL bs).length → (gs (wordsL bs) k).length ≤ 2000) := fun k hk => by have := words_len hk; rw [Hl.out] at this; omega
      go_enter Try.func10, Try.ntmps10
      go_wp2_with fail
      refine Hcal.out.mono ?_
      rintro e w1 ⟨A1, n1, c1, rfl, ho1, hb1⟩
      have hs1 := ho1.strs
      have Hn1 := Lib.hid hs1.1
      rw [Hn1.out] at hwl
      obtain ⟨ws, hws⟩ : ∃ ws, ws = wordsL bs := ⟨_, rfl⟩
      rw [← hws] at hs1 Hn1 Hwm hR
      clear Hcal ho1 hws
      have hmo64 : mo ≤ 64 := by omega
      go_wp2_with fail
      go_loopw [7, 8, 9, 10, 11, 12] (fun o _ _ _ _ _ wr => ∃ (j : Nat) (A2 : Option Addr) (c2 : Nat) (out : List (List UInt8)), j ≤ mo ∧ o = .slice A2 j c2 ∧ Own encS wr w1.heap.size 9 A2 j c2 out ∧ Hid (learnSel ws mo [] = learnSel ws (mo - j) out) ∧ Below w1.heap.size w1 wr) (fun o _ _ _ _ _ _ => mo - vLen o)
      case atStart => exact ⟨0, none, 0, [], Nat.zero_le _, rfl, Own.nil _ _ _ _, rfl, Below.refl _ _⟩
      case round =>
        obtain ⟨j, A2, c2, out, hj, rfl, hown, HL, hbel⟩ := hrel
        obtain ⟨wo, hwo⟩ : ∃ wo : World, wo = wr := ⟨_, rfl⟩
        subst hwo
        have hso := hown.strs
        by_cases hlt : j < mo
        · have dj : decide ((j : Int) < (mo : Int)) = true := by simp; omega
          have dj' : decide (j < mo) = true := by simp; omega
          go_wp2_with fail
          go_loopw [8, 9, 10, 11, 12] (fun b g i _ _ wr => ∃ k : Nat, k ≤ n1 ∧ i = .int .i64 (k : Int) ∧ b = .string (strB (bestTo ws out k).1) ∧ g = .int .i64 (bestTo ws out k).2 ∧ Below wo.heap.size wo wr) (fun _ _ i _ _ _ => n1 - (intOf i).toNat)
          case atStart => exact ⟨0, Nat.zero_le _, rfl, rfl, rfl, Below.refl _ _⟩
          case round =>
            obtain ⟨k, hk, rfl, rfl, rfl, hbi⟩ := hrel
            have hb1r : Below w1.heap.size w1 wr := hbel.trans (hbi.mono hbel.size)
            by_cases hkl : k < n1
            · have dk : decide ((k : Int) < (n1 : Int)) = true := by simp; omega
              have dk' : decide (k < n1) = true := by simp; omega
              have hsr := hs1.below hb1r
              have hsor := hso.below hbi
              have hslen := Hwm.out k (by rw [Hn1.out]; exact hkl)
              have hiw := isWord_any (gs ws k) wr (by omega)
              obtain ⟨b4, off4, rfl, hb4, hc4⟩ := hsr.get hkl
              have c4 := hc4 k hkl
              clear hc4
              by_cases hw : isWordB (gs ws k) = true
              · rw [hw] at hiw
                have Hiw := Lib.hid hiw; clear hiw
                go_wp2_with fail
                refine Hiw.out.mono ?_
                rintro e w2 ⟨rfl, hb2⟩
                have hbi2 : Below wo.heap.size wo w2 := hbi.trans (hb2.mono hbi.size)
                have hpl := place_any A2 c2 j out (gs ws k) w2 (hsor.below hb2) (by omega)
                have Hpl := Lib.hid hpl; clear hpl
                have dpl := placeL_ge out (gs ws k)
                by_cases hmem : gs ws k ∈ out
                · rw [decide_eq_true hmem] at dpl
                  have Hnx : Hid (bestTo ws out (k + 1) = bestTo ws out k) := best_next_skip (.inr hmem)
                  clear hw hmem
                  go_wp2_with fail
                  refine Hpl.out.mono ?_
                  rintro e w3 ⟨rfl, hw3⟩
                  obtain rfl : w2 = w3 := hw3.symm
                  go_wp2_with fail
                  go_roundw
                  case rel => exact ⟨k + 1, by omega, by go_num, by rw [Hnx.out], by rw [Hnx.out], hbi2⟩
                  case measure => simp [intOf]; omega
                · rw [decide_eq_false hmem] at dpl
                  have hgc := gain_any (some ⟨b4, off4, none⟩) c1 n1 ws (gs ws k) w2 (hsr.below hb2) (by omega) (by omega)
                  rw [← Hn1.out, gainS_cnt, Hn1.out] at hgc
                  have Hgc := Lib.hid hgc; clear hgc
                  have hless : Op.bytesLess (strB (gs ws k)).toList (strB (bestTo ws out k).1).toList = decide (gs ws k < (bestTo ws out k).1) := by rw [strB_less, bytesLess_eq]
                  by_cases hA : (bestTo ws out k).2 < gainS ws (gs ws k)
                  · have Hnx : Hid (bestTo ws out (k + 1) = (gs ws k, gainS ws (gs ws k))) := best_next_take hw hmem (.inl hA)
                    have dA : decide ((bestTo ws out k).2 < gainS ws (gs ws k)) = true := decide_eq_true hA
                    clear hw hmem hless
                    go_wp2_with (first
                      | (go_at_call 41; refine Hpl.out.mono ?_; rintro e w3 ⟨rfl, hw3⟩; obtain rfl : w2 = w3 := hw3.symm)
                      | (go_at_call 42; refine Hgc.out.mono ?_; rintro e w3 ⟨rfl, hw3⟩; obtain rfl : w2 = w3 := hw3.symm))
                    go_roundw
                    case rel => exact ⟨k + 1, by omega, by go_num, by rw [Hnx.out], by rw [Hnx.out], hbi2⟩
                    case measure => simp [intOf]; omega
                  · have dA : decide ((bestTo ws out k).2 < gainS ws (gs ws k)) = false := decide_eq_false hA
                    by_cases hB : gainS ws (gs ws k) = (bestTo ws out k).2
                    · have dB : (gainS ws (gs ws k) == (bestTo ws out k).2) = true := by rw [hB]; simp
                      by_cases hC : 0 < gainS ws (gs ws k)
                      · have dC : decide (0 < gainS ws (gs ws k)) = true := decide_eq_true hC
                        by_cases hD : gs ws k < (bestTo ws out k).1
                        · have Hnx : Hid (bestTo ws out (k + 1) = (gs ws k, gainS ws (gs ws k))) := best_next_take hw hmem (.inr ⟨hB, hC, hD⟩)
                          rw [decide_eq_true hD] at hless
                          clear hw hmem hA hB hC hD
                          go_wp2_with (first
                            | (go_at_call 41; refine Hpl.out.mono ?_; rintro e w3 ⟨rfl, hw3⟩; obtain rfl : w2 = w3 := hw3.symm)
                            | (go_at_call 42; refine Hgc.out.mono ?_; rintro e w3 ⟨rfl, hw3⟩; obtain rfl : w2 = w3 := hw3.symm))
                          go_roundw
                          case rel => exact ⟨k + 1, by omega, by go_num, by rw [Hnx.out], by rw [Hnx.out], hbi2⟩
                          case measure => simp [intOf]; omega
                        · have Hnx : Hid (bestTo ws out (k + 1) = bestTo ws out k) := best_next_keep hw hmem (fun h => h.elim hA fun h => hD h.2.2)
                          rw [decide_eq_false hD] at hless
                          clear hw hmem hA hB hC hD
                          go_wp2_with (first
                            | (go_at_call 41; refine Hpl.out.mono ?_; rintro e w3 ⟨rfl, hw3⟩; obtain rfl : w2 = w3 := hw3.symm)
                            | (go_at_call 42; refine Hgc.out.mono ?_; rintro e w3 ⟨rfl, hw3⟩; obtain rfl : w2 = w3 := hw3.symm))
                          go_roundw
                          case rel => exact ⟨k + 1, by omega, by go_num, by rw [Hnx.out], by rw [Hnx.out], hbi2⟩
                          case measure => simp [intOf]; omega
                      · have dC : decide (0 < gainS ws (gs ws k)) = false := decide_eq_false hC
                        have Hnx : Hid (bestTo ws out (k + 1) = bestTo ws out k) := best_next_keep hw hmem (fun h => h.elim hA fun h => hC h.2.1)
                        clear hw hmem hA hB hC hless
                        go_wp2_with (first
                          | (go_at_call 41; refine Hpl.out.mono ?_; rintro e w3 ⟨rfl, hw3⟩; obtain rfl : w2 = w3 := hw3.symm)
                          | (go_at_call 42; refine Hgc.out.mono ?_; rintro e w3 ⟨rfl, hw3⟩; obtain rfl : w2 = w3 := hw3.symm))
                        go_roundw
                        case rel => exact ⟨k + 1, by omega, by go_num, by rw [Hnx.out], by rw [Hnx.out], hbi2⟩
                        case measure => simp [intOf]; omega
                    · have dB : (gainS ws (gs ws k) == (bestTo ws out k).2) = false := by simpa using hB
                      have Hnx : Hid (bestTo ws out (k + 1) = bestTo ws out k) := best_next_keep hw hmem (fun h => h.elim hA fun h => hB h.1)
                      clear hw hmem hA hB hless
                      go_wp2_with (first
                        | (go_at_call 41; refine Hpl.out.mono ?_; rintro e w3 ⟨rfl, hw3⟩; obtain rfl : w2 = w3 := hw3.symm)
                        | (go_at_call 42; refine Hgc.out.mono ?_; rintro e w3 ⟨rfl, hw3⟩; obtain rfl : w2 = w3 := hw3.symm))
                      go_roundw
                      case rel => exact ⟨k + 1, by omega, by go_num, by rw [Hnx.out], by rw [Hnx.out], hbi2⟩
                      case measure => simp [intOf]; omega
              · have hw' : isWordB (gs ws k) = false := by simpa using hw
                rw [hw'] at hiw
                have Hiw := Lib.hid hiw; clear hiw
                have Hnx : Hid (bestTo ws out (k + 1) = bestTo ws out k) := best_next_skip (.inl hw')
                clear hw hw'
                go_wp2_with fail
                refine Hiw.out.mono ?_
                rintro e w2 ⟨rfl, hb2⟩
                have hbi2 : Below wo.heap.size wo w2 := hbi.trans (hb2.mono hbi.size)
                go_wp2_with fail
                go_roundw
                case rel => exact ⟨k + 1, by omega, by go_num, by rw [Hnx.out], by rw [Hnx.out], hbi2⟩
                case measure => simp [intOf]; omega
            · have dk : decide ((k : Int) < (n1 : Int)) = false := by simp; omega
              have dk' : decide (k < n1) = false := by simp; omega
              have hkn : k = ws.length := by have := Hn1.out; omega
              have hsel : learnSel ws (mo - j) out = if (bestTo ws out k).2 ≤ 0 then out else learnSel ws (mo - (j + 1)) (out ++ [(bestTo ws out k).1]) := by
                rw [show mo - j = (mo - (j + 1)) + 1 by omega, learnSel, hkn]
              clear hkn
              obtain ⟨B, hB⟩ : ∃ B, B = bestTo ws out k := ⟨_, rfl⟩
              rw [← hB] at hsel ⊢
              clear hB
              by_cases hg : B.2 ≤ 0
              · rw [if_pos hg] at hsel
                have dg : decide (B.2 ≤ 0) = true := by simpa using hg
                have Hsel := Lib.hid hsel; clear hsel
                go_wp2_with fail
                go_ret2
                rw [hR.out.1, hR.out.2, HL.out, Hsel.out]
                exact RetStrs.mk rfl (hso.below hbi) (hb1.trans (hb1r.mono hb1.size))
              · rw [if_neg hg] at hsel
                have dg : decide (B.2 ≤ 0) = false := by simpa using hg
                have HL2 : Hid (learnSel ws mo [] = learnSel ws (mo - (j + 1)) (out ++ [B.1])) := by show _ = _; rw [HL.out, hsel]
                clear hsel
                have m1 : Hid (j + 1 ≤ maxLen ∧ (j + 1) * 16 ≤ 140737488355328) := ⟨by simp [maxLen]; omega, by omega⟩
                have hownr := hown.below hbi
                have hBr : Hid (w1.heap.size ≤ wr.heap.size) := hb1r.size
                go_wp2_with (at_builtin; refine wpList_push (enc := encS) rfl (.tmp 72) (.tmp 74) rfl uSS infoS encS_one rfl rfl hownr hBr.out B.1 rfl m1.out.1 m1.out.2 ?_; intro A6 c6 W6 ho6 hb6)
                go_roundw
                case rel => exact ⟨j + 1, A6, c6, _, by omega, rfl, ho6, HL2, hb1r.trans hb6⟩
                case measure => simp [vLen]; omega
        · have dj : decide ((j : Int) < (mo : Int)) = false := by simp; omega
          have dj' : decide (j < mo) = false := by simp; omega
          have HL2 : Hid (learnSel ws mo [] = out) := by show _ = _; rw [HL.out, show mo - j = 0 by omega]; rfl
          go_wp2_with fail
          go_ret2
          rw [hR.out.1, hR.out.2, HL2.out]
          exact RetStrs.mk rfl hso (hb1.trans (hbel.mono hb1.size))
end Go.Proofs.Ytdebhdopginllaa

/- slices.Contains at strings, Check of the program, Uncode (both). -/
import Derived.Test.YtdebhdopginllaaDg
namespace Go.Proofs.Ytdebhdopginllaa
open Go.RowKit Go.Proofs
set_option linter.unusedVariables false

set_option maxHeartbeats 400000 in
theorem index_any (A : Option Addr) (c n : Nat) (ss : List (List UInt8)) (s : List UInt8) (w : World) (hx : Strs w A n c ss) (hn : n ≤ 1000000000) :
    Calls Try.prog 64 #[.slice A n c, .string (strB s)] w fun e w' => e = .returned (.int .i64 (placeL ss s)) ∧ w' = w := by
  have Hl := Lib.hid hx.1
  go_enter Try.func64, Try.ntmps64
  go_wp2
  go_loop [5, 8] (fun _ i => ∃ k : Nat, k ≤ n ∧ i = .int .i64 k ∧ Hid (∀ j, j < k → gs ss j ≠ s)) (fun _ i => n - (intOf i).toNat)
  case atStart => exact ⟨0, Nat.zero_le _, rfl, fun j hj => absurd hj (by omega)⟩
  case round =>
    obtain ⟨k, hk, rfl, HK⟩ := hrel
    by_cases hlt : k < n
    · obtain ⟨b, off, rfl, hb, hc⟩ := hx.get hlt
      have h1 := hc k hlt
      clear hc
      by_cases he : gs ss k = s
      · have hd : ((strB s).toList == (strB (gs ss k)).toList) = true := by rw [strB_beq]; exact decide_eq_true he.symm
        have hfin : Hid (placeL ss s = k) := placeL_at (by rw [Hl.out]; exact hlt) HK.out he
        clear he
        go_wp2
        go_ret
        exact ⟨ret_int hfin.out.symm, rfl⟩
      · have hd : ((strB s).toList == (strB (gs ss k)).toList) = false := by rw [strB_beq]; exact decide_eq_false (fun h => he h.symm)
        have He := Lib.hid he; clear he
        go_wp2
        go_round
        case rel => exact ⟨k + 1, by omega, by go_num, fun j hj => by
          rcases Nat.lt_succ_iff_lt_or_eq.1 hj with h | h
          · exact HK.out j h
          · subst h; exact He.out⟩
        case measure => simp [intOf]; omega
    · have hfin : Hid (placeL ss s = -1) := placeL_none (fun j hj => HK.out j (by have := Hl.out; omega))
      go_wp2
      go_ret
      exact ⟨ret_int hfin.out.symm, rfl⟩

set_option maxHeartbeats 400000 in
theorem contains_any (A : Option Addr) (c n : Nat) (ss : List (List UInt8)) (s : List UInt8) (w : World) (hx : Strs w A n c ss) (hn : n ≤ 1000000000) :
    Calls Try.prog 44 #[.slice A n c, .string (strB s)] w fun e w' => e = .returned (.bool (decide (s ∈ ss))) ∧ w' = w := by
  have hcal := index_any A c n ss s w hx hn
  have Hcal := Lib.hid hcal; clear hcal
  have hfin := Lib.hid (placeL_ge ss s)
  go_enter Try.func44, Try.ntmps44
  go_wp2_with fail
  refine Hcal.out.mono ?_
  rintro e w1 ⟨rfl, hw1⟩
  obtain rfl : w = w1 := hw1.symm
  go_wp2_with fail
  go_ret
  exact ⟨ret_bool hfin.out, rfl⟩

set_option maxHeartbeats 1000000 in
theorem checkP_any (A : Option Addr) (c n : Nat) (ss : List (List UInt8)) (w : World) (hx : Strs w A n c ss) (hn : n ≤ 1000000000) (hl : ∀ s ∈ ss, s.length ≤ 1000000000) :
    Calls Try.prog 17 #[.slice A n c] w fun e w' => e = .returned (.int .i64 ((checkL ss : Nat) : Int)) ∧ w' = w := by
  have Hl := Lib.hid hx.1
  by_cases h64 : n ≤ 64
  · have d0 : decide ((64 : Int) < (n : Int)) = false := by simp; omega
    have hce : Hid (checkL ss = checkTo ss n) := by show _ = _; unfold checkL; rw [if_neg (by rw [Hl.out]; omega), Hl.out]
    go_enter Try.func17, Try.ntmps17
    go_wp2_with fail
    go_loop [3, 4, 10] (fun _ _ i => ∃ k : Nat, k ≤ n ∧ i = .int .i64 k ∧ Hid (checkTo ss k = 0)) (fun _ _ i => n - (intOf i).toNat)
    case atStart => exact ⟨0, Nat.zero_le _, rfl, rfl⟩
    case round =>
      obtain ⟨k, hk, rfl, HK⟩ := hrel
      by_cases hlt : k < n
      · have hlk : (gs ss k).length ≤ 1000000000 := by rw [gs_get (by rw [Hl.out]; exact hlt)]; exact hl _ (List.getElem_mem _)
        obtain ⟨r1, v1⟩ := hx.cut_h (k : Int) (by omega) (by omega)
        rw [Int.toNat_natCast] at r1 v1
        have hcal := allowed_any (gs ss k) w hlk
        have hpl := contains_any _ _ _ _ (gs ss k) _ v1 (by omega)
        obtain ⟨b, off, rfl, hb, hc⟩ := hx.get hlt
        have h1 := hc k hlt
        clear hc
        by_cases hw : isWordB (gs ss k) = true
        · rw [hw] at hcal
          have Hcal := Lib.hid hcal; clear hcal
          by_cases hm : gs ss k ∈ ss.take k
          · rw [decide_eq_true hm] at hpl
            have Hpl := Lib.hid hpl; clear hpl
            have hfin : Hid (checkL ss = 8) := by
              show _ = _
              have hbad : badAt ss k = 8 := by unfold badAt; rw [if_neg (by rw [hw]; simp), if_pos hm]
              rw [hce.out, checkTo_stop HK.out (by rw [hbad]; omega) n hlt, hbad]
            clear hw hm
            go_wp2_with (first
              | (go_at_call 32; refine Hcal.out.mono ?_; rintro e w1 ⟨rfl, hw1⟩; obtain rfl : w = w1 := hw1.symm)
              | (go_at_call 44; refine Hpl.out.mono ?_; rintro e w1 ⟨rfl, hw1⟩; obtain rfl : w = w1 := hw1.symm))
            go_ret
            exact ⟨ret_int (by rw [hfin.out]; rfl), rfl⟩
          · rw [decide_eq_false hm] at hpl
            have Hpl := Lib.hid hpl; clear hpl
            have hnext : Hid (checkTo ss (k + 1) = 0) := by
              show _ = _
              rw [checkTo, if_pos HK.out]
              exact badAt_zero.2 ⟨hw, hm⟩
            clear hw hm
            go_wp2_with (first
              | (go_at_call 32; refine Hcal.out.mono ?_; rintro e w1 ⟨rfl, hw1⟩; obtain rfl : w = w1 := hw1.symm)
              | (go_at_call 44; refine Hpl.out.mono ?_; rintro e w1 ⟨rfl, hw1⟩; obtain rfl : w = w1 := hw1.symm))
            go_round
            case rel => exact ⟨k + 1, by omega, by go_num, hnext⟩
            case measure => simp [intOf]; omega
        · have hw' : isWordB (gs ss k) = false := by simpa using hw
          rw [hw'] at hcal
          have Hcal := Lib.hid hcal; clear hcal
          have hfin : Hid (checkL ss = 24) := by
            show _ = _
            have hbad : badAt ss k = 24 := by unfold badAt; rw [if_pos hw']
            rw [hce.out, checkTo_stop HK.out (by rw [hbad]; omega) n hlt, hbad]
          clear hw hw' hpl
          go_wp2_with (go_at_call 32; refine Hcal.out.mono ?_; rintro e w1 ⟨rfl, hw1⟩; obtain rfl : w = w1 := hw1.symm)
          go_ret
          exact ⟨ret_int (by rw [hfin.out]; rfl), rfl⟩
      · have hfin : Hid (checkL ss = 0) := by
          show _ = _
          obtain rfl : k = n := by omega
          rw [hce.out]; exact HK.out
        go_wp2_with fail
        go_ret
        exact ⟨ret_int (by rw [hfin.out]; rfl), rfl⟩
  · have d0 : decide ((64 : Int) < (n : Int)) = true := by simp; omega
    have hfin : Hid (checkL ss = 6) := by show _ = _; unfold checkL; rw [if_pos (by rw [Hl.out]; omega)]
    go_enter Try.func17, Try.ntmps17
    go_wp2_with fail
    go_ret
    exact ⟨ret_int (by rw [hfin.out]; rfl), rfl⟩

def uncR (ss : List (List UInt8)) (bs : List UInt8) : List UInt8 × Nat := if checkL ss = 0 then uncodeL ss bs [] else ([], checkL ss)
theorem drop_at {bs : List UInt8} {k : Nat} (h : k < bs.length) : bs.drop k = bs.getD k 0 :: bs.drop (k + 1) := by
  rw [List.drop_eq_getElem_cons h]; simp [List.getD, h]
theorem word_len {ss : List (List UInt8)} (hw : ∀ s ∈ ss, isWordB s = true) {j : Nat} (hj : j < ss.length) : (gs ss j).length ≤ 32 := by
  have := hw _ (List.getElem_mem hj)
  rw [← gs_get hj] at this
  simp [isWordB] at this
  exact this.2.1

set_option maxRecDepth 100000 in
set_option maxHeartbeats 2000000 in
theorem uncodeR_any (A A' : Option Addr) (c c' n m : Nat) (ss : List (List UInt8)) (bs : List UInt8) (w : World) (hx : Strs w A n c ss) (hy : Bytes w A' m c' bs) (hn : n ≤ 1000000000) (hl : ∀ s ∈ ss, s.length ≤ 1000000000) (hm : m ≤ 2000) :
    Calls Try.prog 16 #[.slice A n c, .slice A' m c'] w (RetBytes w (uncR ss bs).1 ((uncR ss bs).2 : Nat)) := by
  have Hl := Lib.hid hy.1
  have Hn := Lib.hid hx.1
  have hcal := checkR_any A c n ss w hx hn hl
  by_cases hc : checkL ss = 0
  · rw [hc] at hcal
    have Hcal := Lib.hid hcal; clear hcal
    obtain ⟨hs64, hsw, hnd⟩ := checkL_zero.1 hc
    have hR : Hid (uncR ss bs = uncodeL ss bs []) := by show _ = _; unfold uncR; rw [if_pos hc]
    have HS := Lib.hid hsw; clear hsw hc hnd
    have HL := Lib.hid hl; clear hl
    rw [Hn.out] at hs64
    have d65 : decide ((65536 : Int) < (m : Int)) = false := by simp; omega
    go_enter Try.func16, Try.ntmps16
    go_wp2_with fail
    refine Hcal.out.mono ?_
    rintro e w1 ⟨rfl, hb1⟩
    have hx1 := hx.below hb1
    have hy1 := hy.below hb1
    clear hx hy Hcal
    go_wp2_with fail
    go_loopw [7, 8, 9] (fun o i _ wr => ∃ (k : Nat) (A2 : Option Addr) (n2 c2 : Nat) (out : List UInt8), k ≤ m ∧ i = .int .i64 (k : Int) ∧ o = .slice A2 n2 c2 ∧ n2 ≤ 32 * k ∧ Own encB wr w1.heap.size 5 A2 n2 c2 out ∧ Hid (uncodeL ss bs [] = uncodeL ss (bs.drop k) out) ∧ Below w1.heap.size w1 wr) (fun _ i _ _ => m - (intOf i).toNat)
    case atStart => exact ⟨0, none, 0, 0, [], Nat.zero_le _, rfl, rfl, by omega, Own.nil _ _ _ _, by simp [Hid], Below.refl _ _⟩
    case round =>
      obtain ⟨k, A2, n2, c2, out, hk, rfl, rfl, hn2, hown, HU, hbel⟩ := hrel
      by_cases hlt : k < m
      · have hU := HU.out
        rw [drop_at (by rw [Hl.out]; exact hlt)] at hU
        have hxr := hx1.below hbel
        have hyr := hy1.below hbel
        obtain ⟨bb, off, rfl, hbk, hcell⟩ := hyr.get hlt
        have c1 := hcell k hlt
        clear hcell
        obtain ⟨y, hyd⟩ : ∃ y, y = bs.getD k 0 := ⟨_, rfl⟩
        rw [← hyd] at hU
        have hgb : gb bs k = (y.toNat : Int) := by rw [hyd]; rfl
        have hy256 := y.toNat_lt
        rw [hgb] at c1
        clear hgb hyd
        have Hey : Hid (encB y = .int .u8 (y.toNat : Int)) := rfl
        have m1 : Hid (n2 + 1 ≤ maxLen ∧ (n2 + 1) * 1 ≤ 140737488355328) := ⟨by simp [maxLen]; omega, by omega⟩
        have HU0 : Hid True := trivial
        by_cases h1 : y.toNat < 128
        · rw [uncodeL_low h1] at hU
          have HU1 := Lib.hid hU; clear hU
          obtain ⟨X, hX⟩ : ∃ X, X = y.toNat := ⟨_, rfl⟩
          rw [← hX] at c1 h1 hy256 Hey
          clear hX
          have d1 : decide ((128 : Int) ≤ (X : Int)) = false := by simp; omega
          have d1' : decide (128 ≤ X) = false := by simp; omega
          have d2 : decide ((X : Int) < 128) = true := by simp; omega
          have d2' : decide (X < 128) = true := by simp; omega
          have d3 : decide ((65536 : Int) < ((n2 + 1 : Nat) : Int)) = false := by simp; omega
          have d3' : decide ((65536 : Int) < (n2 : Int) + 1) = false := by simp; omega
          go_wp2_with (at_builtin; refine wpList_pushv (enc := encB) rfl (.tmp 44) (.tmp 46) rfl uB infoB encB_one rfl rfl hown hbel.size y _ Hey.out rfl m1.out.1 m1.out.2 ?_; intro A6 c6 W6 ho6 hb6)
          go_roundw
          case rel => exact ⟨k + 1, A6, n2 + 1, c6, _, by omega, by go_num, rfl, by omega, ho6, HU1, hbel.trans hb6⟩
          case measure => simp [intOf]; omega
        · by_cases h255 : y.toNat = 255
          · rw [uncodeL_esc h255] at hU
            have HU1 := Lib.hid hU; clear hU
            have hX1 : 255 ≤ y.toNat := by omega
            clear h255 h1
            obtain ⟨X, hX⟩ : ∃ X, X = y.toNat := ⟨_, rfl⟩
            rw [← hX] at c1 hy256 Hey hX1
            clear hX
            have d1 : decide ((128 : Int) ≤ (X : Int)) = true := by simp; omega
            have d1' : decide (128 ≤ X) = true := by simp; omega
            have d2 : decide ((X : Int) < 128) = false := by simp; omega
            have d2' : decide (X < 128) = false := by simp; omega
            have d3 : decide ((X : Int) < 255) = false := by simp; omega
            have d3' : decide (X < 255) = false := by simp; omega
            by_cases hk1 : k + 1 < m
            · have d4 : ((k : Int) + 1 == (m : Int)) = false := by simp; omega
              have d4' : (((k + 1 : Nat) : Int) == (m : Int)) = false := by simp; omega
              have HU2 := HU1.out
              rw [drop_at (k := k + 1) (by rw [Hl.out]; exact hk1)] at HU2
              have c3 := hyr.cell (k := k + 1) hk1
              obtain ⟨z, hzd⟩ : ∃ z, z = bs.getD (k + 1) 0 := ⟨_, rfl⟩
              rw [← hzd] at HU2
              have hgb : gb bs (k + 1) = (z.toNat : Int) := by rw [hzd]; rfl
              have hz256 := z.toNat_lt
              rw [hgb] at c3
              clear hgb hzd HU1
              have Hez : Hid (encB z = .int .u8 (z.toNat : Int)) := rfl
              simp only at HU2
              by_cases hz : z.toNat < 128
              · rw [if_pos hz] at HU2
                have HU3 := Lib.hid HU2; clear HU2
                obtain ⟨Z, hZ⟩ : ∃ Z, Z = z.toNat := ⟨_, rfl⟩
                rw [← hZ] at c3 hz256 Hez hz
                clear hZ
                have d5 : decide ((Z : Int) < 128) = true := by simp; omega
                have d5' : decide (Z < 128) = true := by simp; omega
                go_wp2_with fail
                go_ret2
                rw [hR.out, HU3.out]
                exact RetBytes.err rfl (hb1.trans (hbel.mono hb1.size))
              · rw [if_neg hz] at HU2
                have HU3 := Lib.hid HU2; clear HU2
                obtain ⟨Z, hZ⟩ : ∃ Z, Z = z.toNat := ⟨_, rfl⟩
                rw [← hZ] at c3 hz256 Hez hz
                clear hZ
                have d5 : decide ((Z : Int) < 128) = false := by simp; omega
                have d5' : decide (Z < 128) = false := by simp; omega
                have d6 : decide ((65536 : Int) < ((n2 + 1 : Nat) : Int)) = false := by simp; omega
                have d6' : decide ((65536 : Int) < (n2 : Int) + 1) = false := by simp; omega
                go_wp2_with (at_builtin; refine wpList_pushv (enc := encB) rfl (.tmp 68) (.tmp 73) rfl uB infoB encB_one rfl rfl hown hbel.size z _ Hez.out rfl m1.out.1 m1.out.2 ?_; intro A6 c6 W6 ho6 hb6)
                go_roundw
                case rel => exact ⟨k + 1 + 1, A6, n2 + 1, c6, _, by omega, by go_num, rfl, by omega, ho6, HU3, hbel.trans hb6⟩
                case measure => simp [intOf]; omega
            · have d4 : ((k : Int) + 1 == (m : Int)) = true := by simp; omega
              have d4' : (((k + 1 : Nat) : Int) == (m : Int)) = true := by simp; omega
              have HU2 : Hid (uncodeL ss bs [] = ([], 9)) := by
                show _ = _
                rw [HU1.out, List.drop_of_length_le (by rw [Hl.out]; omega)]
              clear HU1
              go_wp2_with fail
              go_ret2
              rw [hR.out, HU2.out]
              exact RetBytes.err rfl (hb1.trans (hbel.mono hb1.size))
          · by_cases hw : y.toNat - 128 < n
            · rw [uncodeL_word (by omega) h255 (by rw [Hn.out]; exact hw)] at hU
              have HU1 := Lib.hid hU; clear hU
              have hwl := word_len HS.out (j := y.toNat - 128) (by rw [Hn.out]; exact hw)
              obtain ⟨b4, off4, rfl, hb4, hc4⟩ := hxr.get hw
              have c4 := hc4 (y.toNat - 128) hw
              clear hc4
              obtain ⟨X, hX⟩ : ∃ X, X = y.toNat := ⟨_, rfl⟩
              rw [← hX] at c1 c4 hy256 Hey h255 h1 hw hwl HU1
              clear hX
              have d1 : decide ((128 : Int) ≤ (X : Int)) = true := by simp; omega
              have d1' : decide (128 ≤ X) = true := by simp; omega
              have d2 : decide ((X : Int) < 128) = false := by simp; omega
              have d2' : decide (X < 128) = false := by simp; omega
              have d3 : decide ((X : Int) < 255) = true := by simp; omega
              have d3' : decide (X < 255) = true := by simp; omega
              have d4 : decide ((n : Int) ≤ (X : Int) - 128) = false := by simp; omega
              have b8 : (X : Int) - 128 < (n : Int) := by omega
              have b0 : 0 ≤ (X : Int) - 128 := by omega
              have d6 : decide ((65536 : Int) < ((n2 + (gs ss (X - 128)).length : Nat) : Int)) = false := by simp; omega
              have d6' : decide ((65536 : Int) < (n2 : Int) + ((gs ss (X - 128)).length : Int)) = false := by simp; omega
              have m2 : Hid (n2 + (gs ss (X - 128)).length ≤ maxLen ∧ n2 + (gs ss (X - 128)).length ≤ 140737488355328) := ⟨by simp [maxLen]; omega, by omega⟩
              have h1' : 128 ≤ X := by omega
              clear h1 h255
              go_wp2_with (at_builtin; refine wpList_apps rfl (.tmp 50) (.tmp 55) rfl uB uS infoB rfl hown hbel.size (gs ss (X - 128)) rfl m2.out.1 m2.out.2 ?_; intro A6 c6 W6 ho6 hb6)
              go_roundw
              case rel => exact ⟨k + 1, A6, n2 + (gs ss (X - 128)).length, c6, _, by omega, by go_num, rfl, by omega, ho6, HU1, hbel.trans hb6⟩
              case measure => simp [intOf]; omega
            · rw [uncodeL_none (by omega) h255 (by rw [Hn.out]; omega)] at hU
              have HU1 := Lib.hid hU; clear hU
              obtain ⟨X, hX⟩ : ∃ X, X = y.toNat := ⟨_, rfl⟩
              rw [← hX] at c1 hy256 Hey h255 h1 hw
              clear hX
              have d1 : decide ((128 : Int) ≤ (X : Int)) = true := by simp; omega
              have d1' : decide (128 ≤ X) = true := by simp; omega
              have d3 : decide ((X : Int) < 255) = true := by simp; omega
              have d3' : decide (X < 255) = true := by simp; omega
              have d4 : decide ((n : Int) ≤ (X : Int) - 128) = true := by simp; omega
              go_wp2_with fail
              go_ret2
              rw [hR.out, HU1.out]
              exact RetBytes.err rfl (hb1.trans (hbel.mono hb1.size))
      · have HU2 : Hid (uncodeL ss bs [] = (out, 0)) := by
          show _ = _
          rw [HU.out, List.drop_of_length_le (by rw [Hl.out]; omega)]
          rfl
        go_wp2_with fail
        go_ret2
        rw [hR.out, HU2.out]
        exact RetBytes.mk rfl hown.bytesB (hb1.trans (hbel.mono hb1.size))
  · rw [show ((checkL ss : Nat) : Int) = _ from rfl] at hcal
    have Hcal := Lib.hid hcal; clear hcal
    have hR : Hid ((uncR ss bs).1 = [] ∧ (uncR ss bs).2 = checkL ss) := by show _ ∧ _; unfold uncR; rw [if_neg hc]; exact ⟨rfl, rfl⟩
    have d0 : (((checkL ss : Nat) : Int) != 0) = true := by simp; exact hc
    clear hc
    go_enter Try.func16, Try.ntmps16
    go_wp2_with fail
    refine Hcal.out.mono ?_
    rintro e w1 ⟨rfl, hb1⟩
    go_wp2_with fail
    go_ret2
    rw [hR.out.1, hR.out.2]
    exact RetBytes.err rfl hb1
end Go.Proofs.Ytdebhdopginllaa

/- slices.Contains at strings, Check of the program, Uncode (both). -/
import Derived.Test.YtdebhdopginllaaDoorDg
namespace Go.Proofs.YtdebhdopginllaaDoor
open Go.RowKit Go.Proofs
set_option linter.unusedVariables false

set_option maxHeartbeats 400000 in
theorem index_any (A : Option Addr) (c n : Nat) (ss : List (List UInt8)) (s : List UInt8) (w : World) (hx : Strs w A n c ss) (hn : n ≤ 1000000000) :
    Calls Tryd.prog 29 #[.slice A n c, .string (strB s)] w fun e w' => e = .returned (.int .i64 (placeL ss s)) ∧ w' = w := by
  have Hl := Lib.hid hx.1
  go_enter Tryd.func29, Tryd.ntmps29
  go_wp2
  go_loop [5, 8] (fun _ i => ∃ k : Nat, k ≤ n ∧ i = .int .i64 k ∧ Hid (∀ j, j < k → gs ss j ≠ s)) (fun _ i => n - (intOf i).toNat)
  case atStart => exact ⟨0, Nat.zero_le _, rfl, fun j hj => absurd hj (by omega)⟩
  case round =>
    obtain ⟨k, hk, rfl, HK⟩ := hrel
    by_cases hlt : k < n
    · obtain ⟨b, off, rfl, hb, hc⟩ := hx.get hlt
      have h1 := hc k hlt
      clear hc
      by_cases he : gs ss k = s
      · have hd : ((strB s).toList == (strB (gs ss k)).toList) = true := by rw [strB_beq]; exact decide_eq_true he.symm
        have hfin : Hid (placeL ss s = k) := placeL_at (by rw [Hl.out]; exact hlt) HK.out he
        clear he
        go_wp2
        go_ret
        exact ⟨ret_int hfin.out.symm, rfl⟩
      · have hd : ((strB s).toList == (strB (gs ss k)).toList) = false := by rw [strB_beq]; exact decide_eq_false (fun h => he h.symm)
        have He := Lib.hid he; clear he
        go_wp2
        go_round
        case rel => exact ⟨k + 1, by omega, by go_num, fun j hj => by
          rcases Nat.lt_succ_iff_lt_or_eq.1 hj with h | h
          · exact HK.out j h
          · subst h; exact He.out⟩
        case measure => simp [intOf]; omega
    · have hfin : Hid (placeL ss s = -1) := placeL_none (fun j hj => HK.out j (by have := Hl.out; omega))
      go_wp2
      go_ret
      exact ⟨ret_int hfin.out.symm, rfl⟩

set_option maxHeartbeats 400000 in
theorem contains_any (A : Option Addr) (c n : Nat) (ss : List (List UInt8)) (s : List UInt8) (w : World) (hx : Strs w A n c ss) (hn : n ≤ 1000000000) :
    Calls Tryd.prog 12 #[.slice A n c, .string (strB s)] w fun e w' => e = .returned (.bool (decide (s ∈ ss))) ∧ w' = w := by
  have hcal := index_any A c n ss s w hx hn
  have Hcal := Lib.hid hcal; clear hcal
  have hfin := Lib.hid (placeL_ge ss s)
  go_enter Tryd.func12, Tryd.ntmps12
  go_wp2_with fail
  refine Hcal.out.mono ?_
  rintro e w1 ⟨rfl, hw1⟩
  obtain rfl : w = w1 := hw1.symm
  go_wp2_with fail
  go_ret
  exact ⟨ret_bool hfin.out, rfl⟩

set_option maxHeartbeats 1000000 in
theorem checkP_any (A : Option Addr) (c n : Nat) (ss : List (List UInt8)) (w : World) (hx : Strs w A n c ss) (hn : n ≤ 1000000000) (hl : ∀ s ∈ ss, s.length ≤ 1000000000) :
    Calls Tryd.prog 7 #[.slice A n c] w fun e w' => e = .returned (.int .i64 ((checkL ss : Nat) : Int)) ∧ w' = w := by
  have Hl := Lib.hid hx.1
  by_cases h64 : n ≤ 64
  · have d0 : decide ((64 : Int) < (n : Int)) = false := by simp; omega
    have hce : Hid (checkL ss = checkTo ss n) := by show _ = _; unfold checkL; rw [if_neg (by rw [Hl.out]; omega), Hl.out]
    go_enter Tryd.func7, Tryd.ntmps7
    go_wp2_with fail
    go_loop [3, 4, 10] (fun _ _ i => ∃ k : Nat, k ≤ n ∧ i = .int .i64 k ∧ Hid (checkTo ss k = 0)) (fun _ _ i => n - (intOf i).toNat)
    case atStart => exact ⟨0, Nat.zero_le _, rfl, rfl⟩
    case round =>
      obtain ⟨k, hk, rfl, HK⟩ := hrel
      by_cases hlt : k < n
      · have hlk : (gs ss k).length ≤ 1000000000 := by rw [gs_get (by rw [Hl.out]; exact hlt)]; exact hl _ (List.getElem_mem _)
        obtain ⟨r1, v1⟩ := hx.cut_h (k : Int) (by omega) (by omega)
        rw [Int.toNat_natCast] at r1 v1
        have hcal := allowed_any (gs ss k) w hlk
        have hpl := contains_any _ _ _ _ (gs ss k) _ v1 (by omega)
        obtain ⟨b, off, rfl, hb, hc⟩ := hx.get hlt
        have h1 := hc k hlt
        clear hc
        by_cases hw : isWordB (gs ss k) = true
        · rw [hw] at hcal
          have Hcal := Lib.hid hcal; clear hcal
          by_cases hm : gs ss k ∈ ss.take k
          · rw [decide_eq_true hm] at hpl
            have Hpl := Lib.hid hpl; clear hpl
            have hfin : Hid (checkL ss = 8) := by
              show _ = _
              have hbad : badAt ss k = 8 := by unfold badAt; rw [if_neg (by rw [hw]; simp), if_pos hm]
              rw [hce.out, checkTo_stop HK.out (by rw [hbad]; omega) n hlt, hbad]
            clear hw hm
            go_wp2_with (first
              | (go_at_call 20; refine Hcal.out.mono ?_; rintro e w1 ⟨rfl, hw1⟩; obtain rfl : w = w1 := hw1.symm)
              | (go_at_call 12; refine Hpl.out.mono ?_; rintro e w1 ⟨rfl, hw1⟩; obtain rfl : w = w1 := hw1.symm))
            go_ret
            exact ⟨ret_int (by rw [hfin.out]; rfl), rfl⟩
          · rw [decide_eq_false hm] at hpl
            have Hpl := Lib.hid hpl; clear hpl
            have hnext : Hid (checkTo ss (k + 1) = 0) := by
              show _ = _
              rw [checkTo, if_pos HK.out]
              exact badAt_zero.2 ⟨hw, hm⟩
            clear hw hm
            go_wp2_with (first
              | (go_at_call 20; refine Hcal.out.mono ?_; rintro e w1 ⟨rfl, hw1⟩; obtain rfl : w = w1 := hw1.symm)
              | (go_at_call 12; refine Hpl.out.mono ?_; rintro e w1 ⟨rfl, hw1⟩; obtain rfl : w = w1 := hw1.symm))
            go_round
            case rel => exact ⟨k + 1, by omega, by go_num, hnext⟩
            case measure => simp [intOf]; omega
        · have hw' : isWordB (gs ss k) = false := by simpa using hw
          rw [hw'] at hcal
          have Hcal := Lib.hid hcal; clear hcal
          have hfin : Hid (checkL ss = 24) := by
            show _ = _
            have hbad : badAt ss k = 24 := by unfold badAt; rw [if_pos hw']
            rw [hce.out, checkTo_stop HK.out (by rw [hbad]; omega) n hlt, hbad]
          clear hw hw' hpl
          go_wp2_with (go_at_call 20; refine Hcal.out.mono ?_; rintro e w1 ⟨rfl, hw1⟩; obtain rfl : w = w1 := hw1.symm)
          go_ret
          exact ⟨ret_int (by rw [hfin.out]; rfl), rfl⟩
      · have hfin : Hid (checkL ss = 0) := by
          show _ = _
          obtain rfl : k = n := by omega
          rw [hce.out]; exact HK.out
        go_wp2_with fail
        go_ret
        exact ⟨ret_int (by rw [hfin.out]; rfl), rfl⟩
  · have d0 : decide ((64 : Int) < (n : Int)) = true := by simp; omega
    have hfin : Hid (checkL ss = 6) := by show _ = _; unfold checkL; rw [if_pos (by rw [Hl.out]; omega)]
    go_enter Tryd.func7, Tryd.ntmps7
    go_wp2_with fail
    go_ret
    exact ⟨ret_int (by rw [hfin.out]; rfl), rfl⟩

def uncR (ss : List (List UInt8)) (bs : List UInt8) : List UInt8 × Nat := if checkL ss = 0 then uncodeL ss bs [] else ([], checkL ss)
theorem drop_at {bs : List UInt8} {k : Nat} (h : k < bs.length) : bs.drop k = bs.getD k 0 :: bs.drop (k + 1) := by
  rw [List.drop_eq_getElem_cons h]; simp [List.getD, h]
theorem word_len {ss : List (List UInt8)} (hw : ∀ s ∈ ss, isWordB s = true) {j : Nat} (hj : j < ss.length) : (gs ss j).length ≤ 32 := by
  have := hw _ (List.getElem_mem hj)
  rw [← gs_get hj] at this
  simp [isWordB] at this
  exact this.2.1

end Go.Proofs.YtdebhdopginllaaDoor

/- allowed, gain, Few, and the check of a list (both). -/
import Derived.Test.YtdebhdopginllaaDoorDq
namespace Go.Proofs.YtdebhdopginllaaDoor
open Go.RowKit Go.Proofs
set_option linter.unusedVariables false

theorem strB_get (s : List UInt8) (k : Nat) (h : k < (strB s).size) : (((strB s)[k]).toNat : Int) = gb s k := by
  have h' : k < s.length := by rwa [strB_size] at h
  simp [gb, List.getD, h']
  rfl

set_option maxHeartbeats 400000 in
theorem allowed_any (s : List UInt8) (w : World) (hs : s.length ≤ 1000000000) :
    Calls Tryd.prog 20 #[.string (strB s)] w fun e w' => e = .returned (.bool (isWordB s)) ∧ w' = w := by
  have Hz := Lib.hid (strB_size s)
  have hsz : (strB s).size ≤ 1000000000 := by rw [Hz.out]; exact hs
  go_enter Tryd.func20, Tryd.ntmps20
  go_wp2
  go_loop [3, 6] (fun _ i => ∃ k : Nat, k ≤ (strB s).size ∧ i = .int .i64 k ∧ Hid (∀ j, j < k → letterI (gb s j) = true)) (fun _ i => (strB s).size - (intOf i).toNat)
  case atStart => exact ⟨0, Nat.zero_le _, rfl, fun j hj => absurd hj (by omega)⟩
  case round =>
    obtain ⟨k, hk, rfl, HK⟩ := hrel
    by_cases hlt : k < (strB s).size
    · have hg := strB_get s k hlt
      have hcal := letter_any ((((strB s)[k]).toNat : Int)) w
      by_cases he : letterI (gb s k) = true
      · rw [hg, he, ← hg] at hcal
        have Hcal := Lib.hid hcal; clear hcal
        have He := Lib.hid he; clear he hg
        go_wp2_with (go_at_call 33; refine Hcal.out.mono ?_; rintro e w1 ⟨rfl, hw1⟩; obtain rfl : w = w1 := hw1.symm)
        go_round
        case rel => exact ⟨k + 1, by omega, by go_num, fun j hj => by
          rcases Nat.lt_succ_iff_lt_or_eq.1 hj with h | h
          · exact HK.out j h
          · subst h; exact He.out⟩
        case measure => simp [intOf]; omega
      · have he' : letterI (gb s k) = false := by simpa using he
        rw [hg, he', ← hg] at hcal
        have Hcal := Lib.hid hcal; clear hcal
        have hfin : Hid (isWordB s = false) := by
          show _ = _
          have : runL s ≠ s.length := fun e => he (runL_letter (by rw [e, ← Hz.out]; exact hlt))
          simp [isWordB, this]
        clear he he' hg
        go_wp2_with (go_at_call 33; refine Hcal.out.mono ?_; rintro e w1 ⟨rfl, hw1⟩; obtain rfl : w = w1 := hw1.symm)
        go_ret
        exact ⟨ret_bool hfin.out.symm, rfl⟩
    · have hr : runL s = s.length := runL_all fun i hi => HK.out i (by have := Hz.out; omega)
      by_cases h1 : 2 ≤ (strB s).size
      · have d1 : decide ((2 : Int) ≤ ((strB s).size : Int)) = true := by simp; omega
        have hfin : Hid (decide (((strB s).size : Int) ≤ 32) = isWordB s) := by
          show _ = _
          have := Hz.out
          rw [this] at h1 ⊢
          simp [isWordB, hr, h1]; omega
        clear hr
        go_wp2
        go_ret
        exact ⟨ret_bool hfin.out, rfl⟩
      · have d1 : decide ((2 : Int) ≤ ((strB s).size : Int)) = false := by simp; omega
        have hfin : Hid (isWordB s = false) := by
          show _ = _
          have := Hz.out
          rw [this] at h1
          simp [isWordB, h1]
        clear hr
        go_wp2
        go_ret
        exact ⟨ret_bool hfin.out.symm, rfl⟩

set_option maxHeartbeats 400000 in
theorem gainP_any (s : List UInt8) (k : Nat) (w : World) (hk : k ≤ 1000000000) (hs : s.length ≤ 1000000000) :
    Calls Tryd.prog 21 #[.string (strB s), .int .i64 (k : Int)] w fun e w' => e = .returned (.int .i64 (gainL k s.length)) ∧ w' = w := by
  have Hz := Lib.hid (strB_size s)
  have hz := Hz.out
  have hmul : (k : Int) * ((s.length : Int) - 1) ≤ 1000000000 * 1000000000 := by
    rcases Nat.eq_zero_or_pos s.length with h | h
    · rw [h]; omega
    · exact Int.mul_le_mul (by omega) (by omega) (by omega) (by omega)
  have hmul0 : -1000000000 ≤ (k : Int) * ((s.length : Int) - 1) := by
    rcases Nat.eq_zero_or_pos s.length with h | h
    · rw [h]; simp; omega
    · have : 0 ≤ (k : Int) * ((s.length : Int) - 1) := Int.mul_nonneg (by omega) (by omega)
      omega
  go_enter Tryd.func21, Tryd.ntmps21
  go_wp2
  go_ret
  exact ⟨rfl, rfl⟩

def fewB (ss : List (List UInt8)) : Bool := decide (ss.length ≤ 80) && ss.all (fun s => decide (s.length ≤ 100))

set_option maxHeartbeats 400000 in
theorem few_any (A : Option Addr) (c n : Nat) (ss : List (List UInt8)) (w : World) (hx : Strs w A n c ss) (hn : n ≤ 9223372036854775807) (hl : ∀ s ∈ ss, s.length ≤ 9223372036854775807) :
    Calls Tryd.prog 10 #[.slice A n c] w fun e w' => e = .returned (.bool (fewB ss)) ∧ w' = w := by
  have Hl := Lib.hid hx.1
  by_cases h80 : n ≤ 80
  · go_enter Tryd.func10, Tryd.ntmps10
    have d0 : decide ((80 : Int) < (n : Int)) = false := by simp; omega
    go_wp2
    go_loop [3] (fun i => ∃ k : Nat, k ≤ n ∧ i = .int .i64 k ∧ Hid (∀ j, j < k → (gs ss j).length ≤ 100)) (fun i => n - (intOf i).toNat)
    case atStart => exact ⟨0, Nat.zero_le _, rfl, fun j hj => absurd hj (by omega)⟩
    case round =>
      obtain ⟨k, hk, rfl, HK⟩ := hrel
      by_cases hlt : k < n
      · obtain ⟨b, off, rfl, hb, hc⟩ := hx.get hlt
        have h1 := hc k hlt
        clear hc
        have hz := strB_size (gs ss k)
        have hbd : (strB (gs ss k)).size ≤ 9223372036854775807 := by
          rw [hz, gs_get (by rw [Hl.out]; exact hlt)]; exact hl _ (List.getElem_mem _)
        have Hz := Lib.hid hz; clear hz
        by_cases he : (strB (gs ss k)).size ≤ 100
        · have d1 : decide ((100 : Int) < ((strB (gs ss k)).size : Int)) = false := by simp; omega
          go_wp2
          go_round
          case rel => exact ⟨k + 1, by omega, by go_num, fun j hj => by
            rcases Nat.lt_succ_iff_lt_or_eq.1 hj with h | h
            · exact HK.out j h
            · subst h; rw [← Hz.out]; exact he⟩
          case measure => simp [intOf]; omega
        · have d1 : decide ((100 : Int) < ((strB (gs ss k)).size : Int)) = true := by simp; omega
          have hfin : Hid (fewB ss = false) := by
            show _ = _
            have hk' : k < ss.length := by rw [Hl.out]; exact hlt
            have : ss.all (fun s => decide (s.length ≤ 100)) = false := by
              rw [List.all_eq_false]
              exact ⟨_, List.getElem_mem hk', by rw [← gs_get hk', ← Hz.out]; simpa using he⟩
            simp [fewB, this]
          go_wp2
          go_ret
          exact ⟨ret_bool hfin.out.symm, rfl⟩
      · have hfin : Hid (fewB ss = true) := by
          show _ = _
          have : ss.all (fun s => decide (s.length ≤ 100)) = true := by
            rw [List.all_eq_true]
            intro s hs
            obtain ⟨i, hi, rfl⟩ := List.mem_iff_getElem.1 hs
            rw [← gs_get hi]
            simpa using HK.out i (by have := Hl.out; omega)
          simp [fewB, this]; rw [Hl.out]; omega
        go_wp2
        go_ret
        exact ⟨ret_bool hfin.out.symm, rfl⟩
  · have hfin : Hid (fewB ss = false) := by show _ = _; have := Hl.out; simp [fewB]; omega
    have d0 : decide ((80 : Int) < (n : Int)) = true := by simp; omega
    go_enter Tryd.func10, Tryd.ntmps10
    go_wp2
    go_ret
    exact ⟨ret_bool hfin.out.symm, rfl⟩

theorem tSS : Tryd.prog.underlying 24 = some (.slice (Tryd.prog.elem 24)) := by kernel_rfl
theorem eSS : Tryd.prog.elem 24 = 9 := by kernel_rfl
theorem sSS : ∀ W : World, (sizeOf 9).run Tryd.prog W = .ok 1 W := fun _ => by kernel_rfl
theorem gs_take (ss : List (List UInt8)) (m i : Nat) (hi : i < m) : gs (ss.take m) i = gs ss i := by simp [gs, List.getD, hi]
theorem Strs.cut_h {w : World} {A : Option Addr} {n c : Nat} {ss : List (List UInt8)} (hb : Strs w A n c ss) (h : Int) (h0 : 0 ≤ h) (hc : h ≤ n) :
    (∀ W : World, (Instr.slice 24 (.slice A n c) none (some (.int .i64 h)) none).run Tryd.prog W = .ok (.slice A h.toNat c) W) ∧ Strs w A h.toNat c (ss.take h.toNat) := by
  have hn := hb.2.1
  have hl := hb.1
  refine ⟨run_cut_h tSS eSS sSS h h0 (by omega), by simp; omega, by omega, fun hm => ?_⟩
  obtain ⟨b, off, hA, hbk, hcell⟩ := hb.2.2 (by omega)
  exact ⟨b, off, hA, hbk, fun i hi => by rw [hcell i (by omega)]; show some (Value.string _) = some (Value.string _); rw [gs_take _ _ _ hi]⟩

theorem placeL_ge (ss : List (List UInt8)) (s : List UInt8) : decide (0 ≤ placeL ss s) = decide (s ∈ ss) := by
  unfold placeL
  by_cases h : s ∈ ss
  · rw [if_pos (List.idxOf_lt_length_iff.2 h), decide_eq_true h, decide_eq_true (by omega)]
  · rw [if_neg (fun h' => h (List.idxOf_lt_length_iff.1 h')), decide_eq_false h, decide_eq_false (by omega)]

end Go.Proofs.YtdebhdopginllaaDoor

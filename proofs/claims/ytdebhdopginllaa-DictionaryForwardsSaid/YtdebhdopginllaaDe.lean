/- Words of the reference. -/
import Derived.Test.YtdebhdopginllaaDd
namespace Go.Proofs.Ytdebhdopginllaa
open Go.RowKit Go.Proofs
set_option linter.unusedVariables false

def encS (s : List UInt8) : Value := .string (strB s)
theorem encS_one (s : List UInt8) : (encS s).oneCell' = true := rfl
theorem uSS : Try.prog.underlying 24 = some (.slice 9) := by kernel_rfl
theorem infoS : (Try.prog.info? 9).map (fun i => (i.zero, i.size, i.bytes)) = some (some (encS []), 1, 16) := by kernel_rfl
theorem Own.strs {w : World} {B : Nat} {e : TypeId} {A : Option Addr} {n c : Nat} {ss : List (List UInt8)} (h : Own encS w B e A n c ss) : Strs w A n c ss := ⟨h.length, h.cap, h.cells []⟩
theorem wordsTo_le (bs : List UInt8) : ∀ k, (wordsTo bs k).length ≤ k
  | 0 => Nat.le_refl _
  | k + 1 => by rw [wordsTo, List.length_append]; have := wordsTo_le bs k; split <;> simp <;> omega
theorem pieces_count (bs : List UInt8) : ∀ k, k ≤ (piecesL bs).length → k ≤ stP bs k
  | 0, _ => Nat.zero_le _
  | k + 1, h => by rw [stP]; have := pieces_count bs k (by omega); have := plen_pos (bs.drop (stP bs k)); omega

set_option maxRecDepth 100000 in
set_option maxHeartbeats 1000000 in
theorem words_any (A : Option Addr) (c n : Nat) (bs : List UInt8) (w : World) (hx : Bytes w A n c bs) (hn : n ≤ 1000000) :
    Calls Try.prog 39 #[.slice A n c] w fun e w' => ∃ A2 n2 c2, e = .returned (.slice A2 n2 c2) ∧ Own encS w' w.heap.size 9 A2 n2 c2 (wordsL bs) ∧ Below w.heap.size w w' := by
  have Hl := Lib.hid hx.1
  go_enter Try.func39, Try.ntmps39
  go_wp2_with fail
  go_loopw [3, 4] (fun o i wr => ∃ (k : Nat) (A2 : Option Addr) (n2 c2 : Nat), k ≤ (piecesL bs).length ∧ i = .int .i64 ((stP bs k : Nat) : Int) ∧ o = .slice A2 n2 c2 ∧ Own encS wr w.heap.size 9 A2 n2 c2 (wordsTo bs k) ∧ Below w.heap.size w wr) (fun _ i _ => n - (intOf i).toNat)
  case atStart => exact ⟨0, none, 0, 0, Nat.zero_le _, rfl, rfl, Own.nil _ _ _ _, Below.refl _ _⟩
  case round =>
    obtain ⟨k, A2, n2, c2, hk, rfl, rfl, hown, hbel⟩ := hrel
    have hst := (pieces_at hk).1
    rw [Hl.out] at hst
    by_cases hlt : stP bs k < n
    · have hk' := pieces_more hk (by rw [Hl.out]; exact hlt)
      have d0 : decide (((stP bs k : Nat) : Int) < (n : Int)) = true := by simp; omega
      have d0' : decide (stP bs k < n) = true := by simp; omega
      have hxr := hx.below hbel
      have hcal := run_any _ _ _ (stP bs k) _ _ hxr (by omega) (by omega)
      have Hcal := Lib.hid hcal; clear hcal
      have hnext : stP bs (k + 1) = stP bs k + plen (bs.drop (stP bs k)) := rfl
      have hrl := runL_le (bs.drop (stP bs k))
      rw [List.length_drop, Hl.out] at hrl
      have hw : wordsTo bs (k + 1) = wordsTo bs k ++ if wdP bs k then [pcP bs k] else [] := rfl
      unfold wdP pcP at hw
      obtain ⟨r, hr⟩ : ∃ r, r = runL (bs.drop (stP bs k)) := ⟨_, rfl⟩
      unfold plen at hnext hw
      rw [← hr] at Hcal hnext hrl hw
      obtain ⟨st, hst'⟩ : ∃ st, st = stP bs k := ⟨_, rfl⟩
      rw [← hst'] at Hcal hnext hrl hst hlt d0 d0' hw ⊢
      clear hr
      have hwl := wordsTo_le bs k
      have hkst := pieces_count bs k hk
      rw [← hst'] at hkst
      have hn2 := hown.length
      rw [hn2] at hwl
      have Hn2 := Lib.hid hn2; clear hn2
      have Hw := Lib.hid hw; clear hw
      have Hnext := Lib.hid hnext; clear hnext
      clear hst'
      rcases Nat.eq_zero_or_pos r with h0 | h0
      · have hwd : Hid (wordsTo bs (k + 1) = wordsTo bs k) := by
          show _ = _; rw [Hw.out, h0]; simp
        have hn1 : Hid (stP bs (k + 1) = st + 1) := by show _ = _; rw [Hnext.out, h0]; rfl
        have d1 : (((st + r : Nat) : Int) == (st : Int)) = true := by simp; omega
        have d1' : ((st : Int) + (r : Int) == (st : Int)) = true := by simp; omega
        clear h0
        go_wp2_with (go_at_call 43; refine Hcal.out.mono ?_; rintro e w1 ⟨rfl, hw1⟩; obtain rfl : wr = w1 := hw1.symm)
        go_roundw
        case rel => exact ⟨k + 1, A2, n2, c2, hk', by rw [hn1.out]; go_num, rfl, by rw [hwd.out]; exact hown, hbel⟩
        case measure => simp [intOf]; omega
      · have hwd : Hid (wordsTo bs (k + 1) = wordsTo bs k ++ [(bs.drop st).take r]) := by
          show _ = _; rw [Hw.out, if_pos (by simpa using h0), show max r 1 = r by omega]
        have hn1 : Hid (stP bs (k + 1) = st + r) := by show _ = _; rw [Hnext.out, show max r 1 = r by omega]
        have d1 : (((st + r : Nat) : Int) == (st : Int)) = false := by simp; omega
        have d1' : ((st : Int) + (r : Int) == (st : Int)) = false := by simp; omega
        obtain ⟨A4, r4, v4⟩ := hxr.cut_lh tB eB sB (st : Int) ((st : Int) + (r : Int)) (by omega) (by omega) (by omega)
        rw [Int.toNat_natCast, show ((st : Int) + (r : Int)).toNat - st = r by omega] at r4 v4
        have s4 := v4.str 22 5 9 uB Go.Proofs.Ytdebhdopginllaa.u8 uS
        have m1 : Hid (n2 + 1 ≤ maxLen ∧ (n2 + 1) * 16 ≤ 140737488355328) := ⟨by simp [maxLen]; omega, by omega⟩
        go_wp2_with (first
          | (go_at_call 43; refine Hcal.out.mono ?_; rintro e w1 ⟨rfl, hw1⟩; obtain rfl : wr = w1 := hw1.symm)
          | (at_builtin; refine wpList_push (enc := encS) rfl (.tmp 18) (.tmp 24) rfl uSS infoS encS_one rfl rfl hown hbel.size ((bs.drop st).take r) rfl m1.out.1 m1.out.2 ?_; intro A6 c6 W6 ho6 hb6))
        go_roundw
        case rel => exact ⟨k + 1, A6, n2 + 1, c6, hk', by rw [hn1.out]; go_num, rfl, by rw [hwd.out]; exact ho6, hbel.trans hb6⟩
        case measure => simp [intOf]; omega
    · have hkl : k = (piecesL bs).length := by
        rcases Nat.lt_or_ge k (piecesL bs).length with h | h
        · have := pieces_ne h
          rw [ne_eq, List.drop_eq_nil_iff, Hl.out] at this
          omega
        · omega
      have hwl : Hid (wordsL bs = wordsTo bs k) := by show _ = _; unfold wordsL; rw [hkl]
      clear hkl
      have d0 : decide (((stP bs k : Nat) : Int) < (n : Int)) = false := by simp; omega
      have d0' : decide (stP bs k < n) = false := by simp; omega
      go_wp2_with fail
      go_ret
      exact ⟨_, _, _, rfl, by rw [hwl.out]; exact hown, hbel⟩
end Go.Proofs.Ytdebhdopginllaa

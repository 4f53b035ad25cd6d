/- The walks of the laws DictionaryForwards, DictionaryReturns. -/
import Derived.Test.YtdebhdopginllaaEb
import Derived.Test.YtdebhdopginllaaEa
namespace Go.Proofs.Ytdebhdopginllaa
open Go.RowKit Go.Proofs Go.Sort
set_option linter.unusedVariables false

set_option maxRecDepth 100000 in
set_option maxHeartbeats 2000000 in
theorem dictionaryForwards_any (A : Option Addr) (c n : Nat) (bs : List UInt8) (w : World) (hx : Bytes w A n c bs) :
    Calls Try.prog 6 #[.slice A n c] w fun e w' => e = .returned (.bool true) ∧ Below w.heap.size w w' := by
  by_cases hn : 300 < n
  · have d0 : decide ((300 : Int) < (n : Int)) = true := by simp; omega
    go_enter Try.func6, Try.ntmps6
    go_wp2_with fail
    refine (awake_any _).mono ?_
    rintro e w1 ⟨rfl, hb1⟩
    go_wp2_with fail
    go_ret
    exact ⟨rfl, hb1⟩
  · have d0 : decide ((300 : Int) < (n : Int)) = false := by simp; omega
    have Hl := Lib.hid hx.1
    have hrest : Hid ((readL (intL bs).1 (intL bs).2.1 []).2.1.length ≤ 2000) := by
      show _ ≤ _
      have h1 := readL_len (intL bs).1 (intL bs).2.1 []
      have h2 := intL_len bs
      have h3 := Hl.out
      omega
    have q1 := Lib.hid (eq_self_i ((inverseL bs).2 : Nat))
    have H1 := Lib.hid (forwardP_any A c n bs w hx (by omega))
    go_enter Try.func6, Try.ntmps6
    go_wp2_with fail
    refine H1.out.mono ?_
    rintro e w1 ⟨A1, n1, c1, rfl, hs1, hb1⟩
    clear H1
    have H2 := Lib.hid (forwardR_any A c n bs w1 (hx.below hb1) (by omega))
    go_wp2_with fail
    refine H2.out.mono ?_
    rintro e w2 ⟨A2, n2, c2, rfl, hs2, hb2⟩
    have hb2' := hb1.trans (hb2.mono hb1.size)
    have hp2 := hs1.below hb2
    clear H2 hb2 hs1 hb1
    have H3 := Lib.hid (inverseP_any A n c bs w2 (hx.below hb2') (by omega) hrest.out)
    go_wp2_with fail
    refine H3.out.mono ?_
    rintro e w3 ⟨A3, n3, c3, rfl, hs3, hb3⟩
    have hb3' := hb2'.trans (hb3.mono hb2'.size)
    have hp3 := hp2.below hb3
    have hr3 := hs2.below hb3
    clear H3 hb3 hp2 hs2 hb2'
    have H4 := Lib.hid (inverseR_any A n c bs w3 (hx.below hb3') (by omega) hrest.out)
    go_wp2_with fail
    refine H4.out.mono ?_
    rintro e w4 ⟨A4, n4, c4, rfl, hs4, hb4⟩
    have hb4' := hb3'.trans (hb4.mono hb3'.size)
    have hp4 := hp3.below hb4
    have hr4 := hr3.below hb4
    have hu4 := hs3.below hb4
    clear H4 hb4 hp3 hr3 hs3 hb3'
    have h7 := equalB_any _ _ _ _ _ _ _ _ w4 hp4 hr4
    rw [decide_eq_true rfl] at h7
    have H7 := Lib.hid h7; clear h7
    have h8 := equalB_any _ _ _ _ _ _ _ _ w4 hu4 hs4
    rw [decide_eq_true rfl] at h8
    have H8 := Lib.hid h8; clear h8
    have q1' := q1.out
    go_wp2_with fail
    refine H7.out.mono ?_
    rintro e w7 ⟨rfl, hw7⟩
    obtain rfl : w4 = w7 := hw7.symm
    go_wp2_with fail
    refine H8.out.mono ?_
    rintro e w8 ⟨rfl, hw8⟩
    obtain rfl : w4 = w8 := hw8.symm
    go_wp2_with fail
    refine (awake_any _).mono ?_
    rintro e w9 ⟨rfl, hb9⟩
    go_wp2_with fail
    go_ret
    exact ⟨rfl, hb4'.trans (hb9.mono hb4'.size)⟩

theorem hi1_any (x : Nat) (w : World) : Calls Try.prog 25 #[.int .u8 (x : Int)] w fun e w' => e = .returned (.bool (decide (128 ≤ x))) ∧ w' = w := by
  by_cases h : 128 ≤ x
  · have d1 : decide ((128 : Int) ≤ (x : Int)) = true := by simp; omega
    have d1' : decide (128 ≤ x) = true := by simpa using h
    go_enter Try.func25, Try.ntmps25
    go_wp2
    go_ret
    exact ⟨ret_bool d1'.symm, rfl⟩
  · have d1 : decide ((128 : Int) ≤ (x : Int)) = false := by simp; omega
    have d1' : decide (128 ≤ x) = false := by simpa using h
    go_enter Try.func25, Try.ntmps25
    go_wp2
    go_ret
    exact ⟨ret_bool d1'.symm, rfl⟩
/-- is some byte from 128 on? -/
def hiB (l : List UInt8) : Bool := l.any (fun b => decide (128 ≤ b.toNat))
set_option maxHeartbeats 400000 in
theorem indexHi_any (A : Option Addr) (c n : Nat) (bs : List UInt8) (w : World) (hx : Bytes w A n c bs) (hn : n ≤ 1000000000) :
    Calls Try.prog 53 #[.slice A n c, .func (.func 25) #[] #[]] w fun e w' => (∃ z : Int, e = .returned (.int .i64 z) ∧ Hid (decide (0 ≤ z) = hiB bs) ∧ -1 ≤ z ∧ z ≤ 1000000000) ∧ w' = w := by
  have Hl := Lib.hid hx.1
  go_enter Try.func53, Try.ntmps53
  go_wp2_with fail
  go_loop [5, 8] (fun _ i => ∃ k : Nat, k ≤ n ∧ i = .int .i64 k ∧ Hid (∀ j, j < k → ¬ 128 ≤ (bs.getD j 0).toNat)) (fun _ i => n - (intOf i).toNat)
  case atStart => exact ⟨0, Nat.zero_le _, rfl, fun j hj => absurd hj (by omega)⟩
  case round =>
    obtain ⟨k, hk, rfl, HK⟩ := hrel
    by_cases hlt : k < n
    · obtain ⟨b, off, rfl, hb, hc⟩ := hx.get hlt
      have h1 := hc k hlt
      clear hc
      have hgb : gb bs k = ((bs.getD k 0).toNat : Int) := rfl
      rw [hgb] at h1
      clear hgb
      have hcal := hi1_any (bs.getD k 0).toNat w
      by_cases he : 128 ≤ (bs.getD k 0).toNat
      · rw [decide_eq_true he] at hcal
        have Hcal := Lib.hid hcal; clear hcal
        have hfin : Hid (hiB bs = true) := by
          show _ = _
          have hk' : k < bs.length := by rw [Hl.out]; exact hlt
          unfold hiB
          rw [List.any_eq_true]
          refine ⟨bs[k], List.getElem_mem hk', ?_⟩
          have e : bs.getD k 0 = bs[k] := by simp [List.getD, hk']
          rw [e] at he
          simpa using he
        clear he
        go_wp2_with (go_at_call 25; refine Hcal.out.mono ?_; rintro e w1 ⟨rfl, hw1⟩; obtain rfl : w = w1 := hw1.symm)
        go_ret
        exact ⟨⟨_, rfl, by show _ = _; rw [hfin.out]; simp, by omega, by omega⟩, rfl⟩
      · rw [decide_eq_false he] at hcal
        have Hcal := Lib.hid hcal; clear hcal
        have He := Lib.hid he; clear he
        go_wp2_with (go_at_call 25; refine Hcal.out.mono ?_; rintro e w1 ⟨rfl, hw1⟩; obtain rfl : w = w1 := hw1.symm)
        go_round
        case rel => exact ⟨k + 1, by omega, by go_num, fun j hj => by
          rcases Nat.lt_succ_iff_lt_or_eq.1 hj with h | h
          · exact HK.out j h
          · subst h; exact He.out⟩
        case measure => simp [intOf]; omega
    · have hfin : Hid (hiB bs = false) := by
        show _ = _
        unfold hiB
        rw [List.any_eq_false]
        intro b hb
        obtain ⟨i, hi, rfl⟩ := List.mem_iff_getElem.1 hb
        have := HK.out i (by have := Hl.out; omega)
        have e : bs.getD i 0 = bs[i] := by simp [List.getD, hi]
        rw [e] at this
        simpa using this
      go_wp2_with fail
      go_ret
      exact ⟨⟨-1, rfl, by show _ = _; rw [hfin.out]; rfl, by omega, by omega⟩, rfl⟩
theorem containsHi_any (A : Option Addr) (c n : Nat) (bs : List UInt8) (w : World) (hx : Bytes w A n c bs) (hn : n ≤ 1000000000) :
    Calls Try.prog 24 #[.slice A n c, .func (.func 25) #[] #[]] w fun e w' => e = .returned (.bool (hiB bs)) ∧ w' = w := by
  have hcal := Lib.hid (indexHi_any A c n bs w hx hn)
  go_enter Try.func24, Try.ntmps24
  go_wp2_with fail
  refine hcal.out.mono ?_
  rintro e w1 ⟨⟨z, rfl, hz, hz1, hz2⟩, hw1⟩
  obtain rfl : w = w1 := hw1.symm
  go_wp2_with fail
  go_ret
  exact ⟨ret_bool hz.out, rfl⟩
theorem hi_zero {l : List UInt8} (h : hiB l = false) : hiC l = 0 := by
  unfold hiB at h
  unfold hiC
  rw [List.any_eq_false] at h
  rw [List.countP_eq_zero]
  exact h

set_option maxRecDepth 100000 in
set_option maxHeartbeats 2000000 in
theorem dictionaryReturns_any (A : Option Addr) (c n : Nat) (bs : List UInt8) (w : World) (hx : Bytes w A n c bs) :
    Calls Try.prog 7 #[.slice A n c] w fun e w' => e = .returned (.bool true) ∧ Below w.heap.size w w' := by
  by_cases hn : 400 < n
  · have d0 : decide ((400 : Int) < (n : Int)) = true := by simp; omega
    go_enter Try.func7, Try.ntmps7
    go_wp2_with fail
    refine (awake_any _).mono ?_
    rintro e w1 ⟨rfl, hb1⟩
    go_wp2_with fail
    go_ret
    exact ⟨rfl, hb1⟩
  · have d0 : decide ((400 : Int) < (n : Int)) = false := by simp; omega
    have Hl := Lib.hid hx.1
    have hfl := forward_len bs
    have hhi := hiC_le bs
    rw [Hl.out] at hfl hhi
    have hrest : Hid ((readL (intL (forwardL bs)).1 (intL (forwardL bs)).2.1 []).2.1.length ≤ 2000) := by
      show _ ≤ _
      obtain ⟨h1, h2⟩ := forward_read bs
      rw [h1]
      simp only
      rw [h2]
      simp only
      have h3 := codeL_len (learnL bs 64) bs
      have h4 := Hl.out
      omega
    have Hinv := Lib.hid (inverse_forward bs)
    have Hz := Lib.hid (fun h => hi_zero (l := bs) h)
    have H1 := Lib.hid (forwardP_any A c n bs w hx (by omega))
    obtain ⟨fs, hfs⟩ : ∃ fs, fs = forwardL bs := ⟨_, rfl⟩
    rw [← hfs] at hfl hrest Hinv H1
    clear hfs
    go_enter Try.func7, Try.ntmps7
    go_wp2_with fail
    refine H1.out.mono ?_
    rintro e w1 ⟨A1, n1, c1, rfl, hs1, hb1⟩
    rw [hs1.1] at hfl
    have h2 := inverseP_any A1 n1 c1 fs w1 hs1 (by omega) hrest.out
    rw [Hinv.out] at h2
    have H2 := Lib.hid h2; clear h2 H1
    go_wp2_with fail
    refine H2.out.mono ?_
    rintro e w2 ⟨A2, n2, c2, rfl, hs2, hb2⟩
    have hb2' := hb1.trans (hb2.mono hb1.size)
    have h3 := equalB_any _ _ _ _ _ _ _ _ w2 hs2 (hx.below hb2')
    rw [decide_eq_true rfl] at h3
    have H3 := Lib.hid h3; clear h3
    have h4 := containsHi_any A c n bs w2 (hx.below hb2') (by omega)
    by_cases hhb : hiB bs = true
    · rw [hhb] at h4
      have H4 := Lib.hid h4; clear h4 hhb
      go_wp2_with fail
      refine H3.out.mono ?_
      rintro e w3 ⟨rfl, hw3⟩
      obtain rfl : w2 = w3 := hw3.symm
      go_wp2_with fail
      refine H4.out.mono ?_
      rintro e w3 ⟨rfl, hw3⟩
      obtain rfl : w2 = w3 := hw3.symm
      go_wp2_with fail
      refine (awake_any _).mono ?_
      rintro e w4 ⟨rfl, hb4⟩
      go_wp2_with fail
      go_ret
      exact ⟨rfl, hb2'.trans (hb4.mono hb2'.size)⟩
    · have hhb' : hiB bs = false := by simpa using hhb
      rw [hhb'] at h4
      have H4 := Lib.hid h4; clear h4
      have hz := Hz.out hhb'
      clear hhb hhb'
      have d1 : decide ((n1 : Int) ≤ (n : Int) + 1) = true := by simp; omega
      clear hz
      go_wp2_with fail
      refine H3.out.mono ?_
      rintro e w3 ⟨rfl, hw3⟩
      obtain rfl : w2 = w3 := hw3.symm
      go_wp2_with fail
      refine H4.out.mono ?_
      rintro e w3 ⟨rfl, hw3⟩
      obtain rfl : w2 = w3 := hw3.symm
      go_wp2_with fail
      refine (awake_any _).mono ?_
      rintro e w4 ⟨rfl, hb4⟩
      go_wp2_with fail
      go_ret
      exact ⟨rfl, hb2'.trans (hb4.mono hb2'.size)⟩
end Go.Proofs.Ytdebhdopginllaa

/- The walks of the laws DictionaryLearns, DictionaryCodes, DictionaryUncodes. -/
import Derived.Test.YtdebhdopginllaaDv
import Derived.Test.YtdebhdopginllaaOp
namespace Go.Proofs.Ytdebhdopginllaa
open Go.RowKit Go.Proofs
set_option linter.unusedVariables false

theorem eq_self_i (x : Int) : (x == x) = true := by simp

set_option maxHeartbeats 1000000 in
theorem dictionaryLearns_any (A : Option Addr) (c n : Nat) (bs : List UInt8) (most : Int) (w : World) (hx : Bytes w A n c bs) (hmo : -9223372036854775808 ≤ most ∧ most ≤ 9223372036854775807) :
    Calls Try.prog 3 #[.slice A n c, .int .i64 most] w fun e w' => e = .returned (.bool true) ∧ Below w.heap.size w w' := by
  by_cases hn : 300 < n
  · have d0 : decide ((300 : Int) < (n : Int)) = true := by simp; omega
    go_enter Try.func3, Try.ntmps3
    go_wp2_with fail
    refine (awake_any _).mono ?_
    rintro e w1 ⟨rfl, hb1⟩
    go_wp2_with fail
    go_ret
    exact ⟨rfl, hb1⟩
  · have d0 : decide ((300 : Int) < (n : Int)) = false := by simp; omega
    have H1 := Lib.hid (learnP_any A c n bs most w hx (by omega) hmo)
    have hlen : (learnR bs most).1.length ≤ 64 := by
      unfold learnR
      split
      · simp
      · rename_i h
        have := (checkL_zero.1 (learn_check bs (most := most.toNat) (by omega))).1
        exact this
    have hq := Lib.hid (eq_self_i ((learnR bs most).2 : Nat))
    go_enter Try.func3, Try.ntmps3
    go_wp2_with fail
    refine H1.out.mono ?_
    rintro e w1 ⟨A1, n1, c1, rfl, hs1, hb1⟩
    have H2 := Lib.hid (learnR_any A c n bs most w1 (hx.below hb1) (by omega) hmo)
    go_wp2_with fail
    refine H2.out.mono ?_
    rintro e w2 ⟨A2, n2, c2, rfl, hs2, hb2⟩
    have hb2' := hb1.trans (hb2.mono hb1.size)
    have hn1 : n1 ≤ 64 := by rw [← hs1.1]; exact hlen
    have hn2 : n2 ≤ 64 := by rw [← hs2.1]; exact hlen
    have h3 := sameWords_any _ _ _ _ _ _ _ _ _ (hs1.below hb2) hs2 (by omega) (by omega)
    rw [decide_eq_true rfl] at h3
    have H3 := Lib.hid h3; clear h3
    have hq' := hq.out
    go_wp2_with fail
    refine H3.out.mono ?_
    rintro e w3 ⟨rfl, hd3⟩
    have hd3' : Drawn w2 w3 := hd3
    have hb3' := hb2'.trans (hd3'.below _)
    clear hd3 hd3'
    go_wp2_with fail
    refine (awake_any _).mono ?_
    rintro e w4 ⟨rfl, hb4⟩
    go_wp2_with fail
    go_ret
    exact ⟨rfl, hb3'.trans (hb4.mono hb3'.size)⟩

theorem few_facts {ss : List (List UInt8)} (h : fewB ss = true) : ss.length ≤ 80 ∧ ∀ s ∈ ss, s.length ≤ 100 := by
  unfold fewB at h
  rw [Bool.and_eq_true, decide_eq_true_eq, List.all_eq_true] at h
  exact ⟨h.1, fun s hs => by simpa using h.2 s hs⟩

set_option maxRecDepth 100000 in
set_option maxHeartbeats 2000000 in
theorem dictionaryCodes_any (A A' : Option Addr) (c n c' m : Nat) (ss : List (List UInt8)) (bs : List UInt8) (w : World) (hx : Strs w A n c ss) (hy : Bytes w A' m c' bs) (hn : n ≤ 9223372036854775807) (hl : ∀ s ∈ ss, s.length ≤ 9223372036854775807) :
    Calls Try.prog 4 #[.slice A n c, .slice A' m c'] w fun e w' => e = .returned (.bool true) ∧ Below w.heap.size w w' := by
  have hfew := few_any A c n ss w hx hn hl
  by_cases hf : fewB ss = true
  · obtain ⟨hf1, hf2⟩ := few_facts hf
    rw [hx.1] at hf1
    rw [hf] at hfew
    have Hfew := Lib.hid hfew; clear hfew hf
    have hl2 : ∀ s ∈ ss, s.length ≤ 1000000000 := fun s hs => by have := hf2 s hs; omega
    have HL := Lib.hid hl2; clear hl2 hf2 hl
    by_cases hm : 300 < m
    · have d0 : decide ((300 : Int) < (m : Int)) = true := by simp; omega
      go_enter Try.func4, Try.ntmps4
      go_wp2_with fail
      refine Hfew.out.mono ?_
      rintro e w0 ⟨rfl, hw0⟩
      obtain rfl : w = w0 := hw0.symm
      go_wp2_with fail
      refine (awake_any _).mono ?_
      rintro e w1 ⟨rfl, hb1⟩
      go_wp2_with fail
      go_ret
      exact ⟨rfl, hb1⟩
    · have d0 : decide ((300 : Int) < (m : Int)) = false := by simp; omega
      have q1 := Lib.hid (eq_self_i ((codeR ss bs).2 : Nat))
      have q2 := Lib.hid (eq_self_i ((uncR ss bs).2 : Nat))
      have q3 := Lib.hid (eq_self_i ((checkL ss) : Nat))
      go_enter Try.func4, Try.ntmps4
      go_wp2_with fail
      refine Hfew.out.mono ?_
      rintro e w0 ⟨rfl, hw0⟩
      obtain rfl : w = w0 := hw0.symm
      clear Hfew
      have H1 := Lib.hid (codeP_any A A' c c' n m ss bs w hx hy (by omega) HL.out (by omega))
      go_wp2_with fail
      refine H1.out.mono ?_
      rintro e w1 ⟨A1, n1, c1, rfl, hs1, hb1⟩
      clear H1
      have H2 := Lib.hid (codeR_any A A' c c' n m ss bs w1 (hx.below hb1) (hy.below hb1) (by omega) HL.out (by omega))
      go_wp2_with fail
      refine H2.out.mono ?_
      rintro e w2 ⟨A2, n2, c2, rfl, hs2, hb2⟩
      have hb2' := hb1.trans (hb2.mono hb1.size)
      have hs1' := hs1.below hb2
      clear H2 hb2 hs1 hb1
      have H3 := Lib.hid (uncodeP_any A A' c c' n m ss bs w2 (hx.below hb2') (hy.below hb2') (by omega) HL.out (by omega))
      go_wp2_with fail
      refine H3.out.mono ?_
      rintro e w3 ⟨A3, n3, c3, rfl, hs3, hb3⟩
      have hb3' := hb2'.trans (hb3.mono hb2'.size)
      have hp3 := hs1'.below hb3
      have hr3 := hs2.below hb3
      clear H3 hb3 hs1' hs2 hb2'
      have H4 := Lib.hid (uncodeR_any A A' c c' n m ss bs w3 (hx.below hb3') (hy.below hb3') (by omega) HL.out (by omega))
      go_wp2_with fail
      refine H4.out.mono ?_
      rintro e w4 ⟨A4, n4, c4, rfl, hs4, hb4⟩
      have hb4' := hb3'.trans (hb4.mono hb3'.size)
      have hp4 := hp3.below hb4
      have hr4 := hr3.below hb4
      have hu4 := hs3.below hb4
      clear H4 hb4 hp3 hr3 hs3 hb3'
      have H5 := Lib.hid (checkP_any A c n ss w4 (hx.below hb4') (by omega) HL.out)
      have H6 := Lib.hid (checkR_any A c n ss w4 (hx.below hb4') (by omega) HL.out)
      have q1' := q1.out
      have q2' := q2.out
      have q3' := q3.out
      go_wp2_with fail
      refine H5.out.mono ?_
      rintro e w5 ⟨rfl, hw5⟩
      obtain rfl : w4 = w5 := hw5.symm
      go_wp2_with fail
      refine H6.out.mono ?_
      rintro e w6 ⟨rfl, hb6⟩
      have hb6' := hb4'.trans (hb6.mono hb4'.size)
      have h7 := equalB_any _ _ _ _ _ _ _ _ w6 (hp4.below hb6) (hr4.below hb6)
      rw [decide_eq_true rfl] at h7
      have H7 := Lib.hid h7; clear h7
      have h8 := equalB_any _ _ _ _ _ _ _ _ w6 (hu4.below hb6) (hs4.below hb6)
      rw [decide_eq_true rfl] at h8
      have H8 := Lib.hid h8; clear h8
      clear H5 H6
      go_wp2_with fail
      refine H7.out.mono ?_
      rintro e w7 ⟨rfl, hw7⟩
      obtain rfl : w6 = w7 := hw7.symm
      go_wp2_with fail
      refine H8.out.mono ?_
      rintro e w8 ⟨rfl, hw8⟩
      obtain rfl : w6 = w8 := hw8.symm
      go_wp2_with fail
      refine (awake_any _).mono ?_
      rintro e w9 ⟨rfl, hb9⟩
      go_wp2_with fail
      go_ret
      exact ⟨rfl, hb6'.trans (hb9.mono hb6'.size)⟩
  · have hf' : fewB ss = false := by simpa using hf
    rw [hf'] at hfew
    have Hfew := Lib.hid hfew; clear hfew hf hf'
    go_enter Try.func4, Try.ntmps4
    go_wp2_with fail
    refine Hfew.out.mono ?_
    rintro e w0 ⟨rfl, hw0⟩
    obtain rfl : w = w0 := hw0.symm
    go_wp2_with fail
    refine (awake_any _).mono ?_
    rintro e w1 ⟨rfl, hb1⟩
    go_wp2_with fail
    go_ret
    exact ⟨rfl, hb1⟩

set_option maxRecDepth 100000 in
set_option maxHeartbeats 2000000 in
theorem dictionaryUncodes_any (A A' : Option Addr) (c n c' m : Nat) (ss : List (List UInt8)) (bs : List UInt8) (w : World) (hx : Strs w A n c ss) (hy : Bytes w A' m c' bs) (hn : n ≤ 9223372036854775807) (hl : ∀ s ∈ ss, s.length ≤ 9223372036854775807) :
    Calls Try.prog 5 #[.slice A n c, .slice A' m c'] w fun e w' => e = .returned (.bool true) ∧ Below w.heap.size w w' := by
  have hfew := few_any A c n ss w hx hn hl
  by_cases hf : fewB ss = true
  · obtain ⟨hf1, hf2⟩ := few_facts hf
    rw [hx.1] at hf1
    rw [hf] at hfew
    have Hfew := Lib.hid hfew; clear hfew hf
    have hl2 : ∀ s ∈ ss, s.length ≤ 1000000000 := fun s hs => by have := hf2 s hs; omega
    have HL := Lib.hid hl2; clear hl2 hf2 hl
    by_cases hm : 500 < m
    · have d0 : decide ((500 : Int) < (m : Int)) = true := by simp; omega
      go_enter Try.func5, Try.ntmps5
      go_wp2_with fail
      refine Hfew.out.mono ?_
      rintro e w0 ⟨rfl, hw0⟩
      obtain rfl : w = w0 := hw0.symm
      go_wp2_with fail
      refine (awake_any _).mono ?_
      rintro e w1 ⟨rfl, hb1⟩
      go_wp2_with fail
      go_ret
      exact ⟨rfl, hb1⟩
    · have d0 : decide ((500 : Int) < (m : Int)) = false := by simp; omega
      have hck := checkP_any A c n ss w hx (by omega) HL.out
      by_cases hc : checkL ss = 0
      · rw [hc] at hck
        have Hck := Lib.hid hck; clear hck
        have hcr : codeR ss bs = (codeL ss bs, 0) := by unfold codeR; rw [if_pos hc]
        have hur : uncR ss (codeL ss bs) = (bs, 0) := by unfold uncR; rw [if_pos hc, uncode_code hc]
        have h1 := codeP_any A A' c c' n m ss bs w hx hy (by omega) HL.out (by omega)
        rw [hcr] at h1
        have H1 := Lib.hid h1; clear h1 hcr
        have Hur := Lib.hid hur; clear hur hc
        have Hm := Lib.hid hy.1
        go_enter Try.func5, Try.ntmps5
        go_wp2_with fail
        refine Hfew.out.mono ?_
        rintro e w0 ⟨rfl, hw0⟩
        obtain rfl : w = w0 := hw0.symm
        clear Hfew
        go_wp2_with fail
        refine Hck.out.mono ?_
        rintro e w0 ⟨rfl, hw0⟩
        obtain rfl : w = w0 := hw0.symm
        clear Hck
        go_wp2_with fail
        refine H1.out.mono ?_
        rintro e w1 ⟨A1, n1, c1, rfl, hs1, hb1⟩
        have hn1 : n1 ≤ 1000 := by
          have h1 := hs1.1
          have h2 := codeL_len ss bs
          have h3 := Hm.out
          omega
        have h2 := uncodeP_any A A1 c c1 n n1 ss (codeL ss bs) w1 (hx.below hb1) hs1 (by omega) HL.out (by omega)
        rw [Hur.out] at h2
        have H2 := Lib.hid h2; clear h2 H1
        go_wp2_with fail
        refine H2.out.mono ?_
        rintro e w2 ⟨A2, n2, c2, rfl, hs2, hb2⟩
        have hb2' := hb1.trans (hb2.mono hb1.size)
        have h3 := equalB_any _ _ _ _ _ _ _ _ w2 hs2 (hy.below hb2')
        rw [decide_eq_true rfl] at h3
        have H3 := Lib.hid h3; clear h3
        go_wp2_with fail
        refine H3.out.mono ?_
        rintro e w3 ⟨rfl, hw3⟩
        obtain rfl : w2 = w3 := hw3.symm
        go_wp2_with fail
        refine (awake_any _).mono ?_
        rintro e w4 ⟨rfl, hb4⟩
        go_wp2_with fail
        go_ret
        exact ⟨rfl, hb2'.trans (hb4.mono hb2'.size)⟩
      · have Hck := Lib.hid hck; clear hck
        have d1 : (((checkL ss : Nat) : Int) != 0) = true := by simp; exact hc
        clear hc
        go_enter Try.func5, Try.ntmps5
        go_wp2_with fail
        refine Hfew.out.mono ?_
        rintro e w0 ⟨rfl, hw0⟩
        obtain rfl : w = w0 := hw0.symm
        clear Hfew
        go_wp2_with fail
        refine Hck.out.mono ?_
        rintro e w0 ⟨rfl, hw0⟩
        obtain rfl : w = w0 := hw0.symm
        clear Hck
        go_wp2_with fail
        refine (awake_any _).mono ?_
        rintro e w1 ⟨rfl, hb1⟩
        go_wp2_with fail
        go_ret
        exact ⟨rfl, hb1⟩
  · have hf' : fewB ss = false := by simpa using hf
    rw [hf'] at hfew
    have Hfew := Lib.hid hfew; clear hfew hf hf'
    go_enter Try.func5, Try.ntmps5
    go_wp2_with fail
    refine Hfew.out.mono ?_
    rintro e w0 ⟨rfl, hw0⟩
    obtain rfl : w = w0 := hw0.symm
    go_wp2_with fail
    refine (awake_any _).mono ?_
    rintro e w1 ⟨rfl, hb1⟩
    go_wp2_with fail
    go_ret
    exact ⟨rfl, hb1⟩
end Go.Proofs.Ytdebhdopginllaa

/- The walk of words, and of the law DictionaryShortens. -/
import Derived.Test.YtdebhdopginllaaDoorFd
import Derived.Test.YtdebhdopginllaaDoorEk
import Derived.Test.YtdebhdopginllaaDoorDv
namespace Go.Proofs.YtdebhdopginllaaDoor
open Go.RowKit Go.Proofs
set_option linter.unusedVariables false
attribute [local go_sem] Oper.semAt_some

/-- what words hands back: a row of slices, one for each word, into the argument. -/
def WordsR (A : Option Addr) (bs : List UInt8) (w : World) (e : Ending) (w' : World) : Prop :=
  ∃ g, e = .returned (.slice (some ⟨g, 0, none⟩) (wordsL bs).length (wordsL bs).length) ∧ w.heap.size ≤ g ∧ Row id w' g 22 ((closeF bs bs.length).map (spV A)) ∧ Below w.heap.size w w'
theorem words_spans (bs : List UInt8) : (wordsL bs).length = (closeF bs bs.length).length := by rw [← fields_words, List.length_map]

theorem lawWords_any (A : Option Addr) (c n : Nat) (bs : List UInt8) (w : World) (hx : Bytes w A n c bs) (hn : n ≤ 1000000000) (hT : Tabs w) :
    Calls Tryd.prog 9 #[.slice A n c] w (WordsR A bs w) := by
  have e0 := hx.1
  subst e0
  have h := fields_any A c _ bs w hx hn hT
  rw [← words_spans] at h
  have H := Lib.hid h; clear h
  go_enter Tryd.func9, Tryd.ntmps9
  go_wp2_with fail
  refine H.out.mono ?_
  rintro e w1 ⟨g, rfl, h1, h2, h3⟩
  go_wp2_with fail
  go_ret
  exact ⟨g, rfl, h1, h2, h3⟩
/-- one word of the row. -/
theorem word_at {A : Option Addr} {c n g : Nat} {bs : List UInt8} {w : World} (hx : Bytes w A n c bs) (hr : Row id w g 22 ((closeF bs bs.length).map (spV A))) {j : Nat} (hj : j < (wordsL bs).length) :
    ∃ A7, w.cell? ⟨g, j, none⟩ = some (.slice A7 (gs (wordsL bs) j).length (gs (wordsL bs) j).length) ∧ Bytes w A7 (gs (wordsL bs) j).length (gs (wordsL bs) j).length (gs (wordsL bs) j) := by
  rw [words_spans] at hj
  obtain ⟨p, hp⟩ : ∃ p, (closeF bs bs.length)[j] = p := ⟨_, rfl⟩
  have hin := (closeF_in bs).1 p (by rw [← hp]; exact List.getElem_mem hj)
  have e : gs (wordsL bs) j = spB bs p := by rw [← fields_words]; simp [gs, List.getD, hj, hp]
  have hl : (spB bs p).length = p.2 - p.1 := by unfold spB; rw [List.length_take, List.length_drop]; omega
  have hc := hr.cell (.slice none 0 0) (j := j) (by rw [List.length_map]; exact hj)
  have e2 : ((closeF bs bs.length).map (spV A)).getD j (.slice none 0 0) = spV A p := by simp [List.getD, hj, hp]
  rw [e2] at hc
  rw [e, hl]
  refine ⟨_, hc, hl, Nat.le_refl _, ?_⟩
  have hn := hx.1
  have := hx.2.2.cut p.1 (p.2 - p.1) (by omega) (if p.2 = p.1 then A else A.map (·.add p.1)) (fun h => if_neg (by omega))
  intro h0
  obtain ⟨b, off, h1, h2, h3⟩ := this h0
  refine ⟨b, off, h1, h2, fun i hi => ?_⟩
  rw [h3 i hi]
  show some (Value.int .u8 (gb bs (p.1 + i))) = some (Value.int .u8 (gb ((bs.drop p.1).take (p.2 - p.1)) i))
  rw [gb_take _ _ _ hi, gb_drop]

theorem hiC_take {bs : List UInt8} {k : Nat} (h : k < bs.length) : hiC (bs.take (k + 1)) = hiC (bs.take k) + if 128 ≤ gb bs k then 1 else 0 := by
  rw [List.take_add_one, hiC_append, List.getElem?_eq_getElem h]
  have e : gb bs k = ((bs[k]).toNat : Int) := by simp [gb, List.getD, h]
  rw [e]
  unfold hiC
  by_cases h2 : 128 ≤ (bs[k]).toNat
  · rw [if_pos (by omega)]; simp [h2]
  · rw [if_neg (by omega)]; simp; omega
theorem sav_take {ss l : List (List UInt8)} {k : Nat} (h : k < l.length) : savL ss (l.take (k + 1)) = savL ss (l.take k) + if gs l k ∈ ss then (gs l k).length - 1 else 0 := by
  have e : l.take (k + 1) = l.take k ++ [l[k]] := by rw [List.take_add_one, List.getElem?_eq_getElem h]; rfl
  rw [e, gs_get h]
  unfold savL
  rw [List.map_append, List.sum_append, List.map_cons, List.map_nil]
  simp only [List.sum_cons, List.sum_nil, Nat.add_zero]

theorem sav_le (ss l : List (List UInt8)) (k : Nat) : savL ss (l.take k) ≤ savL ss l := by
  have e : savL ss l = savL ss (l.take k) + savL ss (l.drop k) := by
    conv => lhs; rw [← List.take_append_drop k l]
    unfold savL
    rw [List.map_append, List.sum_append]
  omega
theorem eq_self_i (x : Int) : (x == x) = true := by simp
theorem few_facts {ss : List (List UInt8)} (h : fewB ss = true) : ss.length ≤ 80 ∧ ∀ s ∈ ss, s.length ≤ 100 := by
  unfold fewB at h
  rw [Bool.and_eq_true, decide_eq_true_eq, List.all_eq_true] at h
  exact ⟨h.1, fun s hs => by simpa using h.2 s hs⟩
set_option maxRecDepth 100000 in
set_option maxHeartbeats 2000000 in
theorem dictionaryShortens_any (A A' : Option Addr) (c n c' m : Nat) (ss : List (List UInt8)) (bs : List UInt8) (w : World) (hx : Strs w A n c ss) (hy : Bytes w A' m c' bs) (hn : n ≤ 9223372036854775807) (hl : ∀ s ∈ ss, s.length ≤ 9223372036854775807) (hT : Tabs w) :
    Calls Tryd.prog 4 #[.slice A n c, .slice A' m c'] w fun e w' => e = .returned (.bool true) ∧ Below w.heap.size w w' := by
  have hfew := few_any A c n ss w hx hn hl
  by_cases hf : fewB ss = true
  · obtain ⟨hf1, hf2⟩ := few_facts hf
    rw [hx.1] at hf1
    rw [hf] at hfew
    have Hfew := Lib.hid hfew; clear hfew hf
    have hl2 : ∀ s ∈ ss, s.length ≤ 1000000000 := fun s hs => by have := hf2 s hs; omega
    have HL := Lib.hid hl2; clear hl2 hf2 hl
    by_cases hm : 300 < m
    · have d0 : decide ((300 : Int) < (m : Int)) = true := by simp; omega
      go_enter Tryd.func4, Tryd.ntmps4
      go_wp2_with fail
      refine Hfew.out.mono ?_
      rintro e w0 ⟨rfl, hw0⟩
      obtain rfl : w = w0 := hw0.symm
      go_wp2_with fail
      refine (awake_any _).mono ?_
      rintro e w1 ⟨rfl, hb1⟩
      go_wp2_with fail
      go_ret
      exact ⟨rfl, hb1⟩
    · have d0 : decide ((300 : Int) < (m : Int)) = false := by simp; omega
      have hchk := checkP_any A c n ss w hx (by omega) HL.out
      by_cases hc0 : checkL ss = 0
      · rw [hc0] at hchk
        have Hchk := Lib.hid hchk; clear hchk
        have hcode := codeP_any A A' c c' n m ss bs w hx hy (by omega) HL.out (by omega)
        rw [show codeR ss bs = (codeL ss bs, 0) by unfold codeR; rw [if_pos hc0]] at hcode
        have Hcode := Lib.hid hcode; clear hcode
        have hcnt := code_count (ws := ss) (fun s hs => (checkL_zero.1 hc0).2.1 s hs) bs
        have hhi := hiC_le bs
        rw [hy.1] at hcnt hhi
        have HW : Hid (∀ s ∈ ss, 2 ≤ s.length) := fun s hs => by have := (checkL_zero.1 hc0).2.1 s hs; simp [isWordB] at this; exact this.1
        clear hc0
        go_enter Tryd.func4, Tryd.ntmps4
        go_wp2_with fail
        refine Hfew.out.mono ?_
        rintro e w0 ⟨rfl, hw0⟩
        obtain rfl : w = w0 := hw0.symm
        go_wp2_with fail
        refine Hchk.out.mono ?_
        rintro e w0 ⟨rfl, hw0⟩
        obtain rfl : w = w0 := hw0.symm
        go_wp2_with fail
        refine Hcode.out.mono ?_
        rintro e w1 ⟨A1, n1, c1, rfl, hs1, hb1⟩
        clear Hcode Hchk Hfew
        have hn1 := hs1.1
        go_wp2_with fail
        go_loop [7, 36] (fun s7 s36 => ∃ k : Nat, k ≤ m ∧ s36 = .int .i64 (k : Int) ∧ s7 = .int .i64 ((m + hiC (bs.take k) : Nat) : Int)) (fun _ i => m - (intOf i).toNat)
        case atStart => exact ⟨0, Nat.zero_le _, rfl, rfl⟩
        case round =>
          obtain ⟨k, hk, rfl, rfl⟩ := hrel
          by_cases hlt : k < m
          · obtain ⟨b, off, rfl, hb, hc⟩ := (hy.below hb1).get hlt
            have h1 := hc k hlt
            clear hc
            have hcm := hy.2.1
            have ht := hiC_take (bs := bs) (k := k) (by rw [hy.1]; exact hlt)
            have htl := hiC_le (bs.take k)
            rw [List.length_take] at htl
            by_cases h128 : 128 ≤ gb bs k
            · have d2 : decide (128 ≤ gb bs k) = true := by simpa using h128
              rw [if_pos h128] at ht
              go_wp2_with fail
              go_round
              case rel => exact ⟨k + 1, by omega, by go_num, by rw [ht]; go_num⟩
              case measure => simp [intOf]; omega
            · have d2 : decide (128 ≤ gb bs k) = false := by simpa using h128
              rw [if_neg h128] at ht
              go_wp2_with fail
              go_round
              case rel => exact ⟨k + 1, by omega, by go_num, by rw [ht]; rfl⟩
              case measure => simp [intOf]; omega
          · obtain rfl : k = m := by omega
            rw [List.take_of_length_le (by rw [hy.1]; exact Nat.le_refl _)]
            have Hw := Lib.hid (lawWords_any A' c' k bs w1 (hy.below hb1) (by omega) (hT.below hb1))
            go_wp2_with fail
            refine Hw.out.mono ?_
            rintro e w2 ⟨g, rfl, hg, hrow, hb2⟩
            clear Hw
            have hb2' := hb1.trans (hb2.mono hb1.size)
            have hx2 := hx.below hb2'
            have hy2 := hy.below hb2'
            clear hx hy hT hb1 hb2 hs1
            have Hx2 := Lib.hid hx2; clear hx2
            have Hy2 := Lib.hid hy2; clear hy2
            have Hrow := Lib.hid hrow; clear hrow
            have hwn : (wordsL bs).length ≤ k + 1 := by rw [words_spans]; have := (closeF_in bs).2; have e := Hy2.out.1; omega
            go_wp2_with fail
            go_loop [7, 48] (fun s7 s48 => ∃ j : Nat, j ≤ (wordsL bs).length ∧ s48 = .int .i64 (j : Int) ∧ ∃ z : Nat, s7 = .int .i64 (z : Int) ∧ z + savL ss ((wordsL bs).take j) = k + hiC bs) (fun _ i => (wordsL bs).length - (intOf i).toNat)
            case atStart => exact ⟨0, Nat.zero_le _, rfl, _, rfl, by simp [savL]⟩
            case round =>
              obtain ⟨j, hj, rfl, z, rfl, hz⟩ := hrel
              by_cases hjl : j < (wordsL bs).length
              · obtain ⟨A7, hc7, hb7⟩ := word_at Hy2.out Hrow.out hjl
                have hst := fun W (h : W = w2) => by subst h; exact hb7.str 22 5 9 uB u8 uS
                have hst' := hst w2 rfl
                have hcon := contains_any A c n ss (gs (wordsL bs) j) w2 Hx2.out (by omega)
                have hsv := sav_take (ss := ss) hjl
                have hle := sav_le ss (wordsL bs) (j + 1)
                have hwl := words_len hjl
                have hyl := Hy2.out.1
                by_cases hmem : gs (wordsL bs) j ∈ ss
                · rw [decide_eq_true hmem] at hcon
                  rw [if_pos hmem] at hsv
                  have h2 := HW.out _ hmem
                  have Hcon := Lib.hid hcon; clear hcon hst hb7
                  go_wp2_with fail
                  refine Hcon.out.mono ?_
                  rintro e w0 ⟨rfl, hw0⟩
                  obtain rfl : w2 = w0 := hw0.symm
                  go_wp2_with fail
                  go_round
                  case rel => exact ⟨j + 1, by omega, by go_num, z - ((gs (wordsL bs) j).length - 1), by go_num, by omega⟩
                  case measure => simp [intOf]; omega
                · rw [decide_eq_false hmem] at hcon
                  rw [if_neg hmem] at hsv
                  have Hcon := Lib.hid hcon; clear hcon hst hb7
                  go_wp2_with fail
                  refine Hcon.out.mono ?_
                  rintro e w0 ⟨rfl, hw0⟩
                  obtain rfl : w2 = w0 := hw0.symm
                  go_wp2_with fail
                  go_round
                  case rel => exact ⟨j + 1, by omega, by go_num, z, rfl, by omega⟩
                  case measure => simp [intOf]; omega
              · obtain rfl : j = (wordsL bs).length := by omega
                rw [List.take_length] at hz
                obtain rfl : z = n1 := by omega
                have q1 := eq_self_i (z : Int)
                go_wp2_with fail
                refine (awake_any _).mono ?_
                rintro e w3 ⟨rfl, hb3⟩
                go_wp2_with fail
                go_ret
                exact ⟨rfl, hb2'.trans (hb3.mono hb2'.size)⟩
      · have d1 : (((checkL ss : Nat) : Int) == 0) = false := by simpa using hc0
        have Hchk := Lib.hid hchk; clear hchk
        go_enter Tryd.func4, Tryd.ntmps4
        go_wp2_with fail
        refine Hfew.out.mono ?_
        rintro e w0 ⟨rfl, hw0⟩
        obtain rfl : w = w0 := hw0.symm
        go_wp2_with fail
        refine Hchk.out.mono ?_
        rintro e w0 ⟨rfl, hw0⟩
        obtain rfl : w = w0 := hw0.symm
        go_wp2_with fail
        refine (awake_any _).mono ?_
        rintro e w1 ⟨rfl, hb1⟩
        go_wp2_with fail
        go_ret
        exact ⟨rfl, hb1⟩
  · have hf' : fewB ss = false := by simpa using hf
    rw [hf'] at hfew
    have Hfew := Lib.hid hfew; clear hfew hf hf'
    go_enter Tryd.func4, Tryd.ntmps4
    go_wp2_with fail
    refine Hfew.out.mono ?_
    rintro e w0 ⟨rfl, hw0⟩
    obtain rfl : w = w0 := hw0.symm
    go_wp2_with fail
    refine (awake_any _).mono ?_
    rintro e w1 ⟨rfl, hb1⟩
    go_wp2_with fail
    go_ret
    exact ⟨rfl, hb1⟩
end Go.Proofs.YtdebhdopginllaaDoor

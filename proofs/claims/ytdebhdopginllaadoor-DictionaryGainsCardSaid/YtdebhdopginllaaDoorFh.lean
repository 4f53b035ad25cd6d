/- The walk of the law DictionaryGains. -/
import Derived.Test.YtdebhdopginllaaDoorFg
import Derived.Test.YtdebhdopginllaaDoorFe
namespace Go.Proofs.YtdebhdopginllaaDoor
open Go.RowKit Go.Proofs
set_option linter.unusedVariables false
attribute [local go_sem] Oper.semAt_some

theorem count_take {l : List (List UInt8)} {s : List UInt8} {k : Nat} (h : k < l.length) : (l.take (k + 1)).count s = (l.take k).count s + if gs l k = s then 1 else 0 := by
  have e : l.take (k + 1) = l.take k ++ [l[k]] := by rw [List.take_add_one, List.getElem?_eq_getElem h]; rfl
  rw [e, List.count_append, gs_get h, List.count_singleton]
  by_cases h2 : l[k] = s
  · subst h2; simp
  · simp [h2]

set_option maxRecDepth 100000 in
set_option maxHeartbeats 2000000 in
theorem dictionaryGains_any (A : Option Addr) (c n : Nat) (bs : List UInt8) (x : Nat) (w : World) (hx : Bytes w A n c bs) (hx1 : x ≤ 255) (hT : Tabs w) :
    Calls Tryd.prog 3 #[.slice A n c, .int .u8 (x : Int)] w fun e w' => e = .returned (.bool true) ∧ Below w.heap.size w w' := by
  obtain ⟨m, hm⟩ : ∃ m, x % 65 = m := ⟨_, rfl⟩
  have hm64 : m ≤ 64 := by omega
  have hrem : Int.tmod (x : Int) 65 = (m : Int) := by rw [Int.tmod_eq_emod_of_nonneg (by omega)]; omega
  by_cases hn : 300 < n
  · have d0 : decide ((300 : Int) < (n : Int)) = true := by simp; omega
    go_enter Tryd.func3, Tryd.ntmps3
    go_wp2_with fail
    refine (awake_any _).mono ?_
    rintro e w1 ⟨rfl, hb1⟩
    go_wp2_with fail
    go_ret
    exact ⟨rfl, hb1⟩
  · have d0 : decide ((300 : Int) < (n : Int)) = false := by simp; omega
    have h1 := learnP_any A c n bs (m : Int) w hx (by omega) (by omega)
    rw [show learnR bs (m : Int) = (learnL bs m, 0) by unfold learnR; rw [if_neg (by omega), Int.toNat_natCast]] at h1
    have H1 := Lib.hid h1; clear h1
    go_enter Tryd.func3, Tryd.ntmps3
    go_wp2_with fail
    refine H1.out.mono ?_
    rintro e w1 ⟨A1, n1, c1, rfl, hs1, hb1⟩
    have h2 := learnP_any A c n bs 64 w1 (hx.below hb1) (by omega) (by omega)
    rw [show learnR bs 64 = (learnL bs 64, 0) by unfold learnR; rw [if_neg (by omega)]; rfl] at h2
    have H2 := Lib.hid h2; clear h2
    go_wp2_with fail
    refine H2.out.mono ?_
    rintro e w2 ⟨A2, n2, c2, rfl, hs2, hb2⟩
    have hb2' := hb1.trans (hb2.mono hb1.size)
    have hs1' := hs1.below hb2
    have hl1 := hs1.1
    have hl2 := hs2.1
    have hn1 : n1 ≤ m := by
      rw [← hl1]
      have := (learnSel_ok (ws := wordsL bs) m [] List.nodup_nil (fun s hs => by cases hs)).2.2
      simpa [learnL] using this
    have hn2 : n2 ≤ 64 := by
      rw [← hl2]
      have := (learnSel_ok (ws := wordsL bs) 64 [] List.nodup_nil (fun s hs => by cases hs)).2.2
      simpa [learnL] using this
    have d1 : decide ((m : Int) < (n1 : Int)) = false := by simp; omega
    have d1n : decide (m < n1) = false := by simp; omega
    have d1p : ¬ (m < n1) := by omega
    have h3 := checkP_any A1 c1 n1 (learnL bs m) w2 hs1' (by omega) (fun s hs => by
      have := word_le ((checkL_zero.1 (learn_check bs hm64)).2.1 s hs); omega)
    rw [learn_check bs hm64] at h3
    have H3 := Lib.hid h3; clear h3
    obtain ⟨r4, v4⟩ := hs2.cut_h (min (m : Int) (n2 : Int)) (by omega) (by omega)
    have v4e : Hid ((learnL bs 64).take (min (m : Int) (n2 : Int)).toNat = learnL bs m) := by
      show _ = _
      rw [learn_take bs hm64]
      rcases Nat.le_total m n2 with h | h
      · rw [Int.min_eq_left (by omega), Int.toNat_natCast]
      · rw [Int.min_eq_right (by omega), Int.toNat_natCast, List.take_of_length_le (by omega), List.take_of_length_le (by omega)]
    go_wp2_with fail
    refine H3.out.mono ?_
    rintro e w0 ⟨rfl, hw0⟩
    obtain rfl : w2 = w0 := hw0.symm
    go_wp2_with fail
    rw [v4e.out] at v4
    have h5 := equalS_any _ _ _ _ _ _ _ _ w2 hs1' v4 (by omega) (by omega)
    rw [decide_eq_true rfl] at h5
    have H5 := Lib.hid h5; clear h5
    refine H5.out.mono ?_
    rintro e w3 ⟨rfl, hd3⟩
    have hd3' : Drawn w2 w3 := hd3
    have hb3 : Below w2.heap.size w2 w3 := hd3'.below _
    have hb3' := hb2'.trans (hd3'.below _)
    have hs3 := hs1'.below hb3
    have hx3 := hx.below hb3'
    have hT3 := hT.below hb3'
    clear hd3 hd3' H5 H3 H2 H1 v4 v4e r4 hs2 hs1 hs1' hx hT hb1 hb2 hb2' hb3
    have Hs3 := Lib.hid hs3; clear hs3
    have Hx3 := Lib.hid hx3; clear hx3
    have HT3 := Lib.hid hT3; clear hT3
    go_wp2_with fail
    have Hgb : Hid (∀ i, i < n1 → gainS (wordsL bs) (gs (learnL bs m) i) ≤ 10000 ∧ (wordsL bs).count (gs (learnL bs m) i) ≤ 301 ∧ (((wordsL bs).count (gs (learnL bs m) i) : Int) * (((gs (learnL bs m) i).length : Int) - 1)) ≤ 9331) := fun i hi => by
      obtain ⟨g1, g2, g3, g4, g5⟩ := learn_gains bs m (j := i) (by omega)
      have hc : (wordsL bs).count (gs (learnL bs m) i) ≤ 301 := by
        have h1 := List.count_le_length (a := gs (learnL bs m) i) (l := wordsL bs)
        have h2 := (closeF_in bs).2
        rw [words_spans] at h1
        have := Hx3.out.1
        omega
      have e : (((wordsL bs).count (gs (learnL bs m) i) * ((gs (learnL bs m) i).length - 1) : Nat) : Int) = ((wordsL bs).count (gs (learnL bs m) i) : Int) * (((gs (learnL bs m) i).length : Int) - 1) := by
        rw [Int.natCast_mul, Int.natCast_sub (by omega)]; rfl
      have hp := Nat.mul_le_mul hc (show (gs (learnL bs m) i).length - 1 ≤ 31 by omega)
      unfold gainS gainL
      omega
    go_loopg [10, 65] n1 (fun gf s10 s65 wx => ∃ (j : Nat) (z : Int), j + gf = n1 ∧ s65 = .int .i64 (j : Int) ∧ s10 = .int .i64 z ∧ z ≤ 1099511627776 ∧ 0 < z ∧ Hid (∀ i, i < n1 → j ≤ i → gainS (wordsL bs) (gs (learnL bs m) i) ≤ z) ∧ Below w3.heap.size w3 wx)
    case atStart => exact ⟨0, _, by omega, rfl, rfl, Int.le_refl _, by omega, fun i hi _ => by
        have h := Hgb.out i hi
        omega, Below.refl _ _⟩
    case round =>
      obtain ⟨j, z, hjg, rfl, rfl, hz1, hz0, HZ, hbw⟩ := hrel
      cases gk with
      | zero =>
        have hin : ¬ ((j : Int) < (n1 : Int)) := by omega
        go_wp2_with fail
        refine (awake_any _).mono ?_
        rintro e w4 ⟨rfl, hb4⟩
        go_wp2_with fail
        go_ret
        have hb5 := hb3'.trans (hbw.mono hb3'.size)
        exact ⟨rfl, hb5.trans (hb4.mono hb5.size)⟩
      | succ gf =>
        have hjn : j < n1 := by omega
        have hin : (j : Int) < (n1 : Int) := by omega
        obtain ⟨b, off, rfl, hb, hc⟩ := (Hs3.out.below hbw).get hjn
        have hc1 := hc j hjn
        clear hc
        have hcc := Hs3.out.2.1
        have hxr := Hx3.out.below hbw
        have hw := lawWords_any A c n bs wr hxr (by omega) (HT3.out.below hbw)
        have Hw := Lib.hid hw; clear hw
        go_wp2_with fail
        refine Hw.out.mono ?_
        rintro e w4 ⟨g, rfl, hg, hrow, hb4⟩
        clear Hw
        have Hx4 := Lib.hid (hxr.below hb4)
        have Hrow := Lib.hid hrow; clear hrow hxr
        obtain ⟨g1, g2, g3, g4, g5⟩ := learn_gains bs m (j := j) (by omega)
        obtain ⟨q1, q2, q3⟩ := Hgb.out j hjn
        have hzj := HZ.out j hjn (Nat.le_refl _)
        have hnext : Hid (∀ i, i < n1 → j + 1 ≤ i → gainS (wordsL bs) (gs (learnL bs m) i) ≤ gainS (wordsL bs) (gs (learnL bs m) j)) := fun i hi hj => (learn_gains bs m (j := i) (by omega)).2.2.2.2 j (by omega)
        clear g5
        obtain ⟨s, hs⟩ : ∃ s, gs (learnL bs m) j = s := ⟨_, rfl⟩
        rw [hs] at g1 g2 g3 g4 q1 q2 q3 hzj hc1 hnext ⊢
        have hbw4 := hbw.trans (hb4.mono hbw.size)
        have hwn : (wordsL bs).length ≤ n + 1 := by rw [words_spans]; have := (closeF_in bs).2; have e := Hx4.out.1; omega
        go_wp2_with fail
        go_loop [13, 72] (fun s13 s72 => ∃ k : Nat, k ≤ (wordsL bs).length ∧ s72 = .int .i64 (k : Int) ∧ s13 = .int .i64 ((((wordsL bs).take k).count s : Nat) : Int)) (fun _ i => (wordsL bs).length - (intOf i).toNat)
        case atStart => exact ⟨0, Nat.zero_le _, rfl, by simp⟩
        case round =>
          obtain ⟨k, hk, rfl, rfl⟩ := hrel
          by_cases hkl : k < (wordsL bs).length
          · obtain ⟨A7, hc7, hb7⟩ := word_at Hx4.out Hrow.out hkl
            have hst := hb7.str 22 5 9 uB u8 uS
            have hct := count_take (s := s) hkl
            have hcl : ((wordsL bs).take k).count s ≤ k := by have := List.count_le_length (a := s) (l := (wordsL bs).take k); rw [List.length_take] at this; omega
            clear hb7
            by_cases he : gs (wordsL bs) k = s
            · have hd : ((strB (gs (wordsL bs) k)).toList == (strB s).toList) = true := by rw [strB_beq]; exact decide_eq_true he
              rw [if_pos he] at hct
              clear he
              go_wp2_with fail
              go_round
              case rel => exact ⟨k + 1, by omega, by go_num, by rw [hct]; go_num⟩
              case measure => simp [intOf]; omega
            · have hd : ((strB (gs (wordsL bs) k)).toList == (strB s).toList) = false := by rw [strB_beq]; exact decide_eq_false he
              rw [if_neg he] at hct
              have He := Lib.hid he; clear he
              go_wp2_with fail
              go_round
              case rel => exact ⟨k + 1, by omega, by go_num, by rw [hct]; rfl⟩
              case measure => simp [intOf]; omega
          · obtain rfl : k = (wordsL bs).length := by omega
            rw [List.take_length]
            obtain ⟨C, hC⟩ : ∃ C, (wordsL bs).count s = C := ⟨_, rfl⟩
            obtain ⟨L, hL⟩ : ∃ L, s.length = L := ⟨_, rfl⟩
            have hlen : (strB s).size = L := by rw [strB_size, hL]
            have hge : gainS (wordsL bs) s = (C : Int) * ((L : Int) - 1) - ((L : Int) + 1) := by unfold gainS gainL; rw [hC, hL]
            rw [hC] at g1 q2 q3 ⊢
            rw [hL] at g2 g3 q3
            obtain ⟨G, hG⟩ : ∃ G, (C : Int) * ((L : Int) - 1) = G := ⟨_, rfl⟩
            rw [hG] at q3 hge
            rw [hge] at g4 q1 hzj hnext
            have d2 : decide ((C : Int) < 2) = false := by simp; omega
            have d3 : decide (G - (L : Int) - 1 ≤ 0) = false := by simp; omega
            have d4 : decide (z < G - (L : Int) - 1) = false := by simp; omega
            have hw64 : wrap64 ((C : Int) * ((L : Int) - 1)) = G := by rw [hG]; unfold wrap64; omega
            go_wp2_with fail
            go_roundg gf
            case measure => omega
            case rel => exact ⟨j + 1, G - (L : Int) - 1, by omega, by go_num, rfl, by omega, by omega, fun i hi hj => by have h := hnext.out i hi hj; omega, hbw4⟩
end Go.Proofs.YtdebhdopginllaaDoor

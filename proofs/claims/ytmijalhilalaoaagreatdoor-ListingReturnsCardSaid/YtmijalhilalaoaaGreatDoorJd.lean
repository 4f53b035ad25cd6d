/- The text of a program is assembled to the same program: the walk of ListingAssembles. -/
import Derived.Test.YtmijalhilalaoaaGreatDoorJc
import Derived.Test.YtmijalhilalaoaaGreatDoorTn
import Derived.Test.YtmijalhilalaoaaGreatDoorGj
namespace Go.Proofs.YtmijalhilalaoaaGreatDoor
open Go.RowKit Go.Proofs
set_option linter.unusedVariables false

theorem printE_zero {p : Prg} (h : printE p = 0) : formE p = 0 ∧ exAll p = true ∧ (textL p).length ≤ 8192 ∧ printT p = textL p := by
  have hp : printT p = textL p := by unfold printT; rw [if_pos h]
  unfold printE at h
  by_cases h1 : formE p = 0
  · rw [if_neg (by simp [h1])] at h
    by_cases h2 : exAll p = false
    · rw [if_pos h2] at h; exact absurd h (by decide)
    · rw [if_neg h2] at h
      by_cases h3 : 8192 < (textL p).length
      · rw [if_pos h3] at h; exact absurd h (by decide)
      · exact ⟨h1, by simpa using h2, by omega, hp⟩
  · rw [if_pos h1] at h; exact absurd h h1
theorem sameB_refl (p : Prg) : sameB p p = true := by unfold sameB; simp
set_option maxRecDepth 100000 in
set_option maxHeartbeats 4000000 in
theorem listingAssembles_any (A A' : Option Addr) (n c n' c' : Nat) (L : Int) (p : Prg) (w : World) (hx : Progs w A n c L A' n' c' p) (hT : TabI w) (hE : ErrR w) :
    Calls Tryz.prog 3 #[.agg #[.slice A n c, .int .i64 L, .slice A' n' c']] w (RetB w true) := by
  have g0 : Below w.heap.size w (w.alloc (.cells #[.slice A n c, .int .i64 L, .slice A' n' c'] 25)) := balloc (Below.refl _ _) _
  have r0 := rowV.new w 25 #[.slice A n c, .int .i64 L, .slice A' n' c']
  have hx0 := hx.below g0
  have hT0 := hT.below g0
  have hE0 := hE.below g0
  obtain ⟨w0, hw0⟩ : ∃ w0, w0 = w.alloc (.cells #[.slice A n c, .int .i64 L, .slice A' n' c'] 25) := ⟨_, rfl⟩
  rw [← hw0] at g0 r0 hx0 hT0 hE0
  obtain ⟨c0, c1, c2⟩ := three_cells r0
  have HF := Lib.hid (few_any A A' n c n' c' L w0)
  have Hw0 := Lib.hid hw0
  clear hw0 hT hE
  go_enter Tryz.func3, Tryz.ntmps3
  go_upto_region 1 with (fail)
  rw [← Hw0.out]
  clear Hw0
  go_wp2_with fail
  refine HF.out.mono ?_
  rintro e w1 ⟨rfl, hb1⟩
  have b1 := g0.trans (hb1.mono g0.size)
  have r1 := r0.below hb1 r0.lt
  have hx1 := hx0.below hb1
  have HTE := Lib.hid (And.intro (hT0.below hb1) (hE0.below hb1))
  clear HF c0 c1 c2 r0 hx0 hb1 hT0 hE0
  obtain ⟨c0, c1, c2⟩ := three_cells r1
  cases hfw : fewB n n' with
  | false =>
    go_wp2_with fail
    refine (awake_any w1 HTE.out.1).mono ?_
    rintro e w2 ⟨rfl, hb2⟩
    go_wp2_with fail
    go_ret
    exact ⟨rfl, b1.trans (hb2.mono b1.size)⟩
  | true =>
    have HN : Hid (n ≤ 100000 ∧ n' ≤ 100000) := by unfold fewB at hfw; simp at hfw; exact ⟨by omega, by omega⟩
    clear hfw
    have H1 := print_any A A' n c n' c' L p w1 hx1 HTE.out.1
    by_cases hp0 : printE p = 0
    · obtain ⟨q1, q2, q3, q4⟩ := printE_zero hp0
      obtain ⟨s, r, hrd, hps⟩ := textL_read q1 (fun i hi => (hx.code.2.2.1 i hi).1) q2 q3
      rw [q4, hp0] at H1
      replace H1 := Lib.hid H1
      have H2 := Lib.hid (fun W h => assemble_any (textL p) W (by omega) h)
      rw [hrd] at H2
      have HPS := Lib.hid hps
      clear q1 q2 q3 q4 hrd hps hp0
      obtain ⟨T, hTe⟩ : ∃ T, T = textL p := ⟨_, rfl⟩
      rw [← hTe] at H1 H2
      clear hTe
      go_wp2_with fail
      refine H1.out.mono ?_
      rintro e w2 ⟨rfl, hb2⟩
      have H3 := Lib.hid (And.intro (r1.below hb2 r1.lt) (And.intro (hx1.below hb2) (And.intro (b1.trans (hb2.mono b1.size)) (And.intro (HTE.out.1.below hb2) (HTE.out.2.below hb2)))))
      clear H1 c0 c1 c2 r1 hx1 hb2 b1 HTE
      go_wp2_with fail
      refine (H2.out w2 H3.out.2.2.2.2).mono ?_
      rintro e w3 ⟨D, m, d, D', m', d', rfl, hq, hb3⟩
      rw [HPS.out] at hq
      have rq := rowV.new w3 25 #[.slice D m d, .int .i64 (s.ln.length : Int), .slice D' m' d']
      have g3 := (Below.refl w3.heap.size w3).alloc (Nat.le_refl _) (.cells #[.slice D m d, .int .i64 (s.ln.length : Int), .slice D' m' d'] 25)
      have gab := hb3.trans (g3.mono hb3.size)
      have em : m = n := hq.arrs.1.symm.trans hx.arrs.1
      have em' : m' = n' := hq.code.1.symm.trans hx.code.1
      have H4 := And.intro rq (And.intro (hq.below g3) (And.intro (H3.out.1.below gab H3.out.1.lt) (And.intro (H3.out.2.1.below gab) (And.intro (H3.out.2.2.1.trans (gab.mono H3.out.2.2.1.size)) (H3.out.2.2.2.1.below gab)))))
      obtain ⟨wb, hwb⟩ : ∃ wb, wb = w3.alloc (.cells #[.slice D m d, .int .i64 (s.ln.length : Int), .slice D' m' d'] 25) := ⟨_, rfl⟩
      rw [← hwb] at H4
      have H4 := Lib.hid H4
      have HM : Hid (m ≤ 100000 ∧ m' ≤ 100000) := by rw [em, em']; exact HN
      have HWB := Lib.hid hwb
      clear rq g3 gab hq hb3 hwb H3 H2 em em'
      go_wp2_with fail
      rw [← HWB.out]
      refine (awake_any wb H4.out.2.2.2.2.2).mono ?_
      rintro e w4 ⟨rfl, hb4⟩
      have H5 := And.intro (H4.out.1.below hb4 H4.out.1.lt) (And.intro (H4.out.2.1.below hb4) (And.intro (H4.out.2.2.1.below hb4 H4.out.2.2.1.lt) (And.intro (H4.out.2.2.2.1.below hb4) (H4.out.2.2.2.2.1.trans (hb4.mono H4.out.2.2.2.2.1.size)))))
      obtain ⟨p0, p1, p2⟩ := three_cellsV H5.2.2.1
      obtain ⟨t0, t1, t2⟩ := three_cellsV H5.1
      have HS := same_any A A' n c n' c' L D D' m d m' d' (s.ln.length : Int) p p w4 H5.2.2.2.1 H5.2.1 HN.out.1 HM.out.1 HN.out.2 HM.out.2
      rw [sameB_refl] at HS
      replace HS := Lib.hid HS
      have H6 := Lib.hid H5
      clear H5 hb4 H4
      go_wp2_with fail
      refine HS.out.mono ?_
      rintro e w5 ⟨rfl, hb5⟩
      have H7 := And.intro (H6.out.1.below hb5 H6.out.1.lt) (And.intro (H6.out.2.1.below hb5) (And.intro (H6.out.2.2.1.below hb5 H6.out.2.2.1.lt) (And.intro (H6.out.2.2.2.1.below hb5) (H6.out.2.2.2.2.trans (hb5.mono H6.out.2.2.2.2.size)))))
      clear p0 p1 p2 t0 t1 t2
      obtain ⟨p0, p1, p2⟩ := three_cellsV H7.2.2.1
      obtain ⟨t0, t1, t2⟩ := three_cellsV H7.1
      have HS2 := sameR_any A A' n c n' c' L D D' m d m' d' (s.ln.length : Int) p p w5 H7.2.2.2.1 H7.2.1 HN.out.1 HM.out.1 HN.out.2 HM.out.2
      rw [sameB_refl] at HS2
      replace HS2 := Lib.hid HS2
      have HBL := Lib.hid H7.2.2.2.2
      clear H7 H6 hb5 HS
      go_wp2_with fail
      refine HS2.out.mono ?_
      rintro e w6 ⟨rfl, hb6⟩
      have HBM := Lib.hid (HBL.out.trans (hb6.mono HBL.out.size))
      clear hb6
      go_wp2_with fail
      go_ret
      exact ⟨by simp, HBM.out⟩
    · have hpt : printT p = [] := by unfold printT; rw [if_neg hp0]
      rw [hpt] at H1
      replace H1 := Lib.hid H1
      have dne : (printE p != 0) = true := by simpa using hp0
      have ye : ((strB ([] : List UInt8)).toList == ([] : List UInt8)) = true := by rw [strB_toList]; rfl
      obtain ⟨E, hEe⟩ : ∃ E, E = printE p := ⟨_, rfl⟩
      rw [← hEe] at H1 dne
      clear hpt hp0 hEe
      go_wp2_with fail
      refine H1.out.mono ?_
      rintro e w2 ⟨rfl, hb2⟩
      have b2 := b1.trans (hb2.mono b1.size)
      have hT2 := HTE.out.1.below hb2
      clear H1 c0 c1 c2 r1 hx1 hb2 b1 HTE
      go_wp2_with fail
      refine (awake_any w2 hT2).mono ?_
      rintro e w3 ⟨rfl, hb3⟩
      have HB := Lib.hid (b2.trans (hb3.mono b2.size))
      clear hb3 b2 hT2
      go_wp2_with fail
      go_ret
      exact ⟨by simp, HB.out⟩
end Go.Proofs.YtmijalhilalaoaaGreatDoor

/- Walks of the laws ListingPrints, ListingLines. -/
import Derived.Test.YtmijalhilalaoaaDoorTn
namespace Go.Proofs.YtmijalhilalaoaaDoor
open Go.RowKit Go.Proofs
set_option linter.unusedVariables false

set_option maxRecDepth 100000 in
set_option maxHeartbeats 2000000 in
theorem listingPrints_any (A A' : Option Addr) (n c n' c' : Nat) (L : Int) (p : Prg) (w : World) (hx : Progs w A n c L A' n' c' p) (hT : TabI w) :
    Calls Tryd.prog 3 #[.agg #[.slice A n c, .int .i64 L, .slice A' n' c']] w (RetB w true) := by
  have g0 : Below w.heap.size w (w.alloc (.cells #[.slice A n c, .int .i64 L, .slice A' n' c'] 25)) := balloc (Below.refl _ _) _
  have r0 := rowV.new w 25 #[.slice A n c, .int .i64 L, .slice A' n' c']
  have hx0 := hx.below g0
  have hT0 := hT.below g0
  obtain ⟨w0, hw0⟩ : ∃ w0, w0 = w.alloc (.cells #[.slice A n c, .int .i64 L, .slice A' n' c'] 25) := ⟨_, rfl⟩
  rw [← hw0] at g0 r0 hx0 hT0
  obtain ⟨c0, c1, c2⟩ := three_cells r0
  have HF := Lib.hid (few_any A A' n c n' c' L w0)
  have Hw0 := Lib.hid hw0
  clear hw0
  go_enter Tryd.func3, Tryd.ntmps3
  go_upto_region 1 with (fail)
  rw [← Hw0.out]
  clear Hw0
  go_wp2_with fail
  refine HF.out.mono ?_
  rintro e w1 ⟨rfl, hb1⟩
  have b1 := g0.trans (hb1.mono g0.size)
  have r1 := r0.below hb1 r0.lt
  have hx1 := hx0.below hb1
  have hT1 := hT0.below hb1
  clear HF c0 c1 c2 r0 hx0 hb1
  obtain ⟨c0, c1, c2⟩ := three_cells r1
  cases fewB n n' with
  | false =>
    go_wp2_with fail
    refine (awake_any w1 hT1).mono ?_
    rintro e w2 ⟨rfl, hb2⟩
    go_wp2_with fail
    go_ret
    exact ⟨rfl, b1.trans (hb2.mono b1.size)⟩
  | true =>
    have H1 := Lib.hid (print_any A A' n c n' c' L p w1 hx1 hT1)
    have H2 := Lib.hid (fun W h => printR_any A A' n c n' c' L p W h)
    obtain ⟨T, hTe⟩ : ∃ T, T = printT p := ⟨_, rfl⟩
    obtain ⟨E, hE⟩ : ∃ E, E = printE p := ⟨_, rfl⟩
    rw [← hTe, ← hE] at H1 H2
    clear hTe hE
    go_wp2_with fail
    refine H1.out.mono ?_
    rintro e w2 ⟨rfl, hb2⟩
    have b2 := b1.trans (hb2.mono b1.size)
    have r2 := r1.below hb2 r1.lt
    have hx2 := hx1.below hb2
    have hT2 := hT1.below hb2
    clear H1 c0 c1 c2 r1 hx1 hb2
    obtain ⟨c0, c1, c2⟩ := three_cells r2
    have H3 := Lib.hid (H2.out w2 hx2)
    go_wp2_with fail
    refine H3.out.mono ?_
    rintro e w3 ⟨rfl, hb3⟩
    have b3 := b2.trans (hb3.mono b2.size)
    have hT3 := hT2.below hb3
    clear H2 H3 c0 c1 c2 r2 hx2 hb3
    go_wp2_with fail
    refine (awake_any w3 hT3).mono ?_
    rintro e w4 ⟨rfl, hb4⟩
    have b4 := b3.trans (hb4.mono b3.size)
    go_wp2_with fail
    go_ret
    exact ⟨by simp, b4⟩

set_option maxRecDepth 100000 in
set_option maxHeartbeats 2000000 in
theorem listingLines_any (A A' : Option Addr) (n c n' c' : Nat) (L z : Int) (p : Prg) (w : World) (hx : Progs w A n c L A' n' c' p) (hz : (Lit.int .i64 z).wf = true) (hT : TabI w) :
    Calls Tryd.prog 4 #[.agg #[.slice A n c, .int .i64 L, .slice A' n' c'], .int .i64 z] w (RetB w true) := by
  have g0 : Below w.heap.size w (w.alloc (.cells #[.slice A n c, .int .i64 L, .slice A' n' c'] 25)) := balloc (Below.refl _ _) _
  have r0 := rowV.new w 25 #[.slice A n c, .int .i64 L, .slice A' n' c']
  have hx0 := hx.below g0
  have hT0 := hT.below g0
  obtain ⟨w0, hw0⟩ : ∃ w0, w0 = w.alloc (.cells #[.slice A n c, .int .i64 L, .slice A' n' c'] 25) := ⟨_, rfl⟩
  rw [← hw0] at g0 r0 hx0 hT0
  obtain ⟨c0, c1, c2⟩ := three_cells r0
  have HF := Lib.hid (few_any A A' n c n' c' L w0)
  have Hw0 := Lib.hid hw0
  clear hw0
  go_enter Tryd.func4, Tryd.ntmps4
  go_upto_region 1 with (fail)
  rw [← Hw0.out]
  clear Hw0
  go_wp2_with fail
  refine HF.out.mono ?_
  rintro e w1 ⟨rfl, hb1⟩
  have b1 := g0.trans (hb1.mono g0.size)
  have r1 := r0.below hb1 r0.lt
  have hx1 := hx0.below hb1
  have hT1 := hT0.below hb1
  clear HF c0 c1 c2 r0 hx0 hb1
  obtain ⟨c0, c1, c2⟩ := three_cells r1
  cases fewB n n' with
  | false =>
    go_wp2_with fail
    refine (awake_any w1 hT1).mono ?_
    rintro e w2 ⟨rfl, hb2⟩
    go_wp2_with fail
    go_ret
    exact ⟨rfl, b1.trans (hb2.mono b1.size)⟩
  | true =>
    have H1 := Lib.hid (lineP_any A A' n c n' c' L z p w1 hx1 hz hT1)
    have H2 := Lib.hid (fun W h => linePR_any A A' n c n' c' L z p W h hz)
    obtain ⟨T, hTe⟩ : ∃ T, T = lineT p z := ⟨_, rfl⟩
    obtain ⟨E, hE⟩ : ∃ E, E = lineE p z := ⟨_, rfl⟩
    rw [← hTe, ← hE] at H1 H2
    clear hTe hE
    go_wp2_with fail
    refine H1.out.mono ?_
    rintro e w2 ⟨rfl, hb2⟩
    have b2 := b1.trans (hb2.mono b1.size)
    have r2 := r1.below hb2 r1.lt
    have hx2 := hx1.below hb2
    have hT2 := hT1.below hb2
    clear H1 c0 c1 c2 r1 hx1 hb2
    obtain ⟨c0, c1, c2⟩ := three_cells r2
    have H3 := Lib.hid (H2.out w2 hx2)
    go_wp2_with fail
    refine H3.out.mono ?_
    rintro e w3 ⟨rfl, hb3⟩
    have b3 := b2.trans (hb3.mono b2.size)
    have hT3 := hT2.below hb3
    clear H2 H3 c0 c1 c2 r2 hx2 hb3
    go_wp2_with fail
    refine (awake_any w3 hT3).mono ?_
    rintro e w4 ⟨rfl, hb4⟩
    have b4 := b3.trans (hb4.mono b3.size)
    go_wp2_with fail
    go_ret
    exact ⟨by simp, b4⟩
end Go.Proofs.YtmijalhilalaoaaDoor

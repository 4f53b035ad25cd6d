/- Walk of the law ListingCompares. -/
import Derived.Test.YtmijalhilalaoaaDoorTo
namespace Go.Proofs.YtmijalhilalaoaaDoor
open Go.RowKit Go.Proofs
set_option linter.unusedVariables false

theorem fewB_le {n n' : Nat} (h : fewB n n' = true) : n ≤ 20 ∧ n' ≤ 300 := by
  unfold fewB at h
  simpa using h

set_option maxRecDepth 100000 in
set_option maxHeartbeats 4000000 in
theorem listingCompares_any (A A' : Option Addr) (n c n' c' : Nat) (L : Int) (D D' : Option Addr) (m d m' d' : Nat) (M : Int) (p q : Prg) (w : World) (hx : Progs w A n c L A' n' c' p) (hy : Progs w D m d M D' m' d' q) (hT : TabI w) :
    Calls Tryd.prog 5 #[.agg #[.slice A n c, .int .i64 L, .slice A' n' c'], .agg #[.slice D m d, .int .i64 M, .slice D' m' d']] w (RetB w true) := by
  obtain ⟨g0, r0, s0⟩ := two_alloc w #[.slice A n c, .int .i64 L, .slice A' n' c'] #[.slice D m d, .int .i64 M, .slice D' m' d'] 25 25
  obtain ⟨w0, hw0⟩ : ∃ w0, w0 = (w.alloc (.cells #[.slice A n c, .int .i64 L, .slice A' n' c'] 25)).alloc (.cells #[.slice D m d, .int .i64 M, .slice D' m' d'] 25) := ⟨_, rfl⟩
  rw [← hw0] at g0 r0 s0
  obtain ⟨c0, c1, c2⟩ := three_cells r0
  obtain ⟨t0, t1, t2⟩ := three_cells s0
  have hx0 := hx.below g0
  have hy0 := hy.below g0
  have hT0 := hT.below g0
  have HF := Lib.hid (few_any A A' n c n' c' L w0)
  have Hw0 := Lib.hid hw0
  clear hw0 hx hy
  go_enter Tryd.func5, Tryd.ntmps5
  go_upto_region 1 with (fail)
  rw [← Hw0.out]
  clear Hw0
  go_wp2_with fail
  refine HF.out.mono ?_
  rintro e w1 ⟨rfl, hb1⟩
  have b1 := g0.trans (hb1.mono g0.size)
  have r1 := r0.below hb1 r0.lt
  have s1 := s0.below hb1 s0.lt
  have hx1 := hx0.below hb1
  have hy1 := hy0.below hb1
  have hT1 := hT0.below hb1
  clear HF c0 c1 c2 t0 t1 t2 r0 s0 hx0 hy0 hT0 hb1
  obtain ⟨c0, c1, c2⟩ := three_cells r1
  obtain ⟨t0, t1, t2⟩ := three_cells s1
  have F1 := Lib.hid (fun h => fewB_le (n := n) (n' := n') h)
  cases hf : fewB n n' with
  | false =>
    go_wp2_with fail
    refine (awake_any w1 hT1).mono ?_
    rintro e w2 ⟨rfl, hb2⟩
    go_wp2_with fail
    go_ret
    exact ⟨rfl, b1.trans (hb2.mono b1.size)⟩
  | true =>
    obtain ⟨l1, l2⟩ := F1.out hf
    have HF := Lib.hid (few_any D D' m d m' d' M w1)
    clear F1 hf
    go_wp2_with fail
    refine HF.out.mono ?_
    rintro e w2 ⟨rfl, hb2⟩
    have b2 := b1.trans (hb2.mono b1.size)
    have r2 := r1.below hb2 r1.lt
    have s2 := s1.below hb2 s1.lt
    have hx2 := hx1.below hb2
    have hy2 := hy1.below hb2
    have hT2 := hT1.below hb2
    clear HF c0 c1 c2 t0 t1 t2 r1 s1 hx1 hy1 hT1 hb2
    obtain ⟨c0, c1, c2⟩ := three_cells r2
    obtain ⟨t0, t1, t2⟩ := three_cells s2
    have F1 := Lib.hid (fun h => fewB_le (n := m) (n' := m') h)
    cases hf : fewB m m' with
    | false =>
      go_wp2_with fail
      refine (awake_any w2 hT2).mono ?_
      rintro e w3 ⟨rfl, hb3⟩
      go_wp2_with fail
      go_ret
      exact ⟨rfl, b2.trans (hb3.mono b2.size)⟩
    | true =>
      obtain ⟨l3, l4⟩ := F1.out hf
      clear F1 hf
      have H1 := Lib.hid (differ_any A A' n c n' c' L D D' m d m' d' M p q w2 hx2 hy2 (by omega) (by omega))
      have H2 := Lib.hid (fun W h h' => differR_any A A' n c n' c' L D D' m d m' d' M p q W h h' (by omega) (by omega))
      obtain ⟨dn, hdn⟩ : ∃ dn, dn = difN p.code q.code := ⟨_, rfl⟩
      obtain ⟨db, hdb⟩ : ∃ db, db = !decide (p.code = q.code) := ⟨_, rfl⟩
      rw [← hdn, ← hdb] at H1 H2
      clear hdn hdb
      go_wp2_with fail
      refine H1.out.mono ?_
      rintro e w3 ⟨rfl, hb3⟩
      have b3 := b2.trans (hb3.mono b2.size)
      have r3 := r2.below hb3 r2.lt
      have s3 := s2.below hb3 s2.lt
      have hx3 := hx2.below hb3
      have hy3 := hy2.below hb3
      have hT3 := hT2.below hb3
      clear H1 c0 c1 c2 t0 t1 t2 r2 s2 hx2 hy2 hT2 hb3
      obtain ⟨c0, c1, c2⟩ := three_cells r3
      obtain ⟨t0, t1, t2⟩ := three_cells s3
      have H3 := Lib.hid (H2.out w3 hx3 hy3)
      clear H2
      go_wp2_with fail
      refine H3.out.mono ?_
      rintro e w4 ⟨rfl, hb4⟩
      have b4 := b3.trans (hb4.mono b3.size)
      have r4 := r3.below hb4 r3.lt
      have s4 := s3.below hb4 s3.lt
      have hx4 := hx3.below hb4
      have hy4 := hy3.below hb4
      have hT4 := hT3.below hb4
      clear H3 c0 c1 c2 t0 t1 t2 r3 s3 hx3 hy3 hT3 hb4
      obtain ⟨c0, c1, c2⟩ := three_cells r4
      obtain ⟨t0, t1, t2⟩ := three_cells s4
      have H5 := Lib.hid (awake_any w4.drew hT4)
      have H6 := Lib.hid (fun W h h' => same_any A A' n c n' c' L D D' m d m' d' M p q W h h' (by omega) (by omega) (by omega) (by omega))
      have H7 := Lib.hid (fun W h h' => sameR_any A A' n c n' c' L D D' m d m' d' M p q W h h' (by omega) (by omega) (by omega) (by omega))
      obtain ⟨sb, hsb⟩ : ∃ sb, sb = sameB p q := ⟨_, rfl⟩
      rw [← hsb] at H6 H7
      clear hsb l1 l2 l3 l4
      have y1 := r4.lt
      have y2 := s4.lt
      go_wp2_with fail
      go_region_held3 (fun W => W.cell? ⟨w.heap.size, 0, none⟩ = some (.slice A n c) ∧ W.cell? ⟨w.heap.size, 1, none⟩ = some (.int .i64 L) ∧ W.cell? ⟨w.heap.size, 2, none⟩ = some (.slice A' n' c') ∧ W.cell? ⟨w.heap.size + 1, 0, none⟩ = some (.slice D m d) ∧ W.cell? ⟨w.heap.size + 1, 1, none⟩ = some (.int .i64 M) ∧ W.cell? ⟨w.heap.size + 1, 2, none⟩ = some (.slice D' m' d'))
        (first
          | go_keep
          | exact ⟨(k5.cell (p := ⟨w.heap.size, 0, none⟩) y1).trans c0, (k5.cell (p := ⟨w.heap.size, 1, none⟩) y1).trans c1, (k5.cell (p := ⟨w.heap.size, 2, none⟩) y1).trans c2, (k5.cell (p := ⟨w.heap.size + 1, 0, none⟩) y2).trans t0, (k5.cell (p := ⟨w.heap.size + 1, 1, none⟩) y2).trans t1, (k5.cell (p := ⟨w.heap.size + 1, 2, none⟩) y2).trans t2⟩
          | exact ⟨(k6.cell (p := ⟨w.heap.size, 0, none⟩) y1).trans c0, (k6.cell (p := ⟨w.heap.size, 1, none⟩) y1).trans c1, (k6.cell (p := ⟨w.heap.size, 2, none⟩) y1).trans c2, (k6.cell (p := ⟨w.heap.size + 1, 0, none⟩) y2).trans t0, (k6.cell (p := ⟨w.heap.size + 1, 1, none⟩) y2).trans t1, (k6.cell (p := ⟨w.heap.size + 1, 2, none⟩) y2).trans t2⟩
          | exact ⟨(k7.cell (p := ⟨w.heap.size, 0, none⟩) y1).trans c0, (k7.cell (p := ⟨w.heap.size, 1, none⟩) y1).trans c1, (k7.cell (p := ⟨w.heap.size, 2, none⟩) y1).trans c2, (k7.cell (p := ⟨w.heap.size + 1, 0, none⟩) y2).trans t0, (k7.cell (p := ⟨w.heap.size + 1, 1, none⟩) y2).trans t1, (k7.cell (p := ⟨w.heap.size + 1, 2, none⟩) y2).trans t2⟩)
        (first
          | (go_at_call 9; refine H5.out.mono ?_; rintro e w5 ⟨rfl, hb5⟩; have k5 : Below w4.heap.size w4 w5 := ((Drawn.drewN w4 1).below _).trans hb5)
          | (go_at_call 16; refine (H6.out w5 (hx4.below k5) (hy4.below k5)).mono ?_; rintro e w6 ⟨rfl, hb6⟩; have k6 : Below w4.heap.size w4 w6 := k5.trans (hb6.mono k5.size))
          | (go_at_call 17; refine (H7.out w6 (hx4.below k6) (hy4.below k6)).mono ?_; rintro e w7 ⟨rfl, hb7⟩; have k7 : Below w4.heap.size w4 w7 := k6.trans (hb7.mono k6.size)))
      have b7 := b4.trans (k7.mono b4.size)
      go_wp2_with fail
      go_ret
      exact ⟨by simp, b7⟩
end Go.Proofs.YtmijalhilalaoaaDoor

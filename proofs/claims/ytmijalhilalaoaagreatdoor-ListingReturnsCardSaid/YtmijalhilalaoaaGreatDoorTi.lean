/- Contracts of layer 17: Line. -/
import Derived.Test.YtmijalhilalaoaaGreatDoorTh
namespace Go.Proofs.YtmijalhilalaoaaGreatDoor
open Go.RowKit Go.Proofs
set_option linter.unusedVariables false

theorem lineE_form {p : Prg} {z : Int} (h : formE p ≠ 0) : lineE p z = formE p ∧ lineT p z = [] := by
  have : lineE p z = formE p := by unfold lineE; rw [if_pos h]
  exact ⟨this, by unfold lineT; rw [this, if_neg h]⟩
theorem lineE_range {p : Prg} {z : Int} (h : formE p = 0) (hz : z < 0 ∨ (p.code.length : Int) ≤ z) : lineE p z = 2 ∧ lineT p z = [] := by
  have : lineE p z = 2 := by unfold lineE; rw [if_neg (by omega), if_pos hz]
  exact ⟨this, by unfold lineT; rw [this, if_neg (by omega)]⟩
theorem lineE_none {p : Prg} {k : Nat} (h : formE p = 0) (hk : k < p.code.length) (he : exL p.locs p.arrs.length (gI p.code k) = false) : lineE p (k : Int) = 7 ∧ lineT p (k : Int) = [] := by
  have : lineE p (k : Int) = 7 := by unfold lineE; rw [if_neg (by omega), if_neg (by omega), if_pos (by rw [Int.toNat_natCast]; exact he)]
  exact ⟨this, by unfold lineT; rw [this, if_neg (by omega)]⟩
theorem lineE_ok {p : Prg} {k : Nat} (h : formE p = 0) (hk : k < p.code.length) (he : exL p.locs p.arrs.length (gI p.code k) = true) : lineE p (k : Int) = 0 ∧ lineT p (k : Int) = lineL (gI p.code k) := by
  have : lineE p (k : Int) = 0 := by unfold lineE; rw [if_neg (by omega), if_neg (by omega), if_neg (by rw [Int.toNat_natCast, he]; simp)]
  exact ⟨this, by unfold lineT; rw [this, if_pos rfl, Int.toNat_natCast]⟩

set_option maxRecDepth 100000 in
set_option maxHeartbeats 4000000 in
theorem lineP_any (A A' : Option Addr) (n c n' c' : Nat) (L z : Int) (p : Prg) (w : World) (hx : Progs w A n c L A' n' c' p) (hz : (Lit.int .i64 z).wf = true) (hT : TabI w) :
    Calls Tryz.prog 12 #[.agg #[.slice A n c, .int .i64 L, .slice A' n' c'], .int .i64 z] w (RetSE w (lineT p z) (lineE p z)) := by
  have hz := bounds_i64 hz
  have HnA := Lib.hid hx.arrs.1
  have HnC := Lib.hid hx.code.1
  have HL := Lib.hid hx.locs
  have hwf := Lib.hid hx.wf
  have g0 : Below w.heap.size w (w.alloc (.cells #[.slice A n c, .int .i64 L, .slice A' n' c'] 25)) := balloc (Below.refl _ _) _
  have r0 := rowV.new w 25 #[.slice A n c, .int .i64 L, .slice A' n' c']
  have hx0 := hx.below g0
  obtain ⟨w0, hw0⟩ : ∃ w0, w0 = w.alloc (.cells #[.slice A n c, .int .i64 L, .slice A' n' c'] 25) := ⟨_, rfl⟩
  rw [← hw0] at g0 r0 hx0
  have H1 := Lib.hid (encode_any A A' n c n' c' L p w0 hx0)
  have hT0 := hT.below g0
  obtain ⟨c0, c1, c2⟩ := three_cells r0
  go_enter Tryz.func12, Tryz.ntmps12
  go_wp2_with fail
  rw [← hw0]
  clear hw0
  refine H1.out.mono ?_
  rintro e w1 ⟨A1, n1, q1, rfl, hb1⟩
  have b1 := g0.trans (hb1.mono g0.size)
  have r1 := r0.below hb1 r0.lt
  have hx1 := hx0.below hb1
  have hT1 := hT0.below hb1
  clear H1 hx0 g0 hb1 c0 c1 c2
  obtain ⟨c0, c1, c2⟩ := three_cells r1
  by_cases h1 : formE p = 0
  · have d1 : (formE p != 0) = false := by simp [h1]
    obtain ⟨f1, f2, f3, f4, f5, f6⟩ := formE_ok h1
    rw [HnA.out] at f1
    rw [HnC.out] at f5
    have hF := Lib.hid h1
    clear f2 f3 f4 f6 h1
    by_cases h2 : z < 0
    · obtain ⟨z1, z2⟩ := lineE_range hF.out (.inl h2)
      have Z1 := Lib.hid z1
      have Z2 := Lib.hid z2
      clear z1 z2
      have d2 : decide (z < 0) = true := by simpa using h2
      go_wp2_with fail
      go_ret2
      exact ret_se rfl Z2.out Z1.out b1
    have d2 : decide (z < 0) = false := by simpa using h2
    by_cases h3 : (n' : Int) ≤ z
    · obtain ⟨z1, z2⟩ := lineE_range hF.out (.inr (by rw [HnC.out]; exact h3))
      have Z1 := Lib.hid z1
      have Z2 := Lib.hid z2
      clear z1 z2
      have d3 : decide ((n' : Int) ≤ z) = true := by simpa using h3
      go_wp2_with fail
      go_ret2
      exact ret_se rfl Z2.out Z1.out b1
    have d3 : decide ((n' : Int) ≤ z) = false := by simpa using h3
    obtain ⟨k, rfl⟩ : ∃ k : Nat, z = (k : Int) := ⟨z.toNat, by omega⟩
    have d3' : decide (n' ≤ k) = false := by simp; omega
    have hlt : k < n' := by omega
    obtain ⟨b, off, rfl, hbl, hcell⟩ := hx1.code.get hlt
    obtain ⟨q1, q2⟩ := hcell k hlt
    obtain ⟨a0, a1, -⟩ := hx1.code.arg hlt
    clear hcell
    have HO : Hid (exL L n (gI p.code k) = true → lineE p (k : Int) = 0 ∧ lineT p (k : Int) = lineL (gI p.code k)) := fun h => lineE_ok hF.out (by rw [HnC.out]; exact hlt) (by rw [HnA.out, ← HL.out]; exact h)
    have HN : Hid (exL L n (gI p.code k) = false → lineE p (k : Int) = 7 ∧ lineT p (k : Int) = []) := fun h => lineE_none hF.out (by rw [HnC.out]; exact hlt) (by rw [HnA.out, ← HL.out]; exact h)
    obtain ⟨x, hxe⟩ : ∃ x, x = gI p.code k := ⟨_, rfl⟩
    rw [← hxe] at q1 q2 a0 a1 HO HN
    clear hxe
    obtain ⟨op, arg⟩ := x
    dsimp only at q1 q2 a0 a1
    have hr1 := r1.lt
    have H5 := Lib.hid (line_any A (some ⟨b, off, none⟩) n c n' c' L ⟨op, arg⟩ w1.drew hwf.out (by omega) a0 a1 hT1)
    obtain ⟨xe, hxe⟩ : ∃ xe, xe = exL L n ⟨op, arg⟩ := ⟨_, rfl⟩
    rw [← hxe] at HO HN H5
    clear hxe
    obtain ⟨ln, hln⟩ : ∃ ln, ln = lineL ⟨op, arg⟩ := ⟨_, rfl⟩
    rw [← hln] at HO H5
    clear hln
    go_wp2_with fail
    go_region_held3 (fun W => W.cell? ⟨w.heap.size, 0, none⟩ = some (.slice A n c) ∧ W.cell? ⟨w.heap.size, 1, none⟩ = some (.int .i64 L) ∧ W.cell? ⟨w.heap.size, 2, none⟩ = some (.slice (some ⟨b, off, none⟩) n' c') ∧ W.cell? ⟨b, off + k * 2, none⟩ = some (.int .i64 op) ∧ W.cell? ⟨b, off + k * 2 + 1, none⟩ = some (.int .u32 arg))
      (first
        | go_keep
        | exact ⟨(hb6.cell (p := ⟨w.heap.size, 0, none⟩) hr1).trans c0, (hb6.cell (p := ⟨w.heap.size, 1, none⟩) hr1).trans c1, (hb6.cell (p := ⟨w.heap.size, 2, none⟩) hr1).trans c2, (hb6.cell (p := ⟨b, off + k * 2, none⟩) hbl).trans q1, (hb6.cell (p := ⟨b, off + k * 2 + 1, none⟩) hbl).trans q2⟩)
      (first
        | (go_at_call 17; refine H5.out.mono ?_; rintro e w6 ⟨rfl, hb6⟩))
    have b6 := b1.trans ((((Drawn.drewN w1 1).below _).trans hb6).mono b1.size)
    cases xe with
    | false =>
      obtain ⟨z1, z2⟩ := HN.out rfl
      have Z1 := Lib.hid z1
      have Z2 := Lib.hid z2
      clear z1 z2 HN HO
      go_wp2_with fail
      go_ret2
      exact ret_se rfl Z2.out Z1.out b6
    | true =>
      obtain ⟨z1, z2⟩ := HO.out rfl
      have Z1 := Lib.hid z1
      have Z2 := Lib.hid z2
      clear z1 z2 HN HO
      go_wp2_with fail
      go_ret2
      exact ret_se rfl Z2.out Z1.out b6
  · have d1 : (formE p != 0) = true := by simp [h1]
    obtain ⟨z1, z2⟩ := lineE_form (z := z) h1
    have Z1 := Lib.hid z1
    have Z2 := Lib.hid z2
    clear z1 z2
    go_wp2_with fail
    go_ret2
    exact ret_se rfl Z2.out Z1.out b1
end Go.Proofs.YtmijalhilalaoaaGreatDoor

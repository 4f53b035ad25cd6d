/- Contracts of the reference of layer 17: exists, line, Line. -/
import Derived.Test.YtmijalhilalaoaaDoorTi
namespace Go.Proofs.YtmijalhilalaoaaDoor
open Go.RowKit Go.Proofs
set_option linter.unusedVariables false

set_option maxRecDepth 100000 in
set_option maxHeartbeats 2000000 in
theorem existsR_any (A A' : Option Addr) (n c n' c' : Nat) (L : Int) (i : Ins) (w : World) (hL : (Lit.int .i64 L).wf = true) (hn : n ≤ 1000) (h0 : 0 ≤ i.arg) (h1 : i.arg < 4294967296) :
    Calls Tryd.prog 31 #[.agg #[.slice A n c, .int .i64 L, .slice A' n' c'], .agg #[.int .i64 i.op, .int .u32 i.arg]] w fun e w' => e = .returned (.bool (exL L n i)) ∧ Below w.heap.size w w' := by
  obtain ⟨op, arg⟩ := i
  dsimp only at h0 h1 ⊢
  obtain ⟨g, rfl⟩ : ∃ g : Nat, arg = (g : Int) := ⟨arg.toNat, by omega⟩
  have hL := bounds_i64 hL
  obtain ⟨g0, r1, r2⟩ := two_alloc w #[.slice A n c, .int .i64 L, .slice A' n' c'] #[.int .i64 op, .int .u32 (g : Int)] 25 41
  obtain ⟨w0, hw0⟩ : ∃ w0, w0 = (w.alloc (.cells #[.slice A n c, .int .i64 L, .slice A' n' c'] 25)).alloc (.cells #[.int .i64 op, .int .u32 (g : Int)] 41) := ⟨_, rfl⟩
  rw [← hw0] at g0 r1 r2
  obtain ⟨a0, a1⟩ := two_cellsV r2
  obtain ⟨p0, p1, p2⟩ := three_cells r1
  have hX : Hid (exL L n ⟨op, (g : Int)⟩ = if op = 1 ∨ op = 2 then decide ((g : Int) < L) else if op = 3 ∨ op = 4 then decide ((g : Int) < (n : Int)) else true) := rfl
  have Hg : Hid (decide ((g : Int) < (n : Int)) = decide (g < n)) := by show _ = _; simp
  obtain ⟨X, hXe⟩ : ∃ X, X = exL L n ⟨op, (g : Int)⟩ := ⟨_, rfl⟩
  rw [← hXe] at hX ⊢
  clear hXe
  have Hw0 := Lib.hid hw0
  clear hw0
  go_enter Tryd.func31, Tryd.ntmps31
  go_upto_region 1 with (fail)
  rw [← Hw0.out]
  clear Hw0
  by_cases c2 : op = 1 ∨ op = 2
  · rw [if_pos c2] at hX
    rcases c2 with rfl | rfl
    · go_wp2_with fail
      go_ret
      exact ⟨ret_bool hX.out.symm, g0⟩
    · go_wp2_with fail
      go_ret
      exact ⟨ret_bool hX.out.symm, g0⟩
  rw [if_neg c2] at hX
  have d2 : (op == 1) = false := by simp; omega
  have d3 : (op == 2) = false := by simp; omega
  by_cases c3 : op = 3 ∨ op = 4
  · rw [if_pos c3] at hX
    rcases c3 with rfl | rfl
    · go_wp2_with fail
      go_ret
      exact ⟨ret_bool (Hg.out.symm.trans hX.out.symm), g0⟩
    · go_wp2_with fail
      go_ret
      exact ⟨ret_bool (Hg.out.symm.trans hX.out.symm), g0⟩
  rw [if_neg c3] at hX
  have d4 : (op == 3) = false := by simp; omega
  have d5 : (op == 4) = false := by simp; omega
  go_wp2_with fail
  go_ret
  exact ⟨ret_bool hX.out.symm, g0⟩

set_option maxRecDepth 100000 in
set_option maxHeartbeats 2000000 in
theorem lineR_any (i : Ins) (w : World) (h0 : 0 ≤ i.arg) (h1 : i.arg < 4294967296) :
    Calls Tryd.prog 32 #[.agg #[.int .i64 i.op, .int .u32 i.arg]] w fun e w' => e = .returned (.string (strB (lineL i))) ∧ Below w.heap.size w w' := by
  obtain ⟨op, arg⟩ := i
  dsimp only at h0 h1 ⊢
  obtain ⟨g, rfl⟩ : ∃ g : Nat, arg = (g : Int) := ⟨arg.toNat, by omega⟩
  have g0 : Below w.heap.size w (w.alloc (.cells #[.int .i64 op, .int .u32 (g : Int)] 41)) := balloc (Below.refl _ _) _
  have r0 := rowV.new w 41 #[.int .i64 op, .int .u32 (g : Int)]
  obtain ⟨w0, hw0⟩ : ∃ w0, w0 = w.alloc (.cells #[.int .i64 op, .int .u32 (g : Int)] 41) := ⟨_, rfl⟩
  rw [← hw0] at g0 r0
  obtain ⟨a0, a1⟩ := two_cellsV r0
  have HN := Lib.hid (nameR_any op w0)
  have HD := Lib.hid (fun w => decimalR_any g w (by omega))
  have zn := name_le op
  have zd := decS_le (n := g) (by omega)
  have hl : Hid (lineL ⟨op, (g : Int)⟩ = (opX op).name ++ operL ⟨op, (g : Int)⟩) := rfl
  have hO : Hid (operL ⟨op, (g : Int)⟩ = if op = 0 ∨ op = 35 then 32 :: decS g else if op = 1 ∨ op = 2 then 32 :: 108 :: decS g else if op = 3 ∨ op = 4 then 32 :: 97 :: decS g else []) := rfl
  obtain ⟨N, hN⟩ : ∃ N, N = (opX op).name := ⟨_, rfl⟩
  rw [← hN] at zn HN hl
  clear hN
  rw [← strB_size] at zn zd
  have s1 : ¬ 9223372036854775807 < (strB N).size + 1 := by omega
  have s2 : ¬ 9223372036854775807 < (strB N).size + 2 := by omega
  have s3 : ¬ 9223372036854775807 < (strB N).size + 1 + (strB (decS g)).size := by omega
  have s4 : ¬ 9223372036854775807 < (strB N).size + 2 + (strB (decS g)).size := by omega
  have Hc1 : Hid (strB (N ++ 32 :: decS g) = strB N ++ (⟨#[32]⟩ : ByteArray) ++ strB (decS g)) := by show _ = _; rw [show N ++ 32 :: decS g = N ++ [32] ++ decS g by simp, ← strB_append, ← strB_append]; rfl
  have Hc2 : Hid (strB (N ++ 32 :: 108 :: decS g) = strB N ++ (⟨#[32, 108]⟩ : ByteArray) ++ strB (decS g)) := by show _ = _; rw [show N ++ 32 :: 108 :: decS g = N ++ [32, 108] ++ decS g by simp, ← strB_append, ← strB_append]; rfl
  have Hc3 : Hid (strB (N ++ 32 :: 97 :: decS g) = strB N ++ (⟨#[32, 97]⟩ : ByteArray) ++ strB (decS g)) := by show _ = _; rw [show N ++ 32 :: 97 :: decS g = N ++ [32, 97] ++ decS g by simp, ← strB_append, ← strB_append]; rfl
  obtain ⟨ll, hle⟩ : ∃ ll, ll = lineL ⟨op, (g : Int)⟩ := ⟨_, rfl⟩
  rw [← hle] at hl ⊢
  clear hle zn zd
  rw [hO.out] at hl
  have Hw0 := Lib.hid hw0
  clear hw0
  go_enter Tryd.func32, Tryd.ntmps32
  go_upto_region 1 with (fail)
  rw [← Hw0.out]
  clear Hw0
  go_wp2_with fail
  refine HN.out.mono ?_
  rintro e w1 ⟨rfl, hw1⟩
  obtain rfl : w0 = w1 := hw1.symm
  by_cases c1 : op = 0 ∨ op = 35
  · rw [if_pos c1] at hl
    rcases c1 with rfl | rfl
    · go_wp2_with fail
      refine (HD.out _).mono ?_
      rintro e w1 ⟨rfl, hw1⟩
      obtain rfl : w0 = w1 := hw1.symm
      go_wp2_with fail
      go_ret
      exact ⟨by rw [hl.out, Hc1.out]; rfl, g0⟩
    · go_wp2_with fail
      refine (HD.out _).mono ?_
      rintro e w1 ⟨rfl, hw1⟩
      obtain rfl : w0 = w1 := hw1.symm
      go_wp2_with fail
      go_ret
      exact ⟨by rw [hl.out, Hc1.out]; rfl, g0⟩
  rw [if_neg c1] at hl
  have d0 : (op == 0) = false := by simp; omega
  have d1 : (op == 35) = false := by simp; omega
  by_cases c2 : op = 1 ∨ op = 2
  · rw [if_pos c2] at hl
    rcases c2 with rfl | rfl
    · go_wp2_with fail
      refine (HD.out _).mono ?_
      rintro e w1 ⟨rfl, hw1⟩
      obtain rfl : w0 = w1 := hw1.symm
      go_wp2_with fail
      go_ret
      exact ⟨by rw [hl.out, Hc2.out]; rfl, g0⟩
    · go_wp2_with fail
      refine (HD.out _).mono ?_
      rintro e w1 ⟨rfl, hw1⟩
      obtain rfl : w0 = w1 := hw1.symm
      go_wp2_with fail
      go_ret
      exact ⟨by rw [hl.out, Hc2.out]; rfl, g0⟩
  rw [if_neg c2] at hl
  have d2 : (op == 1) = false := by simp; omega
  have d3 : (op == 2) = false := by simp; omega
  by_cases c3 : op = 3 ∨ op = 4
  · rw [if_pos c3] at hl
    rcases c3 with rfl | rfl
    · go_wp2_with fail
      refine (HD.out _).mono ?_
      rintro e w1 ⟨rfl, hw1⟩
      obtain rfl : w0 = w1 := hw1.symm
      go_wp2_with fail
      go_ret
      exact ⟨by rw [hl.out, Hc3.out]; rfl, g0⟩
    · go_wp2_with fail
      refine (HD.out _).mono ?_
      rintro e w1 ⟨rfl, hw1⟩
      obtain rfl : w0 = w1 := hw1.symm
      go_wp2_with fail
      go_ret
      exact ⟨by rw [hl.out, Hc3.out]; rfl, g0⟩
  rw [if_neg c3] at hl
  have d4 : (op == 3) = false := by simp; omega
  have d5 : (op == 4) = false := by simp; omega
  go_wp2_with fail
  go_ret
  exact ⟨by rw [hl.out, List.append_nil]; rfl, g0⟩

set_option maxRecDepth 100000 in
set_option maxHeartbeats 4000000 in
theorem linePR_any (A A' : Option Addr) (n c n' c' : Nat) (L z : Int) (p : Prg) (w : World) (hx : Progs w A n c L A' n' c' p) (hz : (Lit.int .i64 z).wf = true) :
    Calls Tryd.prog 13 #[.agg #[.slice A n c, .int .i64 L, .slice A' n' c'], .int .i64 z] w (RetSE w (lineT p z) (lineE p z)) := by
  have hz := bounds_i64 hz
  have HnA := Lib.hid hx.arrs.1
  have HnC := Lib.hid hx.code.1
  have HL := Lib.hid hx.locs
  have hwf := Lib.hid hx.wf
  have g0 : Below w.heap.size w (w.alloc (.cells #[.slice A n c, .int .i64 L, .slice A' n' c'] 25)) := balloc (Below.refl _ _) _
  have r0 := rowV.new w 25 #[.slice A n c, .int .i64 L, .slice A' n' c']
  have hx0 := hx.below g0
  obtain ⟨w0, hw0⟩ : ∃ w0, w0 = w.alloc (.cells #[.slice A n c, .int .i64 L, .slice A' n' c'] 25) := ⟨_, rfl⟩
  rw [← hw0] at g0 r0 hx0
  have H1 := Lib.hid (encodeR_any A A' n c n' c' L p w0 hx0)
  obtain ⟨c0, c1, c2⟩ := three_cells r0
  go_enter Tryd.func13, Tryd.ntmps13
  go_wp2_with fail
  rw [← hw0]
  clear hw0
  refine H1.out.mono ?_
  rintro e w1 ⟨A1, n1, q1, rfl, hb1⟩
  have b1 := g0.trans (hb1.mono g0.size)
  have r1 := r0.below hb1 r0.lt
  have hx1 := hx0.below hb1
  clear H1 hx0 g0 hb1 c0 c1 c2
  obtain ⟨c0, c1, c2⟩ := three_cells r1
  by_cases h1 : formE p = 0
  · have d1 : (formE p != 0) = false := by simp [h1]
    obtain ⟨f1, f2, f3, f4, f5, f6⟩ := formE_ok h1
    rw [HnA.out] at f1
    rw [HnC.out] at f5
    have hF := Lib.hid h1
    clear f2 f3 f4 f6 h1
    by_cases h2 : z < 0
    · obtain ⟨z1, z2⟩ := lineE_range hF.out (.inl h2)
      have Z1 := Lib.hid z1
      have Z2 := Lib.hid z2
      clear z1 z2
      have d2 : decide (z < 0) = true := by simpa using h2
      go_wp2_with fail
      go_ret2
      exact ret_se rfl Z2.out Z1.out b1
    have d2 : decide (z < 0) = false := by simpa using h2
    by_cases h3 : (n' : Int) ≤ z
    · obtain ⟨z1, z2⟩ := lineE_range hF.out (.inr (by rw [HnC.out]; exact h3))
      have Z1 := Lib.hid z1
      have Z2 := Lib.hid z2
      clear z1 z2
      have d3 : decide ((n' : Int) ≤ z) = true := by simpa using h3
      go_wp2_with fail
      go_ret2
      exact ret_se rfl Z2.out Z1.out b1
    have d3 : decide ((n' : Int) ≤ z) = false := by simpa using h3
    obtain ⟨k, rfl⟩ : ∃ k : Nat, z = (k : Int) := ⟨z.toNat, by omega⟩
    have d3' : decide (n' ≤ k) = false := by simp; omega
    have hlt : k < n' := by omega
    obtain ⟨b, off, rfl, hbl, hcell⟩ := hx1.code.get hlt
    obtain ⟨q1, q2⟩ := hcell k hlt
    obtain ⟨a0, a1, -⟩ := hx1.code.arg hlt
    clear hcell
    have HO : Hid (exL L n (gI p.code k) = true → lineE p (k : Int) = 0 ∧ lineT p (k : Int) = lineL (gI p.code k)) := fun h => lineE_ok hF.out (by rw [HnC.out]; exact hlt) (by rw [HnA.out, ← HL.out]; exact h)
    have HN : Hid (exL L n (gI p.code k) = false → lineE p (k : Int) = 7 ∧ lineT p (k : Int) = []) := fun h => lineE_none hF.out (by rw [HnC.out]; exact hlt) (by rw [HnA.out, ← HL.out]; exact h)
    obtain ⟨x, hxe⟩ : ∃ x, x = gI p.code k := ⟨_, rfl⟩
    rw [← hxe] at q1 q2 a0 a1 HO HN
    clear hxe
    obtain ⟨op, arg⟩ := x
    dsimp only at q1 q2 a0 a1
    have hr1 := r1.lt
    have H5 := Lib.hid (existsR_any A (some ⟨b, off, none⟩) n c n' c' L ⟨op, arg⟩ w1.drew hwf.out (by omega) a0 a1)
    have H6 := Lib.hid (fun W => lineR_any ⟨op, arg⟩ W a0 a1)
    obtain ⟨xe, hxe⟩ : ∃ xe, xe = exL L n ⟨op, arg⟩ := ⟨_, rfl⟩
    rw [← hxe] at HO HN H5
    clear hxe
    obtain ⟨ln, hln⟩ : ∃ ln, ln = lineL ⟨op, arg⟩ := ⟨_, rfl⟩
    rw [← hln] at HO H6
    clear hln
    go_wp2_with fail
    go_region_held3 (fun W => W.cell? ⟨w.heap.size, 0, none⟩ = some (.slice A n c) ∧ W.cell? ⟨w.heap.size, 1, none⟩ = some (.int .i64 L) ∧ W.cell? ⟨w.heap.size, 2, none⟩ = some (.slice (some ⟨b, off, none⟩) n' c') ∧ W.cell? ⟨b, off + k * 2, none⟩ = some (.int .i64 op) ∧ W.cell? ⟨b, off + k * 2 + 1, none⟩ = some (.int .u32 arg))
      (first
        | go_keep
        | exact ⟨(hb6.cell (p := ⟨w.heap.size, 0, none⟩) hr1).trans c0, (hb6.cell (p := ⟨w.heap.size, 1, none⟩) hr1).trans c1, (hb6.cell (p := ⟨w.heap.size, 2, none⟩) hr1).trans c2, (hb6.cell (p := ⟨b, off + k * 2, none⟩) hbl).trans q1, (hb6.cell (p := ⟨b, off + k * 2 + 1, none⟩) hbl).trans q2⟩)
      (first
        | (go_at_call 31; refine H5.out.mono ?_; rintro e w6 ⟨rfl, hb6⟩))
    have b6 := b1.trans ((((Drawn.drewN w1 1).below _).trans hb6).mono b1.size)
    have m0 := (hb6.cell (p := ⟨w.heap.size, 0, none⟩) hr1).trans c0
    have m1 := (hb6.cell (p := ⟨w.heap.size, 1, none⟩) hr1).trans c1
    have m2 := (hb6.cell (p := ⟨w.heap.size, 2, none⟩) hr1).trans c2
    have m3 := (hb6.cell (p := ⟨b, off + k * 2, none⟩) hbl).trans q1
    have m4 := (hb6.cell (p := ⟨b, off + k * 2 + 1, none⟩) hbl).trans q2
    clear c0 c1 c2 q1 q2
    cases xe with
    | false =>
      obtain ⟨z1, z2⟩ := HN.out rfl
      have Z1 := Lib.hid z1
      have Z2 := Lib.hid z2
      clear z1 z2 HN HO
      go_wp2_with fail
      go_ret2
      exact ret_se rfl Z2.out Z1.out b6
    | true =>
      obtain ⟨z1, z2⟩ := HO.out rfl
      have Z1 := Lib.hid z1
      have Z2 := Lib.hid z2
      clear z1 z2 HN HO
      go_wp2_with fail
      refine (H6.out _).mono ?_
      rintro e w7 ⟨rfl, hb7⟩
      go_wp2_with fail
      go_ret2
      exact ret_se rfl Z2.out Z1.out (b6.trans (hb7.mono b6.size))
  · have d1 : (formE p != 0) = true := by simp [h1]
    obtain ⟨z1, z2⟩ := lineE_form (z := z) h1
    have Z1 := Lib.hid z1
    have Z2 := Lib.hid z2
    clear z1 z2
    go_wp2_with fail
    go_ret2
    exact ret_se rfl Z2.out Z1.out b1
end Go.Proofs.YtmijalhilalaoaaDoor

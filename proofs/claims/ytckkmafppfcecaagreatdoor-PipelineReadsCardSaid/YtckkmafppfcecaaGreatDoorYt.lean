/- The reference: typed, Type, Check. -/
import Derived.Test.YtckkmafppfcecaaGreatDoorYs
import Derived.BigRegion
namespace Go.Proofs.YtckkmafppfcecaaGreatDoor
open Go.RowKit Go.Proofs
set_option linter.unusedVariables false
set_option linter.unusedSimpArgs false

theorem ret_cell3 {P : Program} {fn : Func} {p u u' : Tmp} {ty t : TypeId} {R : Ending → World → Prop} {tmps : Array Value} {W : World} {g : Nat} {cs : Array Value} {v v' : Value} {d : TypeDesc} (h : fn.results = #[.cell p ty, .tmp u, .tmp u'])
    (hp : tmps.getD p undef = .pointer (some ⟨g, 0, none⟩)) (hv : tmps.getD u undef = v) (hv' : tmps.getD u' undef = v') (hr : rowV W g t cs) (hu : P.underlying ty = some d) (hd : (match d with | .struct _ | .array _ _ => true | _ => false) = true) (hi : (P.info? ty).map (·.size) = some cs.size)
    (hR : R (.returned (.tuple #[.agg cs, v, v'])) W) : bodyPost P fn R .ret { tmps := tmps, defers := [] } W := by
  refine bodyPost_ret (v := .tuple #[.agg cs, v, v']) ?_ rfl hR
  have hp' : tmps[p]?.getD undef = .pointer (some ⟨g, 0, none⟩) := by simpa using hp
  have hv1 : tmps[u]?.getD undef = v := by simpa using hv
  have hv2 : tmps[u']?.getD undef = v' := by simpa using hv'
  simp [results, h, hp', hv1, hv2, asAddr, run_loadVar_row W g t ty cs (0, 0) d hr hu hd hi, Result.andThen, Sem.run_bind]

/-- what is known of the boxes. -/
def BoxT (w : World) (t : Ty) (W : World) : Prop := rowV W w.heap.size 33 #[.int .i64 t.1, .int .i64 t.2] ∧ rowV W (w.heap.size + 1) 33 #[.int .i64 0, .int .i64 0] ∧ Below w.heap.size w W
theorem BoxT.below {w W W' : World} {t : Ty} (h : BoxT w t W) (hb : Below W.heap.size W W') : BoxT w t W' := ⟨h.1.below hb h.1.lt, h.2.1.below hb h.2.1.lt, h.2.2.trans (hb.mono h.2.2.size)⟩
theorem BoxT.drew {w W : World} {t : Ty} (h : BoxT w t W) : BoxT w t W.drew := ⟨h.1, h.2.1, bdrew h.2.2 1⟩
theorem BoxT.drewN {w W : World} {t : Ty} (h : BoxT w t W) (q : Nat) : BoxT w t (W.drewN q) := ⟨h.1, h.2.1, bdrew h.2.2 q⟩
theorem BoxT.set {w W : World} {t : Ty} (h : BoxT w t W) (a b : Int) : BoxT w (a, b) ((W.setCell ⟨w.heap.size, 0, none⟩ (.int .i64 a)).setCell ⟨w.heap.size, 1, none⟩ (.int .i64 b)) := by
  refine ⟨(h.1.set 0 _).set 1 _, ?_, (h.2.2.setCell (p := ⟨w.heap.size, 0, none⟩) (Nat.le_refl _) _).setCell (p := ⟨w.heap.size, 1, none⟩) (Nat.le_refl _) _⟩
  have e := h.2.1
  unfold rowV at e ⊢
  rw [Below.heap_setCell _ _ _ _ (by simp), Below.heap_setCell _ _ _ _ (by simp)]
  exact e
theorem BoxT.setAt {w W : World} {t : Ty} (h : BoxT w t W) {g : Nat} (hg : w.heap.size + 1 < g) (j : Nat) (v : Value) : BoxT w t (W.setCell ⟨g, j, none⟩ v) := by
  refine ⟨?_, ?_, h.2.2.setCell (p := ⟨g, j, none⟩) (by show w.heap.size ≤ g; omega) _⟩
  · have e := h.1
    unfold rowV at e ⊢
    rw [Below.heap_setCell _ _ _ _ (by simp; omega)]; exact e
  · have e := h.2.1
    unfold rowV at e ⊢
    rw [Below.heap_setCell _ _ _ _ (by simp; omega)]; exact e
theorem BoxT.cells {w W : World} {t : Ty} (h : BoxT w t W) : W.cell? ⟨w.heap.size, 0, none⟩ = some (.int .i64 t.1) ∧ W.cell? ⟨w.heap.size, 1, none⟩ = some (.int .i64 t.2) ∧ W.frozen? ⟨w.heap.size, 0, none⟩ = false ∧ W.frozen? ⟨w.heap.size, 1, none⟩ = false ∧
    W.cell? ⟨w.heap.size + 1, 0, none⟩ = some (.int .i64 0) ∧ W.cell? ⟨w.heap.size + 1, 1, none⟩ = some (.int .i64 0) ∧ W.frozen? ⟨w.heap.size + 1, 0, none⟩ = false ∧ W.frozen? ⟨w.heap.size + 1, 1, none⟩ = false ∧ w.heap.size + 1 < W.heap.size :=
  ⟨(two_cellsV h.1).1, (two_cellsV h.1).2, h.1.frozen 0, h.1.frozen 1, (two_cellsV h.2.1).1, (two_cellsV h.2.1).2, h.2.1.frozen 0, h.2.1.frozen 1, h.2.1.lt⟩
/-- behind the call: the box of the next type is laid later, or is there. -/
theorem mid_A {w wr w2 : World} {t : Ty} (h : BoxT w t wr) (hb : Below wr.drew.heap.size wr.drew w2) : w2.cell? ⟨w.heap.size, 0, none⟩ = some (.int .i64 t.1) ∧ w2.cell? ⟨w.heap.size, 1, none⟩ = some (.int .i64 t.2) ∧ w2.frozen? ⟨w.heap.size, 0, none⟩ = false ∧ w2.frozen? ⟨w.heap.size, 1, none⟩ = false ∧
    w2.frozen? ⟨w.heap.size + 1, 0, none⟩ = false ∧ w2.frozen? ⟨w.heap.size + 1, 1, none⟩ = false ∧ w2.cell? ⟨w.heap.size + 1, 0, none⟩ = some (.int .i64 0) ∧ w2.cell? ⟨w.heap.size + 1, 1, none⟩ = some (.int .i64 0) ∧ w.heap.size + 1 < w2.heap.size ∧ w.heap.size < w2.heap.size ∧ Hid (BoxT w t w2) := by
  have h2 := h.drew.below hb
  obtain ⟨a, b, c, d, e, f, g, i, j⟩ := h2.cells
  exact ⟨a, b, c, d, g, i, e, f, j, by omega, Lib.hid h2⟩
theorem mid_B {w wr w2 : World} {t : Ty} (h : BoxT w t wr) (hb : Below (wr.alloc (.cells #[.int .i64 0, .int .i64 0] 33)).drew.heap.size (wr.alloc (.cells #[.int .i64 0, .int .i64 0] 33)).drew w2) : w2.cell? ⟨w.heap.size, 0, none⟩ = some (.int .i64 t.1) ∧ w2.cell? ⟨w.heap.size, 1, none⟩ = some (.int .i64 t.2) ∧ w2.frozen? ⟨w.heap.size, 0, none⟩ = false ∧ w2.frozen? ⟨w.heap.size, 1, none⟩ = false ∧
    w2.frozen? ⟨w.heap.size + 1, 0, none⟩ = false ∧ w2.frozen? ⟨w.heap.size + 1, 1, none⟩ = false ∧ w2.cell? ⟨w.heap.size + 1, 0, none⟩ = some (.int .i64 0) ∧ w2.cell? ⟨w.heap.size + 1, 1, none⟩ = some (.int .i64 0) ∧ w.heap.size + 1 < wr.heap.size ∧ w.heap.size < wr.heap.size ∧ Hid (BoxT w t w2) ∧
    w2.cell? ⟨wr.heap.size, 0, none⟩ = some (.int .i64 0) ∧ w2.cell? ⟨wr.heap.size, 1, none⟩ = some (.int .i64 0) ∧ w2.frozen? ⟨wr.heap.size, 0, none⟩ = false ∧ w2.frozen? ⟨wr.heap.size, 1, none⟩ = false := by
  have h2 := ((h.below (balloc (Below.refl _ wr) (.cells #[.int .i64 0, .int .i64 0] 33))).drew).below hb
  obtain ⟨a, b, c, d, e, f, g, i, j⟩ := h2.cells
  have r : rowV w2 wr.heap.size 33 #[.int .i64 0, .int .i64 0] := (show rowV (wr.alloc (.cells #[.int .i64 0, .int .i64 0] 33)).drew wr.heap.size 33 #[.int .i64 0, .int .i64 0] from rowV.new wr 33 #[.int .i64 0, .int .i64 0]).below hb (by show wr.heap.size < (wr.alloc _).heap.size; rw [World.size_alloc]; exact Nat.lt_succ_self _)
  have k := h.2.1.lt
  exact ⟨a, b, c, d, g, i, e, f, k, by omega, Lib.hid h2, (two_cellsV r).1, (two_cellsV r).2, r.frozen 0, r.frozen 1⟩

set_option maxRecDepth 100000 in
set_option maxHeartbeats 2000000 in
theorem refTyped_any (A : Option Addr) (n c : Nat) (l : List Stg) (x y : Int) (w : World) (hx : Stgs w A n c l) (hn : n ≤ 1000000000000) : Calls Tryz.prog 35 #[.slice A n c, .agg #[.int .i64 x, .int .i64 y]] w fun e w' =>
    e = .returned (.tuple #[.agg #[.int .i64 (typeP l (x, y)).1, .int .i64 (typeP l (x, y)).2], .int .i64 (typE l (x, y)).2, .int .i64 (typE l (x, y)).1]) ∧ Below w.heap.size w w' := by
  have Hl := Lib.hid hx.1
  obtain ⟨w0, hw0, g0, s0, r1, r2⟩ := boxesTT w x y
  have HW0 := Lib.hid hw0; clear hw0
  have HB0 := Lib.hid (show BoxT w (x, y) w0 from ⟨r1, r2, g0⟩)
  have lt0 : w.heap.size + 1 < w0.heap.size := by omega
  obtain ⟨c1, c2⟩ := two_cellsV r1
  obtain ⟨c3, c4⟩ := two_cellsV r2
  have z3 := r2.frozen 0
  have z4 := r2.frozen 1
  clear r1 r2 g0 s0
  by_cases h8 : 8 < n
  · have d8 : decide ((8 : Int) < (n : Int)) = true := by simp; omega
    have d8' : decide (8 < n) = true := by simp; omega
    have hT : typE l (x, y) = (6, -1) := by unfold typE; rw [if_pos (by rw [Hl.out]; exact h8)]
    have hP : typeP l (x, y) = (0, 0) := by unfold typeP; rw [hT]; rfl
    rw [hT, hP]
    clear hT hP
    go_enter Tryz.func35, Tryz.ntmps35
    go_wp2_with fail
    rw [← HW0.out]
    exact ret_cell3 rfl rfl rfl rfl HB0.out.2.1 Tryz.underlying33 rfl (by kernel_rfl) ⟨rfl, HB0.out.2.2⟩
  have d8 : decide ((8 : Int) < (n : Int)) = false := by simp; omega
  have d8' : decide (8 < n) = false := by simp; omega
  have HP := Lib.hid (refIsType_any x y w0)
  cases hok : tyOk (x, y) with
  | false =>
    have hT : typE l (x, y) = (1, -1) := by unfold typE; rw [if_neg (by rw [Hl.out]; exact h8), if_pos hok]
    have hP : typeP l (x, y) = (0, 0) := by unfold typeP; rw [hT]; rfl
    rw [hT, hP]
    rw [hok] at HP
    clear hok hT hP
    go_enter Tryz.func35, Tryz.ntmps35
    go_wp2_with fail
    rw [← HW0.out]
    refine HP.out.mono ?_
    rintro e w1 ⟨rfl, hb1⟩
    have H1 := Lib.hid (HB0.out.below hb1)
    obtain ⟨a1, a2, a3, a4, a5, a6, a7, a8, a9⟩ := H1.out.cells
    clear hb1 c1 c2 c3 c4 z3 z4
    go_wp2_with fail
    exact ret_cell3 rfl rfl rfl rfl ((H1.out.2.1.set 0 _).set 1 _) Tryz.underlying33 rfl (by kernel_rfl) ⟨rfl, (H1.out.2.2.setCell (p := ⟨w.heap.size + 1, 0, none⟩) (Nat.le_succ _) _).setCell (p := ⟨w.heap.size + 1, 1, none⟩) (Nat.le_succ _) _⟩
  | true =>
    rw [hok] at HP
    have Hok := Lib.hid hok
    clear hok
    go_enter Tryz.func35, Tryz.ntmps35
    go_wp2_with fail
    rw [← HW0.out]
    refine HP.out.mono ?_
    rintro e w1 ⟨rfl, hb1⟩
    have H1 := Lib.hid (HB0.out.below hb1)
    clear hb1 c1 c2 c3 c4 z3 z4 HB0 HP
    go_wp2_with fail
    have hst : Hid (fstE (eK l (x, y)) n 0 = fstE (eK l (x, y)) (n - 0) 0) := rfl
    go_loopw [7, 8, 9] (fun i _ _ wr => ∃ (k : Nat), k ≤ n ∧ i = .int .i64 (k : Int) ∧ Hid (fstE (eK l (x, y)) n 0 = fstE (eK l (x, y)) (n - k) k) ∧ Hid (BoxT w (tK l (x, y) k) wr)) (fun i _ _ _ => n - (intOf i).toNat)
    case atStart => exact ⟨0, Nat.zero_le _, rfl, hst, H1⟩
    case round =>
      obtain ⟨k, hk, rfl, HF, HR⟩ := hrel
      by_cases hlt : k < n
      · have d0 : decide ((k : Int) < (n : Int)) = true := by simp; omega
        have d0' : decide (k < n) = true := by simp; omega
        obtain ⟨sb, so, rfl, hsb, hs1, hs2⟩ := hx.cell hlt
        have y1 : wr.cell? ⟨sb, so + k * 2, none⟩ = some (.int .i64 (sG l k).1) := (HR.out.2.2.cell (p := ⟨sb, so + k * 2, none⟩) hsb).trans hs1
        have y2 : wr.cell? ⟨sb, so + k * 2 + 1, none⟩ = some (.int .i64 (sG l k).2) := (HR.out.2.2.cell (p := ⟨sb, so + k * 2 + 1, none⟩) hsb).trans hs2
        have ysz : sb < wr.heap.size := Nat.lt_of_lt_of_le hsb HR.out.2.2.size
        clear hs1 hs2
        have hE : Hid (errP (sG l k) (tK l (x, y) k) = eK l (x, y) k) := rfl
        have hN : Hid (stepP (sG l k) (tK l (x, y) k) = tK l (x, y) (k + 1)) := rfl
        obtain ⟨s, hs⟩ : ∃ s, s = sG l k := ⟨_, rfl⟩
        obtain ⟨t, ht⟩ : ∃ t, t = tK l (x, y) k := ⟨_, rfl⟩
        rw [← hs] at y1 y2 hE hN
        rw [← ht] at hE hN HR
        clear hs ht
        obtain ⟨a1, a2⟩ := s
        obtain ⟨t1, t2⟩ := t
        dsimp only at y1 y2
        obtain ⟨b1, b2, b3, b4, -, -, -, -, b9⟩ := HR.out.cells
        have b8 : w.heap.size < wr.heap.size := by omega
        dsimp only at b1 b2
        have HS := Lib.hid (refStep_any a1 a2 t1 t2)
        obtain ⟨er, her⟩ : ∃ er, er = errP (a1, a2) (t1, t2) := ⟨_, rfl⟩
        obtain ⟨nx, hnx⟩ : ∃ nx, nx = stepP (a1, a2) (t1, t2) := ⟨_, rfl⟩
        rw [← her, ← hnx] at HS
        rw [← her] at hE
        rw [← hnx] at hN
        clear her hnx
        obtain ⟨n1, n2⟩ := nx
        dsimp only at HS
        go_wp2_with fail
        go_region_with (first
          | (go_at_call 73; refine (HS.out (wr.drew)).mono ?_; rintro e w2 ⟨rfl, hb2⟩; obtain ⟨m1, m2, m3, m4, m5, m6, m7, m8, m9, m10, HM⟩ := mid_A HR.out hb2)
          | (go_at_call 73; refine (HS.out ((wr.alloc (.cells #[.int .i64 0, .int .i64 0] 33)).drew)).mono ?_; rintro e w2 ⟨rfl, hb2⟩; obtain ⟨m1, m2, m3, m4, m5, m6, m7, m8, m9, m10, HM, m11, m12, m13, m14⟩ := mid_B HR.out hb2))
        all_goals
          by_cases he : er = 0
          · subst he
            have HFn := Lib.hid (HF.out.trans (fstE_step hlt))
            go_wp2_with fail
            go_roundw
            case rel =>
              refine ⟨k + 1, by omega, by go_num, Lib.hid (by rw [HFn.out, if_pos hE.out.symm]), Lib.hid ?_⟩
              rw [← hN.out]
              first | exact (HM.out.set n1 n2).below (balloc (Below.refl _ _) _) | exact ((HM.out.setAt m9 0 (.int .i64 n1)).setAt m9 1 (.int .i64 n2)).set n1 n2
            case measure => (simp [intOf]) <;> omega
          · have q0 : (er == 0) = false := by simpa using he
            have q0' : (er != 0) = true := by simp [he]
            have hT := errP_ne Hl.out (by omega) Hok.out HF.out hlt (by rw [← hE.out]; exact he)
            rw [← hE.out] at hT
            have hP : typeP l (x, y) = (0, 0) := by unfold typeP; rw [hT]; exact if_neg he
            have HT := Lib.hid (And.intro hT hP)
            clear he hT hP
            go_wp2_with fail
            rw [HT.out.1, HT.out.2]
            first
              | exact ret_cell3 rfl rfl rfl rfl (((HM.out.2.1.set 0 _).set 1 _).below (balloc (Below.refl _ _) _) ((HM.out.2.1.set 0 _).set 1 _).lt) Tryz.underlying33 rfl (by kernel_rfl) ⟨rfl, balloc ((HM.out.2.2.setCell (p := ⟨w.heap.size + 1, 0, none⟩) (Nat.le_succ _) _).setCell (p := ⟨w.heap.size + 1, 1, none⟩) (Nat.le_succ _) _) _⟩
              | exact ret_cell3 rfl rfl rfl rfl ((((HM.out.setAt m9 0 (.int .i64 n1)).setAt m9 1 (.int .i64 n2)).2.1.set 0 _).set 1 _) Tryz.underlying33 rfl (by kernel_rfl) ⟨rfl, (((HM.out.setAt m9 0 (.int .i64 n1)).setAt m9 1 (.int .i64 n2)).2.2.setCell (p := ⟨w.heap.size + 1, 0, none⟩) (Nat.le_succ _) _).setCell (p := ⟨w.heap.size + 1, 1, none⟩) (Nat.le_succ _) _⟩
      · obtain rfl : k = n := by omega
        have d0 : decide ((k : Int) < (k : Int)) = false := by simp
        have hT := types_end Hl.out (by omega) Hok.out HF.out
        have hP : typeP l (x, y) = tK l (x, y) k := by unfold typeP; rw [hT, if_pos rfl, Hl.out]
        rw [← hP] at HR
        have HT := Lib.hid hT
        obtain ⟨T, hT2⟩ : ∃ T, T = typeP l (x, y) := ⟨_, rfl⟩
        rw [← hT2] at HR
        have HT2 := Lib.hid hT2
        obtain ⟨T1, T2⟩ := T
        obtain ⟨a1, a2, a3, a4, a5, a6, a7, a8, a9⟩ := HR.out.cells
        have b8 : w.heap.size < wr.heap.size := by omega
        dsimp only at a1 a2
        clear hP hT hT2
        go_wp2_with fail
        rw [HT.out, ← HT2.out]
        exact ret_cell3 rfl rfl rfl rfl ((HR.out.2.1.set 0 _).set 1 _) Tryz.underlying33 rfl (by kernel_rfl) ⟨rfl, (HR.out.2.2.setCell (p := ⟨w.heap.size + 1, 0, none⟩) (Nat.le_succ _) _).setCell (p := ⟨w.heap.size + 1, 1, none⟩) (Nat.le_succ _) _⟩
end Go.Proofs.YtckkmafppfcecaaGreatDoor

/- The contracts of the assembler's local (errors), constant. (Printed by wip/mkitems.py.) -/
import Derived.Test.YtlbhggjkcfcobaaDoorGb
namespace Go.Proofs.YtlbhggjkcfcobaaDoor
open Go.RowKit Go.Proofs
set_option linter.unusedVariables false

theorem local_badF (B g n : Nat) (v : RVs) (s : AS) (ws : List Wd) (w : World) (h : RD B g n w s ws v) (hF : freshE s (nextW n ws).1 ≠ 0) :
    Calls Tryd.prog 71 #[.pointer (some ⟨g, 0, none⟩)] w fun e w' => FailsB B w ((nextW n ws).2 : Int) (freshE s (nextW n ws).1) e w' := by
  have H1 := Lib.hid (asmFresh_bad B g n v s ws w h hF)
  clear h hF
  go_enter Tryd.func71, Tryd.ntmps71
  go_wp2_with fail
  refine H1.out.mono ?_
  rintro e w1 ⟨rfl, hb1⟩
  go_wp2_with fail
  exact ⟨rfl, rfl, hb1⟩
theorem constant_badF (B g n : Nat) (v : RVs) (s : AS) (ws : List Wd) (w : World) (h : RD B g n w s ws v) (hF : freshE s (nextW n ws).1 ≠ 0) :
    Calls Tryd.prog 72 #[.pointer (some ⟨g, 0, none⟩)] w fun e w' => FailsB B w ((nextW n ws).2 : Int) (freshE s (nextW n ws).1) e w' := by
  have H1 := Lib.hid (asmFresh_bad B g n v s ws w h hF)
  clear h hF
  go_enter Tryd.func72, Tryd.ntmps72
  go_wp2_with fail
  refine H1.out.mono ?_
  rintro e w1 ⟨rfl, hb1⟩
  go_wp2_with fail
  exact ⟨rfl, rfl, hb1⟩
set_option maxRecDepth 100000 in
set_option maxHeartbeats 4000000 in
theorem local_badM (B g n : Nat) (v : RVs) (s : AS) (ws : List Wd) (w : World) (h : RD B g n w s ws v) (hF : freshE s (nextW n ws).1 = 0) (hL : 16 ≤ s.ln.length) :
    Calls Tryd.prog 71 #[.pointer (some ⟨g, 0, none⟩)] w fun e w' => FailsB B w ((nextW n ws).2 : Int) 6 e w' := by
  have H1 := asmFresh_ok B g n v s ws w h hF
  obtain ⟨x, z, hx⟩ : ∃ x z, nextW n ws = (x, z) := ⟨_, _, rfl⟩
  rw [hx] at H1 ⊢
  dsimp only at H1 ⊢
  have H1' := Lib.hid H1
  have hgl := h.row.lt
  have hxl : x.length ≤ 9000 := by have := next_len h.wm (n := n); rw [hx] at this; exact this
  have hnl : v.nl = s.ln.length := (h.ol.length (fun _ => rfl) (by decide)).symm
  have d16 : decide ((v.nl : Int) < 16) = false := by simp; omega
  have d16' : decide (v.nl < 16) = false := by simp; omega
  clear H1 hnl hF hxl
  go_enter Tryd.func71, Tryd.ntmps71
  go_wp2_with fail
  refine H1'.out.mono ?_
  rintro e w1 ⟨rfl, hN⟩
  obtain ⟨A', k', c', D1, hg1⟩ := h.next (ws' := ws.tail) (by rw [List.length_tail]; omega) hN
  have hB1 := Lib.hid (h.toBelow hg1)
  clear H1' hN h
  have r2 := rowV.new w1 97 #[.string (strB x), .int .i64 (z : Int)]
  have hl2 := r2.lt
  have b12 : Below w1.heap.size w1 (w1.alloc (.cells #[.string (strB x), .int .i64 (z : Int)] 97)) := balloc (Below.refl _ _) _
  obtain ⟨w2, hw2⟩ : ∃ w2, w2 = w1.alloc (.cells #[.string (strB x), .int .i64 (z : Int)] 97) := ⟨_, rfl⟩
  rw [← hw2] at r2 hl2 b12
  obtain ⟨a0, a1⟩ := two_cellsV r2
  have D2 := D1.below b12
  have HD2 := Lib.hid D2
  have HB2 := Lib.hid (hB1.out.trans (b12.mono D1.le))
  have c6 : w2.cell? ⟨g, 6, none⟩ = some (.slice v.Al v.nl v.cl) := cell_rowV D2.row rfl
  clear D1 D2 b12 hg1
  go_wp2_with fail
  rw [← hw2]
  clear hw2
  refine wp_region_quiet_tail 7 (by kernel_rfl) (by kernel_rfl) ?_
  simp only [List.take_succ_cons, List.take_zero, List.drop_succ_cons, List.drop_zero]
  repeat (go_big_quiet_step (fail))
  refine wpQuiet_nil ?_
  intro _ hw'
  obtain ⟨nr, hw''⟩ := hw'
  subst hw''
  go_wp2_with fail
  refine (demand_bad x z 6 _).mono ?_
  rintro e w3 ⟨rfl, hb3⟩
  have b23 : Below w2.heap.size w2 w3 := (bdrew (Below.refl _ _) nr).trans (hb3.mono (Nat.le_refl _))
  have hE := Lib.hid (HB2.out.trans (b23.mono HD2.out.le))
  go_wp2_with fail
  exact ⟨rfl, rfl, hE.out⟩
theorem local_any (B g n : Nat) (v : RVs) (s : AS) (ws : List Wd) (w : World) (h : RD B g n w s ws v) :
    Calls Tryd.prog 71 #[.pointer (some ⟨g, 0, none⟩)] w (DoesL B g n w (localL n s ws)) := by
  unfold localL
  dsimp only
  by_cases hF : freshE s (nextW n ws).1 = 0
  · rw [if_neg (by simp [hF])]
    by_cases hL : 16 ≤ s.ln.length
    · rw [if_pos hL]; exact local_badM B g n v s ws w h hF hL
    · rw [if_neg hL]; exact local_ok B g n v s ws w h hF (by omega)
  · rw [if_pos hF]; exact local_badF B g n v s ws w h hF
theorem MapIs.run_set {P : Program} {k e : TypeId} {q : IntKind} {w : World} {b n : Nat} {f : List UInt8 → Option Int} (h : MapIs P k e q w b n f) (t : TypeId) (hk : P.underlying k = some .string) (ht : P.underlying t = some (.map k e)) (he : P.underlying e = some (.int q)) (hn : n < maxLen) (s : List UInt8) (hs : s.length ≤ maxLen) (c : Int) (hc : (Lit.int q c).wf = true) :
    ∃ X, (Instr.mapUpdate t (.map (some b)) (.string (strB s)) (.int q c)).run P w = .ok () X ∧ MapIs P k e q X b (n + 1) (fput f s c) ∧ w.grownBy X (some b) := by
  obtain ⟨D, h1, h2⟩ := h
  obtain ⟨X, hrun, r1, r2⟩ := h1.update (Maps.string_keyed hk) ht hn (strB_key hk s hs) (plainElem_int he hc)
  exact ⟨X, hrun, ⟨_, r1, MapIs.put (isMap_of h1) h2 s c⟩, r2⟩
theorem conF_put (s : AS) (x : List UInt8) (k : Nat) (hx : conOf s x = none) : ∀ y, conF { s with cn := s.cn ++ [(x, k)] } y = fput (conF s) x (k : Int) y := fun y => by
  unfold conF fput conOf
  rw [List.find?_append]
  by_cases hy : y = x
  · subst hy
    rw [if_pos rfl]
    unfold conOf at hx
    cases hf : s.cn.find? fun p => decide (p.1 = y) with
    | none => simp
    | some p => rw [hf] at hx; cases hx
  · rw [if_neg hy]
    have h2 : [(x, k)].find? (fun p => decide (p.1 = y)) = none := by simp [Ne.symm hy]
    rw [h2, Option.or_none]
theorem fresh_con {s : AS} {x : List UInt8} (h : freshE s x = 0) : conOf s x = none := by
  unfold freshE at h
  split at h
  · cases h
  split at h
  · cases h
  · rename_i h1
    simp only [Bool.or_eq_true, not_or, Bool.not_eq_true] at h1
    cases hc : conOf s x with
    | none => rfl
    | some k => rw [hc] at h1; simp at h1
set_option maxRecDepth 100000 in
set_option maxHeartbeats 4000000 in
theorem constant_ok (B g n : Nat) (v : RVs) (s : AS) (ws : List Wd) (w : World) (h : RD B g n w s ws v) (hF : freshE s (nextW n ws).1 = 0) (hV : (valueL s (nextW n ws.tail).1).2 = 0) (hws : 2 ≤ ws.length) :
    Calls Tryd.prog 72 #[.pointer (some ⟨g, 0, none⟩)] w fun e w' => e = .returned (.tuple #[]) ∧ Below B w w' ∧ ∃ v', RD B g n w' { s with cn := s.cn ++ [((nextW n ws).1, (valueL s (nextW n ws.tail).1).1)] } ws.tail.tail v' := by
  have H1 := asmFresh_ok B g n v s ws w h hF
  obtain ⟨x, z, hx⟩ : ∃ x z, nextW n ws = (x, z) := ⟨_, _, rfl⟩
  rw [hx] at H1 ⊢
  dsimp only at H1 ⊢
  have H1' := Lib.hid H1
  have hgl := h.row.lt
  have hxl : x.length ≤ 9000 := by have := next_len h.wm (n := n); rw [hx] at this; exact this
  have hcon : conOf s x = none := by rw [hx] at hF; exact fresh_con hF
  have hvl := valueL_lt h.fm.cn (nextW n ws.tail).1
  have hfew := h.few
  have HV := Lib.hid hV
  have hfm := Lib.hid h.fm
  obtain ⟨nn, hnn⟩ : ∃ nn, nn = (valueL s (nextW n ws.tail).1).1 := ⟨_, rfl⟩
  obtain ⟨y, zy, hy⟩ : ∃ y zy, nextW n ws.tail = (y, zy) := ⟨_, _, rfl⟩
  rw [← hnn] at hvl ⊢
  have HNN := Lib.hid hnn
  have hwf : Hid ((Lit.int .i64 (nn : Int)).wf = true) := WalkArith.wf_i64 (by omega)
  have hms : Hid (x.length ≤ maxLen) := by show _ ≤ _; simp [maxLen]; omega
  have hmn : Hid (s.cn.length < maxLen) := by show _ < _; simp [maxLen]; omega
  have HX := Lib.hid (And.intro hcon (And.intro hxl (And.intro hvl (And.intro hfew hws))))
  clear H1 hF hV hcon hxl hvl hfew hws hnn
  go_enter Tryd.func72, Tryd.ntmps72
  go_wp2_with fail
  refine H1'.out.mono ?_
  rintro e w1 ⟨rfl, hN⟩
  obtain ⟨A', k', c', D1, hg1⟩ := h.next (ws' := ws.tail) (by rw [List.length_tail]; omega) hN
  have hB1 := Lib.hid (h.toBelow hg1)
  clear H1' hN h
  have r2 := rowV.new w1 97 #[.string (strB x), .int .i64 (z : Int)]
  have hl2 := r2.lt
  have b12 : Below w1.heap.size w1 (w1.alloc (.cells #[.string (strB x), .int .i64 (z : Int)] 97)) := balloc (Below.refl _ _) _
  obtain ⟨w2, hw2⟩ : ∃ w2, w2 = w1.alloc (.cells #[.string (strB x), .int .i64 (z : Int)] 97) := ⟨_, rfl⟩
  rw [← hw2] at r2 hl2 b12
  obtain ⟨a0, a1⟩ := two_cellsV r2
  have D2 := D1.below b12
  have HD2 := Lib.hid D2
  have HB2 := Lib.hid (hB1.out.trans (b12.mono D1.le))
  have c7 : w2.cell? ⟨g, 7, none⟩ = some (.map (some v.m)) := cell_rowV D2.row rfl
  have HV2 : Hid (Calls Tryd.prog 75 #[.pointer (some ⟨g, 0, none⟩)] w2.drew fun e w' => ∃ A4 k4 c4, e = .returned (.tuple #[.int .i64 (nn : Int), .agg #[.string (strB y), .int .i64 (zy : Int)]]) ∧ RD B g n w' s ws.tail.tail ((v.at_ A' k' c').at_ A4 k4 c4) ∧ w2.grownBy w' (some g)) := by
    show Calls _ _ _ _ _
    have D2d := D2.below (w' := w2.drew) ((Drawn.drewN w2 1).below _)
    have := asmValue_ok B g n _ s ws.tail w2.drew D2d HV.out
    rw [← HNN.out, hy] at this
    refine this.mono ?_
    rintro e w' ⟨rfl, hN⟩
    obtain ⟨A4, k4, c4, D4, hg4⟩ := D2d.next (ws' := ws.tail.tail) (by rw [List.length_tail]; omega) hN
    exact ⟨A4, k4, c4, rfl, D4, grownBy.trans' (grownBy.below' (World.grownBy.refl w2 (some g)) ((Drawn.drewN w2 1).below _)) hg4⟩
  have hg2 : g < w2.heap.size := D2.row.lt
  have hzg : w1.heap.size ≠ g := by have := D1.row.lt; omega
  clear D1 D2 b12 hg1
  go_wp2_with fail
  rw [← hw2]
  clear hw2
  go_region_held3 (fun W => W.cell? ⟨g, 7, none⟩ = some (.map (some v.m)) ∧ W.cell? ⟨w1.heap.size, 0, none⟩ = some (.string (strB x)))
    (first | go_keep | exact ⟨c74, a04⟩ | exact ⟨c7X, a0X⟩)
    (first | (go_at_call 75; refine HV2.out.mono ?_; rintro e w4 ⟨A4, k4, c4, rfl, D4, hg4⟩; have c74 : w4.cell? ⟨g, 7, none⟩ = some (.map (some v.m)) := cell_rowV D4.row rfl; have r4 := r2.grown hg4 (fun e => hzg (by injection e)); have a04 := (two_cellsV r4).1; obtain ⟨X, hrun, hmX, hgX⟩ := D4.mp.run_set 71 uS uMc uInt hmn.out x hms.out (nn : Int) hwf.out; have hrun' : (Instr.mapUpdate 71 (.map (some v.m)) (.string (strB x)) (.int .i64 (nn : Int))).run Tryd.prog w4 = .ok () X := hrun; have DX := D4.toRC.setM hmX hgX; have c7X : X.cell? ⟨g, 7, none⟩ = some (.map (some v.m)) := cell_rowV DX.row rfl; have rX := r4.grown hgX (fun e => by have h1 := D4.mp.isMap; obtain ⟨om, ho, hc⟩ := h1; injection e with e; rw [← e] at ho; rw [r4] at ho; injection ho with ho; rw [← ho] at hc; cases hc); have a0X := (two_cellsV rX).1))
  have HDX := Lib.hid DX
  have HB4 := Lib.hid (HB2.out.trans (HD2.out.toBelow hg4))
  have HBX := Lib.hid (HB4.out.trans (⟨hgX.os, hgX.tape, hgX.output, hgX.size, fun k hk => hgX.block k (Nat.lt_of_lt_of_le hk D4.le) (fun e => by injection e with e; have h1 := D4.hm; have h2 : k = ((v.at_ A' k' c').at_ A4 k4 c4).m := e; omega)⟩ : Below B w4 X))
  clear DX hgX hmX hg4 D4 rX r4 hrun' hrun c74 c7X a0X a04
  go_wp2_with fail
  obtain ⟨hcon, hxl, hvl, hfew, hws⟩ := HX.out
  refine ⟨rfl, _, results_none rfl _ _ _, rfl, HBX.out, _, RC.toRD (s := { s with cn := s.cn ++ [(x, nn)] }) (v := (v.at_ A' k' c').at_ A4 k4 c4) ?_ ?_ ?_⟩
  · have := HDX.out
    have e : (conF { s with cn := s.cn ++ [(x, nn)] }) = fput (conF s) x (nn : Int) := funext (conF_put s x nn hcon)
    rw [e]
    show RC _ _ _ _ _ _ _ _ _ _ ((s.cn ++ [(x, nn)]).length) _ _
    rw [List.length_append]
    exact this
  · show (s.cn ++ [(x, nn)]).length + ws.tail.tail.length ≤ 9000
    simp only [List.length_append, List.length_cons, List.length_nil, List.length_tail]
    omega
  · refine ⟨hfm.out.an, hfm.out.few, hfm.out.sizes, hfm.out.cells, hfm.out.locs, hfm.out.code, hfm.out.ins, fun p hp => ?_⟩
    rcases List.mem_append.1 hp with hp | hp
    · exact hfm.out.cn p hp
    · rw [List.mem_singleton.1 hp]; exact hvl
section
set_option maxRecDepth 100000 in
set_option maxHeartbeats 4000000 in
theorem constant_badV (B g n : Nat) (v : RVs) (s : AS) (ws : List Wd) (w : World) (h : RD B g n w s ws v) (hF : freshE s (nextW n ws).1 = 0) (hV : (valueL s (nextW n ws.tail).1).2 ≠ 0) :
    Calls Tryd.prog 72 #[.pointer (some ⟨g, 0, none⟩)] w fun e w' => FailsB B w ((nextW n ws.tail).2 : Int) (valueL s (nextW n ws.tail).1).2 e w' := by
  have H1 := asmFresh_ok B g n v s ws w h hF
  obtain ⟨x, z, hx⟩ : ∃ x z, nextW n ws = (x, z) := ⟨_, _, rfl⟩
  rw [hx] at H1
  dsimp only at H1
  have H1' := Lib.hid H1
  have hgl := h.row.lt
  have hxl : x.length ≤ 9000 := by have := next_len h.wm (n := n); rw [hx] at this; exact this
  have HV := Lib.hid hV
  obtain ⟨y, zy, hy⟩ : ∃ y zy, nextW n ws.tail = (y, zy) := ⟨_, _, rfl⟩
  obtain ⟨er, her⟩ : ∃ er, er = (valueL s (nextW n ws.tail).1).2 := ⟨_, rfl⟩
  have HER : Hid (er = (valueL s (nextW n ws.tail).1).2 ∧ nextW n ws.tail = (y, zy)) := ⟨her, hy⟩
  rw [← her, hy]
  clear H1 hF hV hxl her hy
  go_enter Tryd.func72, Tryd.ntmps72
  go_wp2_with fail
  refine H1'.out.mono ?_
  rintro e w1 ⟨rfl, hN⟩
  obtain ⟨A', k', c', D1, hg1⟩ := h.next (ws' := ws.tail) (by rw [List.length_tail]; omega) hN
  have hB1 := Lib.hid (h.toBelow hg1)
  clear H1' hN h
  have r2 := rowV.new w1 97 #[.string (strB x), .int .i64 (z : Int)]
  have hl2 := r2.lt
  have b12 : Below w1.heap.size w1 (w1.alloc (.cells #[.string (strB x), .int .i64 (z : Int)] 97)) := balloc (Below.refl _ _) _
  obtain ⟨w2, hw2⟩ : ∃ w2, w2 = w1.alloc (.cells #[.string (strB x), .int .i64 (z : Int)] 97) := ⟨_, rfl⟩
  rw [← hw2] at r2 hl2 b12
  obtain ⟨a0, a1⟩ := two_cellsV r2
  have D2 := D1.below b12
  have HD2 := Lib.hid D2
  have HB2 := Lib.hid (hB1.out.trans (b12.mono D1.le))
  have c7 : w2.cell? ⟨g, 7, none⟩ = some (.map (some v.m)) := cell_rowV D2.row rfl
  have HV2 : Hid (Calls Tryd.prog 75 #[.pointer (some ⟨g, 0, none⟩)] w2.drew fun e w' => e = .panicked [{ v := failV zy er, recovered := false }] ∧ Below B w w') := by
    show Calls _ _ _ _ _
    have D2d := D2.below (w' := w2.drew) ((Drawn.drewN w2 1).below _)
    have := asmValue_bad B g n _ s ws.tail w2.drew D2d HV.out
    rw [← HER.out.1, HER.out.2] at this
    refine this.mono ?_
    rintro e w' ⟨rfl, hb⟩
    exact ⟨rfl, HB2.out.trans ((((Drawn.drewN w2 1).below _).mono (HD2.out.le)).trans hb)⟩
  have hg2 : g < w2.heap.size := D2.row.lt
  have hzg : w1.heap.size ≠ g := by have := D1.row.lt; omega
  clear D1 D2 b12 hg1
  go_wp2_with fail
  rw [← hw2]
  clear hw2
  go_region_law (first | (go_simp; go_at_call 75; refine HV2.out.mono ?_; rintro e w4 ⟨rfl, hb4⟩; show bodyPost _ _ _ (Exit.panic [{ v := failV zy er, recovered := false }]) _ _; refine (fun (_ : wpAny Tryd.prog .any #[] (fun _ _ _ => True) 0 #[] { tmps := #[], defers := [] } w4) => ⟨rfl, rfl, hb4⟩) ?_))
  all_goals trivial
end
theorem constant_any (B g n : Nat) (v : RVs) (s : AS) (ws : List Wd) (w : World) (h : RD B g n w s ws v) :
    Calls Tryd.prog 72 #[.pointer (some ⟨g, 0, none⟩)] w (DoesL B g n w (constL n s ws)) := by
  unfold constL
  dsimp only
  by_cases hF : freshE s (nextW n ws).1 = 0
  · rw [if_neg (by simp [hF])]
    by_cases hV : (valueL s (nextW n ws.tail).1).2 = 0
    · rw [if_neg (by simp [hV])]
      refine constant_ok B g n v s ws w h hF hV ?_
      rcases ws with _ | ⟨a, _ | ⟨b, t⟩⟩
      · exact absurd hF (fresh_end s n)
      · exact absurd hV (by show ¬ (4 : Int) = 0; decide)
      · simp
    · rw [if_pos hV]; exact constant_badV B g n v s ws w h hF hV
  · rw [if_pos hF]; exact constant_badF B g n v s ws w h hF
end Go.Proofs.YtlbhggjkcfcobaaDoor

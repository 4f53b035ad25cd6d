/- The contract of the assembler's fresh. (Printed by wip/mkfresh.py.) -/
import Derived.Test.YtlbhggjkcfcobaaDoorAr
namespace Go.Proofs.YtlbhggjkcfcobaaDoor
open Go.RowKit Go.Proofs
set_option linter.unusedVariables false

set_option maxRecDepth 100000 in
set_option maxHeartbeats 4000000 in
theorem fresh_ok (B g n : Nat) (v : RVs) (s : AS) (ws : List Wd) (w : World) (h : RD B g n w s ws v) (x : List UInt8) (z : Nat) (hx : nextW n ws = (x, z)) (hN : nameL x = true) (hlen : x.length ≤ 9000) (hc : (conF s x).isSome = false) (ha : s.an.contains x = false) (hl : s.ln.contains x = false) :
    Calls Tryd.prog 102 #[.pointer (some ⟨g, 0, none⟩)] w fun e w' => e = .returned (.agg #[.string (strB x), .int .i64 (z : Int)]) ∧ NxV B g n v s ws.tail w w' := by
  have hgl := h.row.lt
  have hB := h.hB
  have rz0 := rowV.new w 97 #[.string ⟨#[]⟩, .int .i64 0]
  have hzg : w.heap.size ≠ g := by omega
  have hr0 := h.row.below (balloc (Below.refl w.heap.size w) (.cells #[.string ⟨#[]⟩, .int .i64 0] 97)) hgl
  have hw0 := h.wm.below ((balloc (Below.refl w.heap.size w) (.cells #[.string ⟨#[]⟩, .int .i64 0] 97)).mono (by omega))
  have H1 : Calls Tryd.prog 104 #[.pointer (some ⟨g, 0, none⟩)] (w.alloc (.cells #[.string ⟨#[]⟩, .int .i64 0] 97)) fun e w' => e = .returned (.agg #[.string (strB x), .int .i64 (z : Int)]) ∧ NxV B g n v s ws.tail (w.alloc (.cells #[.string ⟨#[]⟩, .int .i64 0] 97)) w' := by
    have := asmName_ok B g v.A v.k v.c n _ _ _ _ _ _ ws _ hr0 hw0 h.hk h.hB (by rw [hx]; exact hN)
    rw [hx] at this
    exact this
  have H1' := Lib.hid H1
  have HC := Lib.hid hc
  have HA := Lib.hid ha
  have HL := Lib.hid hl
  clear hr0 hw0 H1 hc ha hl
  obtain ⟨H⟩ : Nonempty (PLift (RD B g n w s ws v)) := ⟨⟨h⟩⟩
  have hnn : v.nn ≤ 100000 := by have := h.on.length (fun _ => rfl) (by decide); have := h.fm.an; have := h.fm.few; omega
  have hnl : v.nl ≤ 100000 := by have := h.ol.length (fun _ => rfl) (by decide); have := h.fm.locs; omega
  go_enter Tryd.func102, Tryd.ntmps102
  go_wp2_with fail
  refine H1'.out.mono ?_
  rintro e w1 ⟨rfl, A', k', c', hk1', hr1, hw1, hg1⟩
  have hk1 := Lib.hid hk1'
  have rz1 := rz0.grown hg1 (fun e => hzg (by injection e))
  have hg := grownBy.trans' (World.grownBy_alloc w (.cells #[.string ⟨#[]⟩, .int .i64 0] 97) (some g)) hg1
  have D1 := h.next' (by rw [List.length_tail]; omega) hk1' hr1 hw1 hg
  clear H1' hk1' rz0 h H
  have r2 := rowV.new w1 97 #[.string (strB x), .int .i64 (z : Int)]
  have hl2 := r2.lt
  have b12 : Below w1.heap.size w1 (w1.alloc (.cells #[.string (strB x), .int .i64 (z : Int)] 97)) := balloc (Below.refl _ _) _
  obtain ⟨w2, hw2⟩ : ∃ w2, w2 = w1.alloc (.cells #[.string (strB x), .int .i64 (z : Int)] 97) := ⟨_, rfl⟩
  rw [← hw2] at r2 hl2 b12
  obtain ⟨a0, a1⟩ := two_cellsV r2
  have D2 := D1.below b12
  have c7 : w2.cell? ⟨g, 7, none⟩ = some (.map (some v.m)) := cell_rowV D2.row rfl
  have c5 : w2.cell? ⟨g, 5, none⟩ = some (.slice v.An v.nn v.cn) := cell_rowV D2.row rfl
  have c6 : w2.cell? ⟨g, 6, none⟩ = some (.slice v.Al v.nl v.cl) := cell_rowV D2.row rfl
  have hlk : ∀ q, (Instr.lookup 71 (.map (some v.m)) (.string (strB x)) true).run Tryd.prog (w2.drewN q) = .ok (.tuple #[.int .i64 ((conF s x).getD 0), .bool false]) (w2.drewN q) := fun q => by
    have := MapIs.run_getok D2.mp 71 uS uMc uInt zInt x (by simp [maxLen]; omega) q
    rw [HC.out] at this
    exact this
  have HK1 : Hid (∀ q, Calls Tryd.prog 117 #[.slice v.An v.nn v.cn, .string (strB x)] (w2.drewN q) fun e w' => e = .returned (.bool false) ∧ w' = w2.drewN q) := fun q => by
    have := contains_any B v.An v.nn v.cn s.an x w2 D2.on hnn q
    rw [HA.out] at this
    exact this
  have HK2 : Hid (∀ q, Calls Tryd.prog 117 #[.slice v.Al v.nl v.cl, .string (strB x)] (w2.drewN q) fun e w' => e = .returned (.bool false) ∧ w' = w2.drewN q) := fun q => by
    have := contains_any B v.Al v.nl v.cl s.ln x w2 D2.ol hnl q
    rw [HL.out] at this
    exact this
  clear D1 D2
  go_wp2_with fail
  rw [← hw2]
  clear hw2
  go_quiet (fail)
  go_wp2_with fail
  refine wp_region_quiet_tail 23 (by kernel_rfl) (by kernel_rfl) ?_
  simp only [List.take_succ_cons, List.take_zero, List.drop_succ_cons, List.drop_zero]
  repeat (go_big_quiet_step (first | (go_at_call_of 117 (Value.slice v.An v.nn v.cn); exact (HK1.out _).mono fun e w2 h => ⟨h.1, _, h.2⟩) | (go_at_call_of 117 (Value.slice v.Al v.nl v.cl); exact (HK2.out _).mono fun e w2 h => ⟨h.1, _, h.2⟩)))
  refine wpQuiet_nil ?_
  intro _ hw'
  obtain ⟨nr, hw''⟩ := hw'
  subst hw''
  go_wp2_with fail
  refine (demand_ok x z 8 _).mono ?_
  rintro e w6 ⟨rfl, hb6⟩
  have b16 : Below w1.heap.size w1 w6 := (bdrew b12 (nq + nr)).trans (hb6.mono (bdrew b12 (nq + nr)).size)
  have r6 := (r2.below (w' := w2.drewN (nq + nr)) ((Drawn.drewN _ _).below _) hl2).below hb6 (r2.below (w' := w2.drewN (nq + nr)) ((Drawn.drewN _ _).below _) hl2).lt
  obtain ⟨f0, f1⟩ := two_cellsV r6
  have rz6 := rz1.below b16 rz1.lt
  obtain ⟨y0, y1⟩ := two_cellsV rz6
  have z0 := frozen_rowV' rz6 0
  have z1 := frozen_rowV' rz6 1
  have G6 : w.grownBy w6 (some g) := grownBy.below' hg b16
  have hr6 := hr1.below b16 hr1.lt
  have hw6 := hw1.below (b16.mono (Nat.le_trans hB (Nat.le_of_lt hr1.lt)))
  have rz7 : rowV ((w6.setCell ⟨w.heap.size, 0, none⟩ (.string (strB x))).setCell ⟨w.heap.size, 1, none⟩ (.int .i64 (z : Int))) w.heap.size 97 #[.string (strB x), .int .i64 (z : Int)] := (rz6.set 0 _).set 1 _
  have hE : Hid (NxV B g n v s ws.tail w ((w6.setCell ⟨w.heap.size, 0, none⟩ (.string (strB x))).setCell ⟨w.heap.size, 1, none⟩ (.int .i64 (z : Int)))) :=
    ⟨A', k', c', hk1.out, (hr6.setFar (p := ⟨w.heap.size, 0, none⟩) (Ne.symm hzg) _).setFar (p := ⟨w.heap.size, 1, none⟩) (Ne.symm hzg) _, (hw6.setFar (p := ⟨w.heap.size, 0, none⟩) (by show B ≤ w.heap.size; omega) _).setFar (p := ⟨w.heap.size, 1, none⟩) (by show B ≤ w.heap.size; omega) _, grownBy.setNew (grownBy.setNew G6 (p := ⟨w.heap.size, 0, none⟩) (Nat.le_refl _) _) (p := ⟨w.heap.size, 1, none⟩) (Nat.le_refl _) _⟩
  have HZ := Lib.hid (two_cellsV rz7)
  clear rz7 hr6 hw6 G6 rz6 r6 b16 hb6
  go_wp2_with fail
  obtain ⟨z7, z8⟩ := HZ.out
  refine bodyPost_ret (v := .agg #[.string (strB x), .int .i64 (z : Int)]) ?_ rfl ⟨rfl, hE.out⟩
  simp [results, Tryd.results102, go_sem, z7, z8]
set_option maxRecDepth 100000 in
set_option maxHeartbeats 4000000 in
theorem fresh_bad1 (B g n : Nat) (v : RVs) (s : AS) (ws : List Wd) (w : World) (h : RD B g n w s ws v) (x : List UInt8) (z : Nat) (hx : nextW n ws = (x, z)) (hN : nameL x = true) (hlen : x.length ≤ 9000) (hc : (conF s x).isSome = true) :
    Calls Tryd.prog 102 #[.pointer (some ⟨g, 0, none⟩)] w fun e w' => FailsB B w z 8 e w' := by
  have hgl := h.row.lt
  have hB := h.hB
  have rz0 := rowV.new w 97 #[.string ⟨#[]⟩, .int .i64 0]
  have hzg : w.heap.size ≠ g := by omega
  have hr0 := h.row.below (balloc (Below.refl w.heap.size w) (.cells #[.string ⟨#[]⟩, .int .i64 0] 97)) hgl
  have hw0 := h.wm.below ((balloc (Below.refl w.heap.size w) (.cells #[.string ⟨#[]⟩, .int .i64 0] 97)).mono (by omega))
  have H1 : Calls Tryd.prog 104 #[.pointer (some ⟨g, 0, none⟩)] (w.alloc (.cells #[.string ⟨#[]⟩, .int .i64 0] 97)) fun e w' => e = .returned (.agg #[.string (strB x), .int .i64 (z : Int)]) ∧ NxV B g n v s ws.tail (w.alloc (.cells #[.string ⟨#[]⟩, .int .i64 0] 97)) w' := by
    have := asmName_ok B g v.A v.k v.c n _ _ _ _ _ _ ws _ hr0 hw0 h.hk h.hB (by rw [hx]; exact hN)
    rw [hx] at this
    exact this
  have H1' := Lib.hid H1
  have HC := Lib.hid hc
  clear hr0 hw0 H1 hc
  obtain ⟨H⟩ : Nonempty (PLift (RD B g n w s ws v)) := ⟨⟨h⟩⟩
  have hnn : v.nn ≤ 100000 := by have := h.on.length (fun _ => rfl) (by decide); have := h.fm.an; have := h.fm.few; omega
  have hnl : v.nl ≤ 100000 := by have := h.ol.length (fun _ => rfl) (by decide); have := h.fm.locs; omega
  go_enter Tryd.func102, Tryd.ntmps102
  go_wp2_with fail
  refine H1'.out.mono ?_
  rintro e w1 ⟨rfl, A', k', c', hk1', hr1, hw1, hg1⟩
  have hk1 := Lib.hid hk1'
  have rz1 := rz0.grown hg1 (fun e => hzg (by injection e))
  have hg := grownBy.trans' (World.grownBy_alloc w (.cells #[.string ⟨#[]⟩, .int .i64 0] 97) (some g)) hg1
  have D1 := h.next' (by rw [List.length_tail]; omega) hk1' hr1 hw1 hg
  clear H1' hk1' rz0 h H
  have r2 := rowV.new w1 97 #[.string (strB x), .int .i64 (z : Int)]
  have hl2 := r2.lt
  have b12 : Below w1.heap.size w1 (w1.alloc (.cells #[.string (strB x), .int .i64 (z : Int)] 97)) := balloc (Below.refl _ _) _
  obtain ⟨w2, hw2⟩ : ∃ w2, w2 = w1.alloc (.cells #[.string (strB x), .int .i64 (z : Int)] 97) := ⟨_, rfl⟩
  rw [← hw2] at r2 hl2 b12
  obtain ⟨a0, a1⟩ := two_cellsV r2
  have D2 := D1.below b12
  have c7 : w2.cell? ⟨g, 7, none⟩ = some (.map (some v.m)) := cell_rowV D2.row rfl
  have c5 : w2.cell? ⟨g, 5, none⟩ = some (.slice v.An v.nn v.cn) := cell_rowV D2.row rfl
  have c6 : w2.cell? ⟨g, 6, none⟩ = some (.slice v.Al v.nl v.cl) := cell_rowV D2.row rfl
  have hlk : ∀ q, (Instr.lookup 71 (.map (some v.m)) (.string (strB x)) true).run Tryd.prog (w2.drewN q) = .ok (.tuple #[.int .i64 ((conF s x).getD 0), .bool true]) (w2.drewN q) := fun q => by
    have := MapIs.run_getok D2.mp 71 uS uMc uInt zInt x (by simp [maxLen]; omega) q
    rw [HC.out] at this
    exact this
  clear D1 D2
  go_wp2_with fail
  rw [← hw2]
  clear hw2
  go_quiet (fail)
  go_wp2_with fail
  refine wp_region_quiet_tail 23 (by kernel_rfl) (by kernel_rfl) ?_
  simp only [List.take_succ_cons, List.take_zero, List.drop_succ_cons, List.drop_zero]
  repeat (go_big_quiet_step (fail))
  refine wpQuiet_nil ?_
  intro _ hw'
  obtain ⟨nr, hw''⟩ := hw'
  subst hw''
  go_wp2_with fail
  refine (demand_bad x z 8 _).mono ?_
  rintro e w6 ⟨rfl, hb6⟩
  have b16 : Below w1.heap.size w1 w6 := (bdrew b12 (nq + nr)).trans (hb6.mono (bdrew b12 (nq + nr)).size)
  have hE := Lib.hid (Below.ofGrown (grownBy.below' hg b16) hB (Nat.le_trans hB (Nat.le_of_lt hgl)))
  go_wp2_with fail
  exact ⟨rfl, rfl, hE.out⟩
set_option maxRecDepth 100000 in
set_option maxHeartbeats 4000000 in
theorem fresh_bad2 (B g n : Nat) (v : RVs) (s : AS) (ws : List Wd) (w : World) (h : RD B g n w s ws v) (x : List UInt8) (z : Nat) (hx : nextW n ws = (x, z)) (hN : nameL x = true) (hlen : x.length ≤ 9000) (hc : (conF s x).isSome = false) (ha : s.an.contains x = true) :
    Calls Tryd.prog 102 #[.pointer (some ⟨g, 0, none⟩)] w fun e w' => FailsB B w z 8 e w' := by
  have hgl := h.row.lt
  have hB := h.hB
  have rz0 := rowV.new w 97 #[.string ⟨#[]⟩, .int .i64 0]
  have hzg : w.heap.size ≠ g := by omega
  have hr0 := h.row.below (balloc (Below.refl w.heap.size w) (.cells #[.string ⟨#[]⟩, .int .i64 0] 97)) hgl
  have hw0 := h.wm.below ((balloc (Below.refl w.heap.size w) (.cells #[.string ⟨#[]⟩, .int .i64 0] 97)).mono (by omega))
  have H1 : Calls Tryd.prog 104 #[.pointer (some ⟨g, 0, none⟩)] (w.alloc (.cells #[.string ⟨#[]⟩, .int .i64 0] 97)) fun e w' => e = .returned (.agg #[.string (strB x), .int .i64 (z : Int)]) ∧ NxV B g n v s ws.tail (w.alloc (.cells #[.string ⟨#[]⟩, .int .i64 0] 97)) w' := by
    have := asmName_ok B g v.A v.k v.c n _ _ _ _ _ _ ws _ hr0 hw0 h.hk h.hB (by rw [hx]; exact hN)
    rw [hx] at this
    exact this
  have H1' := Lib.hid H1
  have HC := Lib.hid hc
  have HA := Lib.hid ha
  clear hr0 hw0 H1 hc ha
  obtain ⟨H⟩ : Nonempty (PLift (RD B g n w s ws v)) := ⟨⟨h⟩⟩
  have hnn : v.nn ≤ 100000 := by have := h.on.length (fun _ => rfl) (by decide); have := h.fm.an; have := h.fm.few; omega
  have hnl : v.nl ≤ 100000 := by have := h.ol.length (fun _ => rfl) (by decide); have := h.fm.locs; omega
  go_enter Tryd.func102, Tryd.ntmps102
  go_wp2_with fail
  refine H1'.out.mono ?_
  rintro e w1 ⟨rfl, A', k', c', hk1', hr1, hw1, hg1⟩
  have hk1 := Lib.hid hk1'
  have rz1 := rz0.grown hg1 (fun e => hzg (by injection e))
  have hg := grownBy.trans' (World.grownBy_alloc w (.cells #[.string ⟨#[]⟩, .int .i64 0] 97) (some g)) hg1
  have D1 := h.next' (by rw [List.length_tail]; omega) hk1' hr1 hw1 hg
  clear H1' hk1' rz0 h H
  have r2 := rowV.new w1 97 #[.string (strB x), .int .i64 (z : Int)]
  have hl2 := r2.lt
  have b12 : Below w1.heap.size w1 (w1.alloc (.cells #[.string (strB x), .int .i64 (z : Int)] 97)) := balloc (Below.refl _ _) _
  obtain ⟨w2, hw2⟩ : ∃ w2, w2 = w1.alloc (.cells #[.string (strB x), .int .i64 (z : Int)] 97) := ⟨_, rfl⟩
  rw [← hw2] at r2 hl2 b12
  obtain ⟨a0, a1⟩ := two_cellsV r2
  have D2 := D1.below b12
  have c7 : w2.cell? ⟨g, 7, none⟩ = some (.map (some v.m)) := cell_rowV D2.row rfl
  have c5 : w2.cell? ⟨g, 5, none⟩ = some (.slice v.An v.nn v.cn) := cell_rowV D2.row rfl
  have c6 : w2.cell? ⟨g, 6, none⟩ = some (.slice v.Al v.nl v.cl) := cell_rowV D2.row rfl
  have hlk : ∀ q, (Instr.lookup 71 (.map (some v.m)) (.string (strB x)) true).run Tryd.prog (w2.drewN q) = .ok (.tuple #[.int .i64 ((conF s x).getD 0), .bool false]) (w2.drewN q) := fun q => by
    have := MapIs.run_getok D2.mp 71 uS uMc uInt zInt x (by simp [maxLen]; omega) q
    rw [HC.out] at this
    exact this
  have HK1 : Hid (∀ q, Calls Tryd.prog 117 #[.slice v.An v.nn v.cn, .string (strB x)] (w2.drewN q) fun e w' => e = .returned (.bool true) ∧ w' = w2.drewN q) := fun q => by
    have := contains_any B v.An v.nn v.cn s.an x w2 D2.on hnn q
    rw [HA.out] at this
    exact this
  clear D1 D2
  go_wp2_with fail
  rw [← hw2]
  clear hw2
  go_quiet (fail)
  go_wp2_with fail
  refine wp_region_quiet_tail 23 (by kernel_rfl) (by kernel_rfl) ?_
  simp only [List.take_succ_cons, List.take_zero, List.drop_succ_cons, List.drop_zero]
  repeat (go_big_quiet_step (first | (go_at_call_of 117 (Value.slice v.An v.nn v.cn); exact (HK1.out _).mono fun e w2 h => ⟨h.1, _, h.2⟩)))
  refine wpQuiet_nil ?_
  intro _ hw'
  obtain ⟨nr, hw''⟩ := hw'
  subst hw''
  go_wp2_with fail
  refine (demand_bad x z 8 _).mono ?_
  rintro e w6 ⟨rfl, hb6⟩
  have b16 : Below w1.heap.size w1 w6 := (bdrew b12 (nq + nr)).trans (hb6.mono (bdrew b12 (nq + nr)).size)
  have hE := Lib.hid (Below.ofGrown (grownBy.below' hg b16) hB (Nat.le_trans hB (Nat.le_of_lt hgl)))
  go_wp2_with fail
  exact ⟨rfl, rfl, hE.out⟩
set_option maxRecDepth 100000 in
set_option maxHeartbeats 4000000 in
theorem fresh_bad3 (B g n : Nat) (v : RVs) (s : AS) (ws : List Wd) (w : World) (h : RD B g n w s ws v) (x : List UInt8) (z : Nat) (hx : nextW n ws = (x, z)) (hN : nameL x = true) (hlen : x.length ≤ 9000) (hc : (conF s x).isSome = false) (ha : s.an.contains x = false) (hl : s.ln.contains x = true) :
    Calls Tryd.prog 102 #[.pointer (some ⟨g, 0, none⟩)] w fun e w' => FailsB B w z 8 e w' := by
  have hgl := h.row.lt
  have hB := h.hB
  have rz0 := rowV.new w 97 #[.string ⟨#[]⟩, .int .i64 0]
  have hzg : w.heap.size ≠ g := by omega
  have hr0 := h.row.below (balloc (Below.refl w.heap.size w) (.cells #[.string ⟨#[]⟩, .int .i64 0] 97)) hgl
  have hw0 := h.wm.below ((balloc (Below.refl w.heap.size w) (.cells #[.string ⟨#[]⟩, .int .i64 0] 97)).mono (by omega))
  have H1 : Calls Tryd.prog 104 #[.pointer (some ⟨g, 0, none⟩)] (w.alloc (.cells #[.string ⟨#[]⟩, .int .i64 0] 97)) fun e w' => e = .returned (.agg #[.string (strB x), .int .i64 (z : Int)]) ∧ NxV B g n v s ws.tail (w.alloc (.cells #[.string ⟨#[]⟩, .int .i64 0] 97)) w' := by
    have := asmName_ok B g v.A v.k v.c n _ _ _ _ _ _ ws _ hr0 hw0 h.hk h.hB (by rw [hx]; exact hN)
    rw [hx] at this
    exact this
  have H1' := Lib.hid H1
  have HC := Lib.hid hc
  have HA := Lib.hid ha
  have HL := Lib.hid hl
  clear hr0 hw0 H1 hc ha hl
  obtain ⟨H⟩ : Nonempty (PLift (RD B g n w s ws v)) := ⟨⟨h⟩⟩
  have hnn : v.nn ≤ 100000 := by have := h.on.length (fun _ => rfl) (by decide); have := h.fm.an; have := h.fm.few; omega
  have hnl : v.nl ≤ 100000 := by have := h.ol.length (fun _ => rfl) (by decide); have := h.fm.locs; omega
  go_enter Tryd.func102, Tryd.ntmps102
  go_wp2_with fail
  refine H1'.out.mono ?_
  rintro e w1 ⟨rfl, A', k', c', hk1', hr1, hw1, hg1⟩
  have hk1 := Lib.hid hk1'
  have rz1 := rz0.grown hg1 (fun e => hzg (by injection e))
  have hg := grownBy.trans' (World.grownBy_alloc w (.cells #[.string ⟨#[]⟩, .int .i64 0] 97) (some g)) hg1
  have D1 := h.next' (by rw [List.length_tail]; omega) hk1' hr1 hw1 hg
  clear H1' hk1' rz0 h H
  have r2 := rowV.new w1 97 #[.string (strB x), .int .i64 (z : Int)]
  have hl2 := r2.lt
  have b12 : Below w1.heap.size w1 (w1.alloc (.cells #[.string (strB x), .int .i64 (z : Int)] 97)) := balloc (Below.refl _ _) _
  obtain ⟨w2, hw2⟩ : ∃ w2, w2 = w1.alloc (.cells #[.string (strB x), .int .i64 (z : Int)] 97) := ⟨_, rfl⟩
  rw [← hw2] at r2 hl2 b12
  obtain ⟨a0, a1⟩ := two_cellsV r2
  have D2 := D1.below b12
  have c7 : w2.cell? ⟨g, 7, none⟩ = some (.map (some v.m)) := cell_rowV D2.row rfl
  have c5 : w2.cell? ⟨g, 5, none⟩ = some (.slice v.An v.nn v.cn) := cell_rowV D2.row rfl
  have c6 : w2.cell? ⟨g, 6, none⟩ = some (.slice v.Al v.nl v.cl) := cell_rowV D2.row rfl
  have hlk : ∀ q, (Instr.lookup 71 (.map (some v.m)) (.string (strB x)) true).run Tryd.prog (w2.drewN q) = .ok (.tuple #[.int .i64 ((conF s x).getD 0), .bool false]) (w2.drewN q) := fun q => by
    have := MapIs.run_getok D2.mp 71 uS uMc uInt zInt x (by simp [maxLen]; omega) q
    rw [HC.out] at this
    exact this
  have HK1 : Hid (∀ q, Calls Tryd.prog 117 #[.slice v.An v.nn v.cn, .string (strB x)] (w2.drewN q) fun e w' => e = .returned (.bool false) ∧ w' = w2.drewN q) := fun q => by
    have := contains_any B v.An v.nn v.cn s.an x w2 D2.on hnn q
    rw [HA.out] at this
    exact this
  have HK2 : Hid (∀ q, Calls Tryd.prog 117 #[.slice v.Al v.nl v.cl, .string (strB x)] (w2.drewN q) fun e w' => e = .returned (.bool true) ∧ w' = w2.drewN q) := fun q => by
    have := contains_any B v.Al v.nl v.cl s.ln x w2 D2.ol hnl q
    rw [HL.out] at this
    exact this
  clear D1 D2
  go_wp2_with fail
  rw [← hw2]
  clear hw2
  go_quiet (fail)
  go_wp2_with fail
  refine wp_region_quiet_tail 23 (by kernel_rfl) (by kernel_rfl) ?_
  simp only [List.take_succ_cons, List.take_zero, List.drop_succ_cons, List.drop_zero]
  repeat (go_big_quiet_step (first | (go_at_call_of 117 (Value.slice v.An v.nn v.cn); exact (HK1.out _).mono fun e w2 h => ⟨h.1, _, h.2⟩) | (go_at_call_of 117 (Value.slice v.Al v.nl v.cl); exact (HK2.out _).mono fun e w2 h => ⟨h.1, _, h.2⟩)))
  refine wpQuiet_nil ?_
  intro _ hw'
  obtain ⟨nr, hw''⟩ := hw'
  subst hw''
  go_wp2_with fail
  refine (demand_bad x z 8 _).mono ?_
  rintro e w6 ⟨rfl, hb6⟩
  have b16 : Below w1.heap.size w1 w6 := (bdrew b12 (nq + nr)).trans (hb6.mono (bdrew b12 (nq + nr)).size)
  have hE := Lib.hid (Below.ofGrown (grownBy.below' hg b16) hB (Nat.le_trans hB (Nat.le_of_lt hgl)))
  go_wp2_with fail
  exact ⟨rfl, rfl, hE.out⟩
set_option maxRecDepth 100000 in
theorem fresh_bad0 (B g n : Nat) (v : RVs) (s : AS) (ws : List Wd) (w : World) (h : RD B g n w s ws v) (x : List UInt8) (z : Nat) (hx : nextW n ws = (x, z)) (hN : nameL x = false) (hlen : x.length ≤ 9000) :
    Calls Tryd.prog 102 #[.pointer (some ⟨g, 0, none⟩)] w fun e w' => FailsB B w z 4 e w' := by
  have hgl := h.row.lt
  have hB := h.hB
  have b0 := balloc (Below.refl w.heap.size w) (.cells #[.string ⟨#[]⟩, .int .i64 0] 97)
  have hr0 := h.row.below b0 hgl
  have hw0 := h.wm.below (b0.mono (by omega))
  have H1 : Calls Tryd.prog 104 #[.pointer (some ⟨g, 0, none⟩)] (w.alloc (.cells #[.string ⟨#[]⟩, .int .i64 0] 97)) fun e w' => FailsB B (w.alloc (.cells #[.string ⟨#[]⟩, .int .i64 0] 97)) z 4 e w' := by
    have := asmName_bad B g v.A v.k v.c n _ _ _ _ _ _ ws _ hr0 hw0 h.hk h.hB (by rw [hx]; exact hN)
    rw [hx] at this
    exact this
  have H1' := Lib.hid H1
  have hb0 : Hid (Below B w (w.alloc (.cells #[.string ⟨#[]⟩, .int .i64 0] 97))) := b0.mono (by omega)
  clear hr0 hw0 H1 h b0
  go_enter Tryd.func102, Tryd.ntmps102
  go_wp2_with fail
  refine H1'.out.mono ?_
  rintro e w1 ⟨rfl, hb1⟩
  go_wp2_with fail
  exact ⟨rfl, rfl, hb0.out.trans hb1⟩
theorem conF_isSome (s : AS) (x : List UInt8) : (conF s x).isSome = (conOf s x).isSome := by unfold conF; cases conOf s x <;> rfl
theorem asmFresh_ok (B g n : Nat) (v : RVs) (s : AS) (ws : List Wd) (w : World) (h : RD B g n w s ws v) (hF : freshE s (nextW n ws).1 = 0) :
    Calls Tryd.prog 102 #[.pointer (some ⟨g, 0, none⟩)] w fun e w' => e = .returned (.agg #[.string (strB (nextW n ws).1), .int .i64 ((nextW n ws).2 : Int)]) ∧ NxV B g n v s ws.tail w w' := by
  have hl := next_len h.wm (n := n)
  obtain ⟨x, z, hx⟩ : ∃ x z, nextW n ws = (x, z) := ⟨_, _, rfl⟩
  rw [hx] at hF hl ⊢
  dsimp only at hF hl ⊢
  unfold freshE at hF
  cases hN : nameL x with
  | false => rw [hN] at hF; simp at hF
  | true =>
    rw [hN] at hF
    simp only [Bool.true_eq_false, if_false] at hF
    split at hF
    · simp at hF
    · rename_i h1
      simp only [Bool.or_eq_true, not_or, Bool.not_eq_true] at h1
      exact fresh_ok B g n v s ws w h x z hx hN hl (by rw [conF_isSome]; exact h1.1.1) h1.1.2 h1.2
theorem asmFresh_bad (B g n : Nat) (v : RVs) (s : AS) (ws : List Wd) (w : World) (h : RD B g n w s ws v) (hF : freshE s (nextW n ws).1 ≠ 0) :
    Calls Tryd.prog 102 #[.pointer (some ⟨g, 0, none⟩)] w fun e w' => FailsB B w ((nextW n ws).2 : Int) (freshE s (nextW n ws).1) e w' := by
  have hl := next_len h.wm (n := n)
  obtain ⟨x, z, hx⟩ : ∃ x z, nextW n ws = (x, z) := ⟨_, _, rfl⟩
  rw [hx] at hF hl ⊢
  dsimp only at hF hl ⊢
  unfold freshE at hF ⊢
  cases hN : nameL x with
  | false => rw [if_pos rfl]; exact fresh_bad0 B g n v s ws w h x z hx hN hl
  | true =>
    rw [hN] at hF
    simp only [Bool.true_eq_false, if_false] at hF ⊢
    cases h1 : (conOf s x).isSome with
    | true => simp only [Bool.true_or, if_true]; exact fresh_bad1 B g n v s ws w h x z hx hN hl (by rw [conF_isSome]; exact h1)
    | false =>
      cases h2 : s.an.contains x with
      | true => simp only [Bool.or_true, Bool.true_or, if_true]; exact fresh_bad2 B g n v s ws w h x z hx hN hl (by rw [conF_isSome]; exact h1) h2
      | false =>
        cases h3 : s.ln.contains x with
        | true => simp only [Bool.or_true, if_true]; exact fresh_bad3 B g n v s ws w h x z hx hN hl (by rw [conF_isSome]; exact h1) h2 h3
        | false => rw [h1, h2, h3] at hF; simp at hF
end Go.Proofs.YtlbhggjkcfcobaaDoor

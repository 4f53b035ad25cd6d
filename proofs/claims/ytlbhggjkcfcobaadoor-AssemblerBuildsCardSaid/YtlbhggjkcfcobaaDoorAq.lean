/- The contract of the assembler's name. (Printed by wip/mkname.py.) -/
import Derived.Test.YtlbhggjkcfcobaaDoorAp
namespace Go.Proofs.YtlbhggjkcfcobaaDoor
open Go.RowKit Go.Proofs
set_option linter.unusedVariables false

theorem next_len {B : Nat} {w : World} {A : Option Addr} {k c n : Nat} {ws : List Wd} (h : WordsM B w A k c ws) : (nextW n ws).1.length ≤ 9000 := by
  cases ws with
  | nil => exact Nat.zero_le _
  | cons x t => exact (h.2.2.1 x (by simp)).1
set_option maxRecDepth 100000 in
set_option maxHeartbeats 4000000 in
theorem name_good (B g : Nat) (A : Option Addr) (k c n : Nat) (v2 v3 v4 v5 v6 v7 : Value) (ws : List Wd) (w : World) (hr : rowV w g 73 (rdC A k c n v2 v3 v4 v5 v6 v7)) (hw : WordsM B w A k c ws) (hk : k ≤ 9000) (hB : B ≤ g)
    (x : List UInt8) (z : Nat) (hx : nextW n ws = (x, z)) (hlen : x.length ≤ 9000) (h0 : 0 < x.length) (h32 : x.length ≤ 32) (ho1 : onlyL (x.take 1) lettS = true) (ho2 : onlyL x nameS = true) (hd : declB x = false) (hf : (findL x).isSome = false) :
    Calls Tryd.prog 104 #[.pointer (some ⟨g, 0, none⟩)] w fun e w' => e = .returned (wdV (x, z)) ∧ NxW B g n v2 v3 v4 v5 v6 v7 ws.tail w w' := by
  have hgl := hr.lt
  have rz0 := rowV.new w 97 #[.string ⟨#[]⟩, .int .i64 0]
  have hzg : w.heap.size ≠ g := by omega
  have hr0 := hr.below (balloc (Below.refl w.heap.size w) (.cells #[.string ⟨#[]⟩, .int .i64 0] 97)) hgl
  have hw0 := hw.below ((balloc (Below.refl w.heap.size w) (.cells #[.string ⟨#[]⟩, .int .i64 0] 97)).mono (by omega))
  have H1 := Lib.hid (next_any B g A k c n v2 v3 v4 v5 v6 v7 ws _ hr0 hw0 hk hB)
  rw [hx] at H1
  have hxs := strB_size' x
  have hem : (strB x).toList.isEmpty = false := by rw [strB_isEmpty]; exact decide_eq_false (by omega)
  have d32 : decide ((x.length : Int) ≤ 32) = true := by simp; omega
  have d32' : decide (x.length ≤ 32) = true := by simp; omega
  have hc1 : ∀ W : World, (Instr.slice 9 (.string (strB x)) none (some (.int .i64 1)) none).run Tryd.prog W = .ok (.string (strB (x.take 1))) W := fun W => by
    rw [run_slice_string_h W 9 (strB x) uS .i64 1 (by omega) (by rw [strB_size']; omega), strB_extract]
    rfl
  have HO1 : ∀ W, Calls Tryd.prog 119 #[.string (strB (x.take 1)), .string ⟨#[97, 98, 99, 100, 101, 102, 103, 104, 105, 106, 107, 108, 109, 110, 111, 112, 113, 114, 115, 116, 117, 118, 119, 120, 121, 122]⟩] W fun e w' => e = .returned (.bool true) ∧ w' = W := fun W => by
    have := only_any (x.take 1) lettS W (by rw [List.length_take]; omega)
    rw [ho1] at this; exact this
  have HO1' := Lib.hid HO1
  clear HO1 ho1
  have HO2 : ∀ W, Calls Tryd.prog 119 #[.string (strB x), .string ⟨#[97, 98, 99, 100, 101, 102, 103, 104, 105, 106, 107, 108, 109, 110, 111, 112, 113, 114, 115, 116, 117, 118, 119, 120, 121, 122, 48, 49, 50, 51, 52, 53, 54, 55, 56, 57, 95]⟩] W fun e w' => e = .returned (.bool true) ∧ w' = W := fun W => by
    have := only_any x nameS W (by omega)
    rw [ho2] at this; exact this
  have HO2' := Lib.hid HO2
  clear HO2 ho2
  have HD : Hid (declB x = false) := hd
  have HF : Hid (∀ W, Calls Tryd.prog 73 #[.string (strB x)] W fun e w' => e = .returned (.tuple #[.int .i64 (findN x), .bool false]) ∧ Below W.heap.size W w') := fun W => by
    have := find_any x W
    rw [hf] at this; exact this
  clear hr hw hr0 hw0 hx hd hf
  go_enter Tryd.func104, Tryd.ntmps104
  go_wp2_with fail
  refine H1.out.mono ?_
  rintro e w1 ⟨A', k', c', rfl, hke, hr1, hw1, hg1⟩
  have hk1 : Hid (k' ≤ 9000) := by show _ ≤ _; omega
  have rz1 := rz0.grown hg1 (fun e => hzg (by injection e))
  clear H1 hke rz0
  have r2 := rowV.new w1 97 #[.string (strB x), .int .i64 (z : Int)]
  obtain ⟨a0, a1⟩ := two_cellsV r2
  have hl2 := r2.lt
  have b12 : Below w1.heap.size w1 (w1.alloc (.cells #[.string (strB x), .int .i64 (z : Int)] 97)) := balloc (Below.refl _ _) _
  obtain ⟨w2, hw2⟩ : ∃ w2, w2 = w1.alloc (.cells #[.string (strB x), .int .i64 (z : Int)] 97) := ⟨_, rfl⟩
  rw [← hw2] at r2 a0 a1 hl2 b12
  go_wp2_with fail
  rw [← hw2]
  clear hw2
  go_region_held3 (fun W => W.cell? ⟨w1.heap.size, 0, none⟩ = some (.string (strB x)))
    (first | go_keep | exact c30)
    (first | (go_at_call 42; refine (declarations_any g _).mono ?_; rintro e w3 ⟨m, cc, rfl, hm, hb3'⟩; have hb3 : Below w2.heap.size w2 w3 := ((Drawn.drewN w2 1).below _).trans hb3'; have r3 := r2.below hb3 hl2; have c30 := (two_cellsV r3).1; obtain ⟨vd, hlk⟩ := decl_look' hm x; rw [HD.out] at hlk))
  go_wp2_with fail
  refine (HF.out _).mono ?_
  rintro e w4 ⟨rfl, hb4⟩
  have rz4 := ((rz1.below b12 rz1.lt).below hb3 (rz1.below b12 rz1.lt).lt).below hb4 ((rz1.below b12 rz1.lt).below hb3 (rz1.below b12 rz1.lt).lt).lt
  have b14 : Below w1.heap.size w1 w4 := b12.trans ((hb3.mono b12.size).trans (hb4.mono (Nat.le_trans b12.size hb3.size)))
  have r4 := r3.below hb4 r3.lt
  obtain ⟨e0, e1⟩ := two_cellsV r4
  clear hlk hm hb4 hb3 hb3' r3 r2 c30 a0 a1
  go_wp2_with fail
  refine (HO1'.out _).mono ?_
  rintro e w5 ⟨rfl, hw5⟩
  obtain rfl : w4 = w5 := hw5.symm
  go_wp2_with fail
  refine (HO2'.out _).mono ?_
  rintro e w5 ⟨rfl, hw5⟩
  obtain rfl : w4 = w5 := hw5.symm
  go_wp2_with fail
  refine (demand_ok x z 4 _).mono ?_
  rintro e w6 ⟨rfl, hb6⟩
  have r6 := r4.below hb6 r4.lt
  have rz6 := rz4.below hb6 rz4.lt
  obtain ⟨y0, y1⟩ := two_cellsV rz6
  have z0 := frozen_rowV' rz6 0
  have z1 := frozen_rowV' rz6 1
  obtain ⟨f0, f1⟩ := two_cellsV r6
  have b16 := b14.trans (hb6.mono b14.size)
  have G6 : w.grownBy w6 (some g) := grownBy.below' (grownBy.trans' (World.grownBy_alloc w (.cells #[.string ⟨#[]⟩, .int .i64 0] 97) (some g)) hg1) b16
  have hr6 := hr1.below b16 hr1.lt
  have hw6 := hw1.below (b16.mono (Nat.le_trans hB (Nat.le_of_lt hr1.lt)))
  have rz7 : rowV ((w6.setCell ⟨w.heap.size, 0, none⟩ (.string (strB x))).setCell ⟨w.heap.size, 1, none⟩ (.int .i64 (z : Int))) w.heap.size 97 #[.string (strB x), .int .i64 (z : Int)] := (rz6.set 0 _).set 1 _
  have hE : Hid (NxW B g n v2 v3 v4 v5 v6 v7 ws.tail w ((w6.setCell ⟨w.heap.size, 0, none⟩ (.string (strB x))).setCell ⟨w.heap.size, 1, none⟩ (.int .i64 (z : Int)))) :=
    ⟨A', k', c', hk1.out, (hr6.setFar (p := ⟨w.heap.size, 0, none⟩) (Ne.symm hzg) _).setFar (p := ⟨w.heap.size, 1, none⟩) (Ne.symm hzg) _, (hw6.setFar (p := ⟨w.heap.size, 0, none⟩) (by show B ≤ w.heap.size; omega) _).setFar (p := ⟨w.heap.size, 1, none⟩) (by show B ≤ w.heap.size; omega) _, grownBy.setNew (grownBy.setNew G6 (p := ⟨w.heap.size, 0, none⟩) (Nat.le_refl _) _) (p := ⟨w.heap.size, 1, none⟩) (Nat.le_refl _) _⟩
  have HZ := Lib.hid (two_cellsV rz7)
  clear e0 e1 rz7 hr6 hw6 G6
  go_wp2_with fail
  obtain ⟨z7, z8⟩ := HZ.out
  refine bodyPost_ret (v := wdV (x, z)) ?_ rfl ⟨rfl, hE.out⟩
  simp [results, wdV, Tryd.results104, go_sem, z7, z8]
set_option maxRecDepth 100000 in
set_option maxHeartbeats 4000000 in
theorem name_bad0 (B g : Nat) (A : Option Addr) (k c n : Nat) (v2 v3 v4 v5 v6 v7 : Value) (ws : List Wd) (w : World) (hr : rowV w g 73 (rdC A k c n v2 v3 v4 v5 v6 v7)) (hw : WordsM B w A k c ws) (hk : k ≤ 9000) (hB : B ≤ g)
    (x : List UInt8) (z : Nat) (hx : nextW n ws = (x, z)) (hlen : x.length ≤ 9000) (h0 : x.length = 0) :
    Calls Tryd.prog 104 #[.pointer (some ⟨g, 0, none⟩)] w fun e w' => FailsB B w z 4 e w' := by
  have hgl := hr.lt
  have rz0 := rowV.new w 97 #[.string ⟨#[]⟩, .int .i64 0]
  have hzg : w.heap.size ≠ g := by omega
  have hr0 := hr.below (balloc (Below.refl w.heap.size w) (.cells #[.string ⟨#[]⟩, .int .i64 0] 97)) hgl
  have hw0 := hw.below ((balloc (Below.refl w.heap.size w) (.cells #[.string ⟨#[]⟩, .int .i64 0] 97)).mono (by omega))
  have H1 := Lib.hid (next_any B g A k c n v2 v3 v4 v5 v6 v7 ws _ hr0 hw0 hk hB)
  rw [hx] at H1
  have hxs := strB_size' x
  have hem : (strB x).toList.isEmpty = true := by rw [strB_isEmpty]; exact decide_eq_true h0
  have HD : Hid (declB x = declB x) := rfl
  have HF : Hid (∀ W, Calls Tryd.prog 73 #[.string (strB x)] W fun e w' => e = .returned (.tuple #[.int .i64 (findN x), .bool (findL x).isSome]) ∧ Below W.heap.size W w') := fun W => by
    have := find_any x W
    exact this
  clear hr hw hr0 hw0 hx
  go_enter Tryd.func104, Tryd.ntmps104
  go_wp2_with fail
  refine H1.out.mono ?_
  rintro e w1 ⟨A', k', c', rfl, hke, hr1, hw1, hg1⟩
  have hk1 : Hid (k' ≤ 9000) := by show _ ≤ _; omega
  have rz1 := rz0.grown hg1 (fun e => hzg (by injection e))
  clear H1 hke rz0
  have r2 := rowV.new w1 97 #[.string (strB x), .int .i64 (z : Int)]
  obtain ⟨a0, a1⟩ := two_cellsV r2
  have hl2 := r2.lt
  have b12 : Below w1.heap.size w1 (w1.alloc (.cells #[.string (strB x), .int .i64 (z : Int)] 97)) := balloc (Below.refl _ _) _
  obtain ⟨w2, hw2⟩ : ∃ w2, w2 = w1.alloc (.cells #[.string (strB x), .int .i64 (z : Int)] 97) := ⟨_, rfl⟩
  rw [← hw2] at r2 a0 a1 hl2 b12
  go_wp2_with fail
  rw [← hw2]
  clear hw2
  go_region_held3 (fun W => W.cell? ⟨w1.heap.size, 0, none⟩ = some (.string (strB x)))
    (first | go_keep | exact c30)
    (first | (go_at_call 42; refine (declarations_any g _).mono ?_; rintro e w3 ⟨m, cc, rfl, hm, hb3'⟩; have hb3 : Below w2.heap.size w2 w3 := ((Drawn.drewN w2 1).below _).trans hb3'; have r3 := r2.below hb3 hl2; have c30 := (two_cellsV r3).1; obtain ⟨vd, hlk⟩ := decl_look' hm x))
  go_wp2_with fail
  refine (HF.out _).mono ?_
  rintro e w4 ⟨rfl, hb4⟩
  have rz4 := ((rz1.below b12 rz1.lt).below hb3 (rz1.below b12 rz1.lt).lt).below hb4 ((rz1.below b12 rz1.lt).below hb3 (rz1.below b12 rz1.lt).lt).lt
  have b14 : Below w1.heap.size w1 w4 := b12.trans ((hb3.mono b12.size).trans (hb4.mono (Nat.le_trans b12.size hb3.size)))
  have r4 := r3.below hb4 r3.lt
  obtain ⟨e0, e1⟩ := two_cellsV r4
  clear hlk hm hb4 hb3 hb3' r3 r2 c30 a0 a1
  go_wp2_with fail
  refine (demand_bad x z 4 _).mono ?_
  rintro e w6 ⟨rfl, hb6⟩
  have b16 := b14.trans (hb6.mono b14.size)
  have G6 : w.grownBy w6 (some g) := grownBy.below' (grownBy.trans' (World.grownBy_alloc w (.cells #[.string ⟨#[]⟩, .int .i64 0] 97) (some g)) hg1) b16
  have hE := Lib.hid (Below.ofGrown G6 hB (Nat.le_trans hB (Nat.le_of_lt hgl)))
  go_wp2_with fail
  exact ⟨rfl, rfl, hE.out⟩
set_option maxRecDepth 100000 in
set_option maxHeartbeats 4000000 in
theorem name_bad32 (B g : Nat) (A : Option Addr) (k c n : Nat) (v2 v3 v4 v5 v6 v7 : Value) (ws : List Wd) (w : World) (hr : rowV w g 73 (rdC A k c n v2 v3 v4 v5 v6 v7)) (hw : WordsM B w A k c ws) (hk : k ≤ 9000) (hB : B ≤ g)
    (x : List UInt8) (z : Nat) (hx : nextW n ws = (x, z)) (hlen : x.length ≤ 9000) (h0 : 32 < x.length) :
    Calls Tryd.prog 104 #[.pointer (some ⟨g, 0, none⟩)] w fun e w' => FailsB B w z 4 e w' := by
  have hgl := hr.lt
  have rz0 := rowV.new w 97 #[.string ⟨#[]⟩, .int .i64 0]
  have hzg : w.heap.size ≠ g := by omega
  have hr0 := hr.below (balloc (Below.refl w.heap.size w) (.cells #[.string ⟨#[]⟩, .int .i64 0] 97)) hgl
  have hw0 := hw.below ((balloc (Below.refl w.heap.size w) (.cells #[.string ⟨#[]⟩, .int .i64 0] 97)).mono (by omega))
  have H1 := Lib.hid (next_any B g A k c n v2 v3 v4 v5 v6 v7 ws _ hr0 hw0 hk hB)
  rw [hx] at H1
  have hxs := strB_size' x
  have hem : (strB x).toList.isEmpty = false := by rw [strB_isEmpty]; exact decide_eq_false (by omega)
  have d32 : decide ((x.length : Int) ≤ 32) = false := by simp; omega
  have d32' : decide (x.length ≤ 32) = false := by simp; omega
  have HD : Hid (declB x = declB x) := rfl
  have HF : Hid (∀ W, Calls Tryd.prog 73 #[.string (strB x)] W fun e w' => e = .returned (.tuple #[.int .i64 (findN x), .bool (findL x).isSome]) ∧ Below W.heap.size W w') := fun W => by
    have := find_any x W
    exact this
  clear hr hw hr0 hw0 hx
  go_enter Tryd.func104, Tryd.ntmps104
  go_wp2_with fail
  refine H1.out.mono ?_
  rintro e w1 ⟨A', k', c', rfl, hke, hr1, hw1, hg1⟩
  have hk1 : Hid (k' ≤ 9000) := by show _ ≤ _; omega
  have rz1 := rz0.grown hg1 (fun e => hzg (by injection e))
  clear H1 hke rz0
  have r2 := rowV.new w1 97 #[.string (strB x), .int .i64 (z : Int)]
  obtain ⟨a0, a1⟩ := two_cellsV r2
  have hl2 := r2.lt
  have b12 : Below w1.heap.size w1 (w1.alloc (.cells #[.string (strB x), .int .i64 (z : Int)] 97)) := balloc (Below.refl _ _) _
  obtain ⟨w2, hw2⟩ : ∃ w2, w2 = w1.alloc (.cells #[.string (strB x), .int .i64 (z : Int)] 97) := ⟨_, rfl⟩
  rw [← hw2] at r2 a0 a1 hl2 b12
  go_wp2_with fail
  rw [← hw2]
  clear hw2
  go_region_held3 (fun W => W.cell? ⟨w1.heap.size, 0, none⟩ = some (.string (strB x)))
    (first | go_keep | exact c30)
    (first | (go_at_call 42; refine (declarations_any g _).mono ?_; rintro e w3 ⟨m, cc, rfl, hm, hb3'⟩; have hb3 : Below w2.heap.size w2 w3 := ((Drawn.drewN w2 1).below _).trans hb3'; have r3 := r2.below hb3 hl2; have c30 := (two_cellsV r3).1; obtain ⟨vd, hlk⟩ := decl_look' hm x))
  go_wp2_with fail
  refine (HF.out _).mono ?_
  rintro e w4 ⟨rfl, hb4⟩
  have rz4 := ((rz1.below b12 rz1.lt).below hb3 (rz1.below b12 rz1.lt).lt).below hb4 ((rz1.below b12 rz1.lt).below hb3 (rz1.below b12 rz1.lt).lt).lt
  have b14 : Below w1.heap.size w1 w4 := b12.trans ((hb3.mono b12.size).trans (hb4.mono (Nat.le_trans b12.size hb3.size)))
  have r4 := r3.below hb4 r3.lt
  obtain ⟨e0, e1⟩ := two_cellsV r4
  clear hlk hm hb4 hb3 hb3' r3 r2 c30 a0 a1
  go_wp2_with fail
  refine (demand_bad x z 4 _).mono ?_
  rintro e w6 ⟨rfl, hb6⟩
  have b16 := b14.trans (hb6.mono b14.size)
  have G6 : w.grownBy w6 (some g) := grownBy.below' (grownBy.trans' (World.grownBy_alloc w (.cells #[.string ⟨#[]⟩, .int .i64 0] 97) (some g)) hg1) b16
  have hE := Lib.hid (Below.ofGrown G6 hB (Nat.le_trans hB (Nat.le_of_lt hgl)))
  go_wp2_with fail
  exact ⟨rfl, rfl, hE.out⟩
set_option maxRecDepth 100000 in
set_option maxHeartbeats 4000000 in
theorem name_bad1 (B g : Nat) (A : Option Addr) (k c n : Nat) (v2 v3 v4 v5 v6 v7 : Value) (ws : List Wd) (w : World) (hr : rowV w g 73 (rdC A k c n v2 v3 v4 v5 v6 v7)) (hw : WordsM B w A k c ws) (hk : k ≤ 9000) (hB : B ≤ g)
    (x : List UInt8) (z : Nat) (hx : nextW n ws = (x, z)) (hlen : x.length ≤ 9000) (h0 : 0 < x.length) (h32 : x.length ≤ 32) (ho1 : onlyL (x.take 1) lettS = false) :
    Calls Tryd.prog 104 #[.pointer (some ⟨g, 0, none⟩)] w fun e w' => FailsB B w z 4 e w' := by
  have hgl := hr.lt
  have rz0 := rowV.new w 97 #[.string ⟨#[]⟩, .int .i64 0]
  have hzg : w.heap.size ≠ g := by omega
  have hr0 := hr.below (balloc (Below.refl w.heap.size w) (.cells #[.string ⟨#[]⟩, .int .i64 0] 97)) hgl
  have hw0 := hw.below ((balloc (Below.refl w.heap.size w) (.cells #[.string ⟨#[]⟩, .int .i64 0] 97)).mono (by omega))
  have H1 := Lib.hid (next_any B g A k c n v2 v3 v4 v5 v6 v7 ws _ hr0 hw0 hk hB)
  rw [hx] at H1
  have hxs := strB_size' x
  have hem : (strB x).toList.isEmpty = false := by rw [strB_isEmpty]; exact decide_eq_false (by omega)
  have d32 : decide ((x.length : Int) ≤ 32) = true := by simp; omega
  have d32' : decide (x.length ≤ 32) = true := by simp; omega
  have hc1 : ∀ W : World, (Instr.slice 9 (.string (strB x)) none (some (.int .i64 1)) none).run Tryd.prog W = .ok (.string (strB (x.take 1))) W := fun W => by
    rw [run_slice_string_h W 9 (strB x) uS .i64 1 (by omega) (by rw [strB_size']; omega), strB_extract]
    rfl
  have HO1 : ∀ W, Calls Tryd.prog 119 #[.string (strB (x.take 1)), .string ⟨#[97, 98, 99, 100, 101, 102, 103, 104, 105, 106, 107, 108, 109, 110, 111, 112, 113, 114, 115, 116, 117, 118, 119, 120, 121, 122]⟩] W fun e w' => e = .returned (.bool false) ∧ w' = W := fun W => by
    have := only_any (x.take 1) lettS W (by rw [List.length_take]; omega)
    rw [ho1] at this; exact this
  have HO1' := Lib.hid HO1
  clear HO1 ho1
  have HD : Hid (declB x = declB x) := rfl
  have HF : Hid (∀ W, Calls Tryd.prog 73 #[.string (strB x)] W fun e w' => e = .returned (.tuple #[.int .i64 (findN x), .bool (findL x).isSome]) ∧ Below W.heap.size W w') := fun W => by
    have := find_any x W
    exact this
  clear hr hw hr0 hw0 hx
  go_enter Tryd.func104, Tryd.ntmps104
  go_wp2_with fail
  refine H1.out.mono ?_
  rintro e w1 ⟨A', k', c', rfl, hke, hr1, hw1, hg1⟩
  have hk1 : Hid (k' ≤ 9000) := by show _ ≤ _; omega
  have rz1 := rz0.grown hg1 (fun e => hzg (by injection e))
  clear H1 hke rz0
  have r2 := rowV.new w1 97 #[.string (strB x), .int .i64 (z : Int)]
  obtain ⟨a0, a1⟩ := two_cellsV r2
  have hl2 := r2.lt
  have b12 : Below w1.heap.size w1 (w1.alloc (.cells #[.string (strB x), .int .i64 (z : Int)] 97)) := balloc (Below.refl _ _) _
  obtain ⟨w2, hw2⟩ : ∃ w2, w2 = w1.alloc (.cells #[.string (strB x), .int .i64 (z : Int)] 97) := ⟨_, rfl⟩
  rw [← hw2] at r2 a0 a1 hl2 b12
  go_wp2_with fail
  rw [← hw2]
  clear hw2
  go_region_held3 (fun W => W.cell? ⟨w1.heap.size, 0, none⟩ = some (.string (strB x)))
    (first | go_keep | exact c30)
    (first | (go_at_call 42; refine (declarations_any g _).mono ?_; rintro e w3 ⟨m, cc, rfl, hm, hb3'⟩; have hb3 : Below w2.heap.size w2 w3 := ((Drawn.drewN w2 1).below _).trans hb3'; have r3 := r2.below hb3 hl2; have c30 := (two_cellsV r3).1; obtain ⟨vd, hlk⟩ := decl_look' hm x))
  go_wp2_with fail
  refine (HF.out _).mono ?_
  rintro e w4 ⟨rfl, hb4⟩
  have rz4 := ((rz1.below b12 rz1.lt).below hb3 (rz1.below b12 rz1.lt).lt).below hb4 ((rz1.below b12 rz1.lt).below hb3 (rz1.below b12 rz1.lt).lt).lt
  have b14 : Below w1.heap.size w1 w4 := b12.trans ((hb3.mono b12.size).trans (hb4.mono (Nat.le_trans b12.size hb3.size)))
  have r4 := r3.below hb4 r3.lt
  obtain ⟨e0, e1⟩ := two_cellsV r4
  clear hlk hm hb4 hb3 hb3' r3 r2 c30 a0 a1
  go_wp2_with fail
  refine (HO1'.out _).mono ?_
  rintro e w5 ⟨rfl, hw5⟩
  obtain rfl : w4 = w5 := hw5.symm
  go_wp2_with fail
  refine (demand_bad x z 4 _).mono ?_
  rintro e w6 ⟨rfl, hb6⟩
  have b16 := b14.trans (hb6.mono b14.size)
  have G6 : w.grownBy w6 (some g) := grownBy.below' (grownBy.trans' (World.grownBy_alloc w (.cells #[.string ⟨#[]⟩, .int .i64 0] 97) (some g)) hg1) b16
  have hE := Lib.hid (Below.ofGrown G6 hB (Nat.le_trans hB (Nat.le_of_lt hgl)))
  go_wp2_with fail
  exact ⟨rfl, rfl, hE.out⟩
set_option maxRecDepth 100000 in
set_option maxHeartbeats 4000000 in
theorem name_bad2 (B g : Nat) (A : Option Addr) (k c n : Nat) (v2 v3 v4 v5 v6 v7 : Value) (ws : List Wd) (w : World) (hr : rowV w g 73 (rdC A k c n v2 v3 v4 v5 v6 v7)) (hw : WordsM B w A k c ws) (hk : k ≤ 9000) (hB : B ≤ g)
    (x : List UInt8) (z : Nat) (hx : nextW n ws = (x, z)) (hlen : x.length ≤ 9000) (h0 : 0 < x.length) (h32 : x.length ≤ 32) (ho1 : onlyL (x.take 1) lettS = true) (ho2 : onlyL x nameS = false) :
    Calls Tryd.prog 104 #[.pointer (some ⟨g, 0, none⟩)] w fun e w' => FailsB B w z 4 e w' := by
  have hgl := hr.lt
  have rz0 := rowV.new w 97 #[.string ⟨#[]⟩, .int .i64 0]
  have hzg : w.heap.size ≠ g := by omega
  have hr0 := hr.below (balloc (Below.refl w.heap.size w) (.cells #[.string ⟨#[]⟩, .int .i64 0] 97)) hgl
  have hw0 := hw.below ((balloc (Below.refl w.heap.size w) (.cells #[.string ⟨#[]⟩, .int .i64 0] 97)).mono (by omega))
  have H1 := Lib.hid (next_any B g A k c n v2 v3 v4 v5 v6 v7 ws _ hr0 hw0 hk hB)
  rw [hx] at H1
  have hxs := strB_size' x
  have hem : (strB x).toList.isEmpty = false := by rw [strB_isEmpty]; exact decide_eq_false (by omega)
  have d32 : decide ((x.length : Int) ≤ 32) = true := by simp; omega
  have d32' : decide (x.length ≤ 32) = true := by simp; omega
  have hc1 : ∀ W : World, (Instr.slice 9 (.string (strB x)) none (some (.int .i64 1)) none).run Tryd.prog W = .ok (.string (strB (x.take 1))) W := fun W => by
    rw [run_slice_string_h W 9 (strB x) uS .i64 1 (by omega) (by rw [strB_size']; omega), strB_extract]
    rfl
  have HO1 : ∀ W, Calls Tryd.prog 119 #[.string (strB (x.take 1)), .string ⟨#[97, 98, 99, 100, 101, 102, 103, 104, 105, 106, 107, 108, 109, 110, 111, 112, 113, 114, 115, 116, 117, 118, 119, 120, 121, 122]⟩] W fun e w' => e = .returned (.bool true) ∧ w' = W := fun W => by
    have := only_any (x.take 1) lettS W (by rw [List.length_take]; omega)
    rw [ho1] at this; exact this
  have HO1' := Lib.hid HO1
  clear HO1 ho1
  have HO2 : ∀ W, Calls Tryd.prog 119 #[.string (strB x), .string ⟨#[97, 98, 99, 100, 101, 102, 103, 104, 105, 106, 107, 108, 109, 110, 111, 112, 113, 114, 115, 116, 117, 118, 119, 120, 121, 122, 48, 49, 50, 51, 52, 53, 54, 55, 56, 57, 95]⟩] W fun e w' => e = .returned (.bool false) ∧ w' = W := fun W => by
    have := only_any x nameS W (by omega)
    rw [ho2] at this; exact this
  have HO2' := Lib.hid HO2
  clear HO2 ho2
  have HD : Hid (declB x = declB x) := rfl
  have HF : Hid (∀ W, Calls Tryd.prog 73 #[.string (strB x)] W fun e w' => e = .returned (.tuple #[.int .i64 (findN x), .bool (findL x).isSome]) ∧ Below W.heap.size W w') := fun W => by
    have := find_any x W
    exact this
  clear hr hw hr0 hw0 hx
  go_enter Tryd.func104, Tryd.ntmps104
  go_wp2_with fail
  refine H1.out.mono ?_
  rintro e w1 ⟨A', k', c', rfl, hke, hr1, hw1, hg1⟩
  have hk1 : Hid (k' ≤ 9000) := by show _ ≤ _; omega
  have rz1 := rz0.grown hg1 (fun e => hzg (by injection e))
  clear H1 hke rz0
  have r2 := rowV.new w1 97 #[.string (strB x), .int .i64 (z : Int)]
  obtain ⟨a0, a1⟩ := two_cellsV r2
  have hl2 := r2.lt
  have b12 : Below w1.heap.size w1 (w1.alloc (.cells #[.string (strB x), .int .i64 (z : Int)] 97)) := balloc (Below.refl _ _) _
  obtain ⟨w2, hw2⟩ : ∃ w2, w2 = w1.alloc (.cells #[.string (strB x), .int .i64 (z : Int)] 97) := ⟨_, rfl⟩
  rw [← hw2] at r2 a0 a1 hl2 b12
  go_wp2_with fail
  rw [← hw2]
  clear hw2
  go_region_held3 (fun W => W.cell? ⟨w1.heap.size, 0, none⟩ = some (.string (strB x)))
    (first | go_keep | exact c30)
    (first | (go_at_call 42; refine (declarations_any g _).mono ?_; rintro e w3 ⟨m, cc, rfl, hm, hb3'⟩; have hb3 : Below w2.heap.size w2 w3 := ((Drawn.drewN w2 1).below _).trans hb3'; have r3 := r2.below hb3 hl2; have c30 := (two_cellsV r3).1; obtain ⟨vd, hlk⟩ := decl_look' hm x))
  go_wp2_with fail
  refine (HF.out _).mono ?_
  rintro e w4 ⟨rfl, hb4⟩
  have rz4 := ((rz1.below b12 rz1.lt).below hb3 (rz1.below b12 rz1.lt).lt).below hb4 ((rz1.below b12 rz1.lt).below hb3 (rz1.below b12 rz1.lt).lt).lt
  have b14 : Below w1.heap.size w1 w4 := b12.trans ((hb3.mono b12.size).trans (hb4.mono (Nat.le_trans b12.size hb3.size)))
  have r4 := r3.below hb4 r3.lt
  obtain ⟨e0, e1⟩ := two_cellsV r4
  clear hlk hm hb4 hb3 hb3' r3 r2 c30 a0 a1
  go_wp2_with fail
  refine (HO1'.out _).mono ?_
  rintro e w5 ⟨rfl, hw5⟩
  obtain rfl : w4 = w5 := hw5.symm
  go_wp2_with fail
  refine (HO2'.out _).mono ?_
  rintro e w5 ⟨rfl, hw5⟩
  obtain rfl : w4 = w5 := hw5.symm
  go_wp2_with fail
  refine (demand_bad x z 4 _).mono ?_
  rintro e w6 ⟨rfl, hb6⟩
  have b16 := b14.trans (hb6.mono b14.size)
  have G6 : w.grownBy w6 (some g) := grownBy.below' (grownBy.trans' (World.grownBy_alloc w (.cells #[.string ⟨#[]⟩, .int .i64 0] 97) (some g)) hg1) b16
  have hE := Lib.hid (Below.ofGrown G6 hB (Nat.le_trans hB (Nat.le_of_lt hgl)))
  go_wp2_with fail
  exact ⟨rfl, rfl, hE.out⟩
set_option maxRecDepth 100000 in
set_option maxHeartbeats 4000000 in
theorem name_badD (B g : Nat) (A : Option Addr) (k c n : Nat) (v2 v3 v4 v5 v6 v7 : Value) (ws : List Wd) (w : World) (hr : rowV w g 73 (rdC A k c n v2 v3 v4 v5 v6 v7)) (hw : WordsM B w A k c ws) (hk : k ≤ 9000) (hB : B ≤ g)
    (x : List UInt8) (z : Nat) (hx : nextW n ws = (x, z)) (hlen : x.length ≤ 9000) (h0 : 0 < x.length) (h32 : x.length ≤ 32) (ho1 : onlyL (x.take 1) lettS = true) (ho2 : onlyL x nameS = true) (hd : declB x = true) :
    Calls Tryd.prog 104 #[.pointer (some ⟨g, 0, none⟩)] w fun e w' => FailsB B w z 4 e w' := by
  have hgl := hr.lt
  have rz0 := rowV.new w 97 #[.string ⟨#[]⟩, .int .i64 0]
  have hzg : w.heap.size ≠ g := by omega
  have hr0 := hr.below (balloc (Below.refl w.heap.size w) (.cells #[.string ⟨#[]⟩, .int .i64 0] 97)) hgl
  have hw0 := hw.below ((balloc (Below.refl w.heap.size w) (.cells #[.string ⟨#[]⟩, .int .i64 0] 97)).mono (by omega))
  have H1 := Lib.hid (next_any B g A k c n v2 v3 v4 v5 v6 v7 ws _ hr0 hw0 hk hB)
  rw [hx] at H1
  have hxs := strB_size' x
  have hem : (strB x).toList.isEmpty = false := by rw [strB_isEmpty]; exact decide_eq_false (by omega)
  have d32 : decide ((x.length : Int) ≤ 32) = true := by simp; omega
  have d32' : decide (x.length ≤ 32) = true := by simp; omega
  have hc1 : ∀ W : World, (Instr.slice 9 (.string (strB x)) none (some (.int .i64 1)) none).run Tryd.prog W = .ok (.string (strB (x.take 1))) W := fun W => by
    rw [run_slice_string_h W 9 (strB x) uS .i64 1 (by omega) (by rw [strB_size']; omega), strB_extract]
    rfl
  have HO1 : ∀ W, Calls Tryd.prog 119 #[.string (strB (x.take 1)), .string ⟨#[97, 98, 99, 100, 101, 102, 103, 104, 105, 106, 107, 108, 109, 110, 111, 112, 113, 114, 115, 116, 117, 118, 119, 120, 121, 122]⟩] W fun e w' => e = .returned (.bool true) ∧ w' = W := fun W => by
    have := only_any (x.take 1) lettS W (by rw [List.length_take]; omega)
    rw [ho1] at this; exact this
  have HO1' := Lib.hid HO1
  clear HO1 ho1
  have HO2 : ∀ W, Calls Tryd.prog 119 #[.string (strB x), .string ⟨#[97, 98, 99, 100, 101, 102, 103, 104, 105, 106, 107, 108, 109, 110, 111, 112, 113, 114, 115, 116, 117, 118, 119, 120, 121, 122, 48, 49, 50, 51, 52, 53, 54, 55, 56, 57, 95]⟩] W fun e w' => e = .returned (.bool true) ∧ w' = W := fun W => by
    have := only_any x nameS W (by omega)
    rw [ho2] at this; exact this
  have HO2' := Lib.hid HO2
  clear HO2 ho2
  have HD : Hid (declB x = true) := hd
  have HF : Hid (∀ W, Calls Tryd.prog 73 #[.string (strB x)] W fun e w' => e = .returned (.tuple #[.int .i64 (findN x), .bool (findL x).isSome]) ∧ Below W.heap.size W w') := fun W => by
    have := find_any x W
    exact this
  clear hr hw hr0 hw0 hx hd
  go_enter Tryd.func104, Tryd.ntmps104
  go_wp2_with fail
  refine H1.out.mono ?_
  rintro e w1 ⟨A', k', c', rfl, hke, hr1, hw1, hg1⟩
  have hk1 : Hid (k' ≤ 9000) := by show _ ≤ _; omega
  have rz1 := rz0.grown hg1 (fun e => hzg (by injection e))
  clear H1 hke rz0
  have r2 := rowV.new w1 97 #[.string (strB x), .int .i64 (z : Int)]
  obtain ⟨a0, a1⟩ := two_cellsV r2
  have hl2 := r2.lt
  have b12 : Below w1.heap.size w1 (w1.alloc (.cells #[.string (strB x), .int .i64 (z : Int)] 97)) := balloc (Below.refl _ _) _
  obtain ⟨w2, hw2⟩ : ∃ w2, w2 = w1.alloc (.cells #[.string (strB x), .int .i64 (z : Int)] 97) := ⟨_, rfl⟩
  rw [← hw2] at r2 a0 a1 hl2 b12
  go_wp2_with fail
  rw [← hw2]
  clear hw2
  go_region_held3 (fun W => W.cell? ⟨w1.heap.size, 0, none⟩ = some (.string (strB x)))
    (first | go_keep | exact c30)
    (first | (go_at_call 42; refine (declarations_any g _).mono ?_; rintro e w3 ⟨m, cc, rfl, hm, hb3'⟩; have hb3 : Below w2.heap.size w2 w3 := ((Drawn.drewN w2 1).below _).trans hb3'; have r3 := r2.below hb3 hl2; have c30 := (two_cellsV r3).1; obtain ⟨vd, hlk⟩ := decl_look' hm x; rw [HD.out] at hlk))
  go_wp2_with fail
  refine (HF.out _).mono ?_
  rintro e w4 ⟨rfl, hb4⟩
  have rz4 := ((rz1.below b12 rz1.lt).below hb3 (rz1.below b12 rz1.lt).lt).below hb4 ((rz1.below b12 rz1.lt).below hb3 (rz1.below b12 rz1.lt).lt).lt
  have b14 : Below w1.heap.size w1 w4 := b12.trans ((hb3.mono b12.size).trans (hb4.mono (Nat.le_trans b12.size hb3.size)))
  have r4 := r3.below hb4 r3.lt
  obtain ⟨e0, e1⟩ := two_cellsV r4
  clear hlk hm hb4 hb3 hb3' r3 r2 c30 a0 a1
  go_wp2_with fail
  refine (HO1'.out _).mono ?_
  rintro e w5 ⟨rfl, hw5⟩
  obtain rfl : w4 = w5 := hw5.symm
  go_wp2_with fail
  refine (HO2'.out _).mono ?_
  rintro e w5 ⟨rfl, hw5⟩
  obtain rfl : w4 = w5 := hw5.symm
  go_wp2_with fail
  refine (demand_bad x z 4 _).mono ?_
  rintro e w6 ⟨rfl, hb6⟩
  have b16 := b14.trans (hb6.mono b14.size)
  have G6 : w.grownBy w6 (some g) := grownBy.below' (grownBy.trans' (World.grownBy_alloc w (.cells #[.string ⟨#[]⟩, .int .i64 0] 97) (some g)) hg1) b16
  have hE := Lib.hid (Below.ofGrown G6 hB (Nat.le_trans hB (Nat.le_of_lt hgl)))
  go_wp2_with fail
  exact ⟨rfl, rfl, hE.out⟩
set_option maxRecDepth 100000 in
set_option maxHeartbeats 4000000 in
theorem name_badF (B g : Nat) (A : Option Addr) (k c n : Nat) (v2 v3 v4 v5 v6 v7 : Value) (ws : List Wd) (w : World) (hr : rowV w g 73 (rdC A k c n v2 v3 v4 v5 v6 v7)) (hw : WordsM B w A k c ws) (hk : k ≤ 9000) (hB : B ≤ g)
    (x : List UInt8) (z : Nat) (hx : nextW n ws = (x, z)) (hlen : x.length ≤ 9000) (h0 : 0 < x.length) (h32 : x.length ≤ 32) (ho1 : onlyL (x.take 1) lettS = true) (ho2 : onlyL x nameS = true) (hd : declB x = false) (hf : (findL x).isSome = true) :
    Calls Tryd.prog 104 #[.pointer (some ⟨g, 0, none⟩)] w fun e w' => FailsB B w z 4 e w' := by
  have hgl := hr.lt
  have rz0 := rowV.new w 97 #[.string ⟨#[]⟩, .int .i64 0]
  have hzg : w.heap.size ≠ g := by omega
  have hr0 := hr.below (balloc (Below.refl w.heap.size w) (.cells #[.string ⟨#[]⟩, .int .i64 0] 97)) hgl
  have hw0 := hw.below ((balloc (Below.refl w.heap.size w) (.cells #[.string ⟨#[]⟩, .int .i64 0] 97)).mono (by omega))
  have H1 := Lib.hid (next_any B g A k c n v2 v3 v4 v5 v6 v7 ws _ hr0 hw0 hk hB)
  rw [hx] at H1
  have hxs := strB_size' x
  have hem : (strB x).toList.isEmpty = false := by rw [strB_isEmpty]; exact decide_eq_false (by omega)
  have d32 : decide ((x.length : Int) ≤ 32) = true := by simp; omega
  have d32' : decide (x.length ≤ 32) = true := by simp; omega
  have hc1 : ∀ W : World, (Instr.slice 9 (.string (strB x)) none (some (.int .i64 1)) none).run Tryd.prog W = .ok (.string (strB (x.take 1))) W := fun W => by
    rw [run_slice_string_h W 9 (strB x) uS .i64 1 (by omega) (by rw [strB_size']; omega), strB_extract]
    rfl
  have HO1 : ∀ W, Calls Tryd.prog 119 #[.string (strB (x.take 1)), .string ⟨#[97, 98, 99, 100, 101, 102, 103, 104, 105, 106, 107, 108, 109, 110, 111, 112, 113, 114, 115, 116, 117, 118, 119, 120, 121, 122]⟩] W fun e w' => e = .returned (.bool true) ∧ w' = W := fun W => by
    have := only_any (x.take 1) lettS W (by rw [List.length_take]; omega)
    rw [ho1] at this; exact this
  have HO1' := Lib.hid HO1
  clear HO1 ho1
  have HO2 : ∀ W, Calls Tryd.prog 119 #[.string (strB x), .string ⟨#[97, 98, 99, 100, 101, 102, 103, 104, 105, 106, 107, 108, 109, 110, 111, 112, 113, 114, 115, 116, 117, 118, 119, 120, 121, 122, 48, 49, 50, 51, 52, 53, 54, 55, 56, 57, 95]⟩] W fun e w' => e = .returned (.bool true) ∧ w' = W := fun W => by
    have := only_any x nameS W (by omega)
    rw [ho2] at this; exact this
  have HO2' := Lib.hid HO2
  clear HO2 ho2
  have HD : Hid (declB x = false) := hd
  have HF : Hid (∀ W, Calls Tryd.prog 73 #[.string (strB x)] W fun e w' => e = .returned (.tuple #[.int .i64 (findN x), .bool true]) ∧ Below W.heap.size W w') := fun W => by
    have := find_any x W
    rw [hf] at this; exact this
  clear hr hw hr0 hw0 hx hd hf
  go_enter Tryd.func104, Tryd.ntmps104
  go_wp2_with fail
  refine H1.out.mono ?_
  rintro e w1 ⟨A', k', c', rfl, hke, hr1, hw1, hg1⟩
  have hk1 : Hid (k' ≤ 9000) := by show _ ≤ _; omega
  have rz1 := rz0.grown hg1 (fun e => hzg (by injection e))
  clear H1 hke rz0
  have r2 := rowV.new w1 97 #[.string (strB x), .int .i64 (z : Int)]
  obtain ⟨a0, a1⟩ := two_cellsV r2
  have hl2 := r2.lt
  have b12 : Below w1.heap.size w1 (w1.alloc (.cells #[.string (strB x), .int .i64 (z : Int)] 97)) := balloc (Below.refl _ _) _
  obtain ⟨w2, hw2⟩ : ∃ w2, w2 = w1.alloc (.cells #[.string (strB x), .int .i64 (z : Int)] 97) := ⟨_, rfl⟩
  rw [← hw2] at r2 a0 a1 hl2 b12
  go_wp2_with fail
  rw [← hw2]
  clear hw2
  go_region_held3 (fun W => W.cell? ⟨w1.heap.size, 0, none⟩ = some (.string (strB x)))
    (first | go_keep | exact c30)
    (first | (go_at_call 42; refine (declarations_any g _).mono ?_; rintro e w3 ⟨m, cc, rfl, hm, hb3'⟩; have hb3 : Below w2.heap.size w2 w3 := ((Drawn.drewN w2 1).below _).trans hb3'; have r3 := r2.below hb3 hl2; have c30 := (two_cellsV r3).1; obtain ⟨vd, hlk⟩ := decl_look' hm x; rw [HD.out] at hlk))
  go_wp2_with fail
  refine (HF.out _).mono ?_
  rintro e w4 ⟨rfl, hb4⟩
  have rz4 := ((rz1.below b12 rz1.lt).below hb3 (rz1.below b12 rz1.lt).lt).below hb4 ((rz1.below b12 rz1.lt).below hb3 (rz1.below b12 rz1.lt).lt).lt
  have b14 : Below w1.heap.size w1 w4 := b12.trans ((hb3.mono b12.size).trans (hb4.mono (Nat.le_trans b12.size hb3.size)))
  have r4 := r3.below hb4 r3.lt
  obtain ⟨e0, e1⟩ := two_cellsV r4
  clear hlk hm hb4 hb3 hb3' r3 r2 c30 a0 a1
  go_wp2_with fail
  refine (HO1'.out _).mono ?_
  rintro e w5 ⟨rfl, hw5⟩
  obtain rfl : w4 = w5 := hw5.symm
  go_wp2_with fail
  refine (HO2'.out _).mono ?_
  rintro e w5 ⟨rfl, hw5⟩
  obtain rfl : w4 = w5 := hw5.symm
  go_wp2_with fail
  refine (demand_bad x z 4 _).mono ?_
  rintro e w6 ⟨rfl, hb6⟩
  have b16 := b14.trans (hb6.mono b14.size)
  have G6 : w.grownBy w6 (some g) := grownBy.below' (grownBy.trans' (World.grownBy_alloc w (.cells #[.string ⟨#[]⟩, .int .i64 0] 97) (some g)) hg1) b16
  have hE := Lib.hid (Below.ofGrown G6 hB (Nat.le_trans hB (Nat.le_of_lt hgl)))
  go_wp2_with fail
  exact ⟨rfl, rfl, hE.out⟩
/-- name reads a name, or leaves with ErrSyntax. -/
theorem asmName_ok (B g : Nat) (A : Option Addr) (k c n : Nat) (v2 v3 v4 v5 v6 v7 : Value) (ws : List Wd) (w : World) (hr : rowV w g 73 (rdC A k c n v2 v3 v4 v5 v6 v7)) (hw : WordsM B w A k c ws) (hk : k ≤ 9000) (hB : B ≤ g) (hN : nameL (nextW n ws).1 = true) :
    Calls Tryd.prog 104 #[.pointer (some ⟨g, 0, none⟩)] w fun e w' => e = .returned (wdV (nextW n ws)) ∧ NxW B g n v2 v3 v4 v5 v6 v7 ws.tail w w' := by
  have hl := next_len hw (n := n)
  obtain ⟨x, z, hx⟩ : ∃ x z, nextW n ws = (x, z) := ⟨_, _, rfl⟩
  rw [hx] at hN hl ⊢
  dsimp only at hN hl
  have h0 : 0 < x.length := by
    rcases x with _ | ⟨b, t⟩
    · rw [nameL_nil] at hN; cases hN
    · simp
  rw [nameL_eq h0] at hN
  simp only [Bool.and_eq_true, decide_eq_true_eq, Bool.not_eq_true'] at hN
  obtain ⟨⟨⟨⟨q1, q2⟩, q3⟩, q4⟩, q5⟩ := hN
  exact name_good B g A k c n v2 v3 v4 v5 v6 v7 ws w hr hw hk hB x z hx hl h0 q1 q2 q3 q4 q5
theorem asmName_bad (B g : Nat) (A : Option Addr) (k c n : Nat) (v2 v3 v4 v5 v6 v7 : Value) (ws : List Wd) (w : World) (hr : rowV w g 73 (rdC A k c n v2 v3 v4 v5 v6 v7)) (hw : WordsM B w A k c ws) (hk : k ≤ 9000) (hB : B ≤ g) (hN : nameL (nextW n ws).1 = false) :
    Calls Tryd.prog 104 #[.pointer (some ⟨g, 0, none⟩)] w fun e w' => FailsB B w ((nextW n ws).2 : Int) 4 e w' := by
  have hl := next_len hw (n := n)
  obtain ⟨x, z, hx⟩ : ∃ x z, nextW n ws = (x, z) := ⟨_, _, rfl⟩
  rw [hx] at hN hl ⊢
  dsimp only at hN hl ⊢
  by_cases h0 : x.length = 0
  · exact name_bad0 B g A k c n v2 v3 v4 v5 v6 v7 ws w hr hw hk hB x z hx hl h0
  have h0 : 0 < x.length := by omega
  rw [nameL_eq h0] at hN
  by_cases q1 : x.length ≤ 32
  · cases q2 : onlyL (x.take 1) lettS with
    | false => exact name_bad1 B g A k c n v2 v3 v4 v5 v6 v7 ws w hr hw hk hB x z hx hl h0 q1 q2
    | true =>
      cases q3 : onlyL x nameS with
      | false => exact name_bad2 B g A k c n v2 v3 v4 v5 v6 v7 ws w hr hw hk hB x z hx hl h0 q1 q2 q3
      | true =>
        cases q4 : declB x with
        | true => exact name_badD B g A k c n v2 v3 v4 v5 v6 v7 ws w hr hw hk hB x z hx hl h0 q1 q2 q3 q4
        | false =>
          cases q5 : (findL x).isSome with
          | true => exact name_badF B g A k c n v2 v3 v4 v5 v6 v7 ws w hr hw hk hB x z hx hl h0 q1 q2 q3 q4 q5
          | false =>
            rw [decide_eq_true q1, q2, q3, q4, q5] at hN
            cases hN
  · exact name_bad32 B g A k c n v2 v3 v4 v5 v6 v7 ws w hr hw hk hB x z hx hl (by omega)
end Go.Proofs.YtlbhggjkcfcobaaDoor

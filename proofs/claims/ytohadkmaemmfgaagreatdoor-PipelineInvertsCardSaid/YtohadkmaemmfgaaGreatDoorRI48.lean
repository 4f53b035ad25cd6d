/- Ul Um Pi. -/
import Derived.Test.YtohadkmaemmfgaaGreatDoorRI41
import Derived.Test.YtohadkmaemmfgaaGreatDoorRI43
import Derived.Test.YtohadkmaemmfgaaGreatDoorRI44
import Derived.Test.YtohadkmaemmfgaaGreatDoorRI45
import Derived.Test.YtohadkmaemmfgaaGreatDoorRI47
import Derived.Test.YtohadkmaemmfgaaGreatDoorRI40
import Derived.Test.YtohadkmaemmfgaaGreatDoorRI05
import Derived.Test.YtohadkmaemmfgaaGreatDoorRI42
set_option maxRecDepth 100000
set_option maxHeartbeats 4000000
namespace Go.Proofs.YtohadkmaemmfgaaGreatDoor
open Go.RowKit Go.Proofs
set_option linter.unusedVariables false
set_option linter.unusedSimpArgs false
theorem rapI0 (A : Option Addr) (n c : Nat) (wd : Int) (bs : List UInt8) (w : World) (hx : Bytes w A n c bs) (hn : n ≤ 1000000) :
    Calls Tryz.prog 20 #[.int .i64 0, .int .i64 wd, .slice A n c, .bool true] w (RetBytes w (trI 0 wd bs).1 (trI 0 wd bs).2) := by
  show Calls _ _ _ w (RetBytes w bs 0)
  have hb0 : Below w.heap.size w (w.alloc (.cells #[] 5)) := (Below.refl _ _).alloc (Nat.le_refl _) _
  have hx1 := hx.below hb0
  have HX1 := Lib.hid hx1
  have HB0 := Lib.hid hb0
  have m1 : Hid (0 + n ≤ maxLen ∧ (0 + n) * 1 ≤ 140737488355328) := ⟨by simp [maxLen]; omega, by omega⟩
  have hB : Hid (w.heap.size ≤ (w.alloc (.cells #[] 5)).heap.size) := hb0.size
  clear hx hx1 hb0
  go_enter Tryz.func20, Tryz.ntmps20
  go_wp2_with (at_builtin; refine wpList_app (enc := encB) rfl (.tmp 103) (.tmp 104) rfl uB infoB encB_one rfl rfl (own_empty w _) hB.out A n c bs 0 HX1.out.1 HX1.out.2.2 rfl m1.out.1 m1.out.2 ?_; intro A6 c6 W6 ho6 hb6 hg6)
  rw [List.nil_append, Nat.zero_add] at ho6
  have HF := Lib.hid (And.intro ho6.bytesB (HB0.out.trans hb6))
  clear ho6 hb6 hg6
  go_wp2_with fail
  go_ret2
  exact ⟨_, _, _, rfl, HF.out.1, HF.out.2⟩
theorem rapI1 (A : Option Addr) (n c : Nat) (wd : Int) (bs : List UInt8) (w : World) (hx : Bytes w A n c bs) (hn : n ≤ 1000000) :
    Calls Tryz.prog 20 #[.int .i64 1, .int .i64 wd, .slice A n c, .bool true] w (RetBytes w (trI 1 wd bs).1 (trI 1 wd bs).2) := by
  have h := ref38I_any A n c wd bs w hx hn
  rw [← hx.1] at h ⊢
  replace h : Calls Tryz.prog _ _ w (RetBytes w (trI 1 wd bs).1 (trI 1 wd bs).2) := h
  generalize (trI 1 wd bs).1 = R at h ⊢
  generalize (trI 1 wd bs).2 = x at h ⊢
  replace h := Lib.hid h
  clear hx hn
  go_enter Tryz.func20, Tryz.ntmps20
  go_wp2_with fail
  refine h.out.mono ?_
  rintro e w1 ⟨A1, n1, c1, rfl, hb, hw⟩
  have HB := Lib.hid (And.intro hb hw)
  clear hb hw
  go_wp2_with fail
  go_ret2
  exact ⟨_, _, _, rfl, HB.out.1, HB.out.2⟩
theorem rapI2 (A : Option Addr) (n c : Nat) (wd : Int) (bs : List UInt8) (w : World) (hx : Bytes w A n c bs) (hn : n ≤ 1000000) :
    Calls Tryz.prog 20 #[.int .i64 2, .int .i64 wd, .slice A n c, .bool true] w (RetBytes w (trI 2 wd bs).1 (trI 2 wd bs).2) := by
  have h := ref39I_any A n c wd bs w hx hn
  rw [← hx.1] at h ⊢
  replace h : Calls Tryz.prog _ _ w (RetBytes w (trI 2 wd bs).1 (trI 2 wd bs).2) := h
  generalize (trI 2 wd bs).1 = R at h ⊢
  generalize (trI 2 wd bs).2 = x at h ⊢
  replace h := Lib.hid h
  clear hx hn
  go_enter Tryz.func20, Tryz.ntmps20
  go_wp2_with fail
  refine h.out.mono ?_
  rintro e w1 ⟨A1, n1, c1, rfl, hb, hw⟩
  have HB := Lib.hid (And.intro hb hw)
  clear hb hw
  go_wp2_with fail
  go_ret2
  exact ⟨_, _, _, rfl, HB.out.1, HB.out.2⟩
theorem rapI3 (A : Option Addr) (n c : Nat) (wd : Int) (bs : List UInt8) (w : World) (hx : Bytes w A n c bs) (hn : n ≤ 1000000) :
    Calls Tryz.prog 20 #[.int .i64 3, .int .i64 wd, .slice A n c, .bool true] w (RetBytes w (trI 3 wd bs).1 (trI 3 wd bs).2) := by
  show Calls _ _ _ w (RetBytes w bs 0)
  have hb0 : Below w.heap.size w (w.alloc (.cells #[] 5)) := (Below.refl _ _).alloc (Nat.le_refl _) _
  have hx1 := hx.below hb0
  have HX1 := Lib.hid hx1
  have HB0 := Lib.hid hb0
  have m1 : Hid (0 + n ≤ maxLen ∧ (0 + n) * 1 ≤ 140737488355328) := ⟨by simp [maxLen]; omega, by omega⟩
  have hB : Hid (w.heap.size ≤ (w.alloc (.cells #[] 5)).heap.size) := hb0.size
  clear hx hx1 hb0
  go_enter Tryz.func20, Tryz.ntmps20
  go_wp2_with (at_builtin; refine wpList_app (enc := encB) rfl (.tmp 103) (.tmp 104) rfl uB infoB encB_one rfl rfl (own_empty w _) hB.out A n c bs 0 HX1.out.1 HX1.out.2.2 rfl m1.out.1 m1.out.2 ?_; intro A6 c6 W6 ho6 hb6 hg6)
  rw [List.nil_append, Nat.zero_add] at ho6
  have HF := Lib.hid (And.intro ho6.bytesB (HB0.out.trans hb6))
  clear ho6 hb6 hg6
  go_wp2_with fail
  go_ret2
  exact ⟨_, _, _, rfl, HF.out.1, HF.out.2⟩
theorem rapI4 (A : Option Addr) (n c : Nat) (wd : Int) (bs : List UInt8) (w : World) (hx : Bytes w A n c bs) (hn : n ≤ 1000000) :
    Calls Tryz.prog 20 #[.int .i64 4, .int .i64 wd, .slice A n c, .bool true] w (RetBytes w (trI 4 wd bs).1 (trI 4 wd bs).2) := by
  have h := ref40I_any A n c bs w hx hn
  rw [← hx.1] at h ⊢
  replace h : Calls Tryz.prog _ _ w (RetBytes w (trI 4 wd bs).1 (trI 4 wd bs).2) := h
  generalize (trI 4 wd bs).1 = R at h ⊢
  generalize (trI 4 wd bs).2 = x at h ⊢
  replace h := Lib.hid h
  clear hx hn
  go_enter Tryz.func20, Tryz.ntmps20
  go_wp2_with fail
  refine h.out.mono ?_
  rintro e w1 ⟨A1, n1, c1, rfl, hb, hw⟩
  have HB := Lib.hid (And.intro hb hw)
  clear hb hw
  go_wp2_with fail
  go_ret2
  exact ⟨_, _, _, rfl, HB.out.1, HB.out.2⟩
theorem rapI5 (A : Option Addr) (n c : Nat) (wd : Int) (bs : List UInt8) (w : World) (hx : Bytes w A n c bs) (hn : n ≤ 1000000) :
    Calls Tryz.prog 20 #[.int .i64 5, .int .i64 wd, .slice A n c, .bool true] w (RetBytes w (trI 5 wd bs).1 (trI 5 wd bs).2) := by
  have h := Dic.inverseT_any A n c bs w hx hn
  replace h : Calls Tryz.prog _ _ w (RetBytes w (trI 5 wd bs).1 (trI 5 wd bs).2) := h
  generalize (trI 5 wd bs).1 = R at h ⊢
  generalize (trI 5 wd bs).2 = x at h ⊢
  replace h := Lib.hid h
  clear hx hn
  go_enter Tryz.func20, Tryz.ntmps20
  go_wp2_with fail
  refine h.out.mono ?_
  rintro e w1 ⟨A1, n1, c1, rfl, hb, hw⟩
  have HB := Lib.hid (And.intro hb hw)
  clear hb hw
  go_wp2_with fail
  go_ret2
  exact ⟨_, _, _, rfl, HB.out.1, HB.out.2⟩
theorem rapI6 (A : Option Addr) (n c : Nat) (wd : Int) (bs : List UInt8) (w : World) (hx : Bytes w A n c bs) (hn : n ≤ 1000000) :
    Calls Tryz.prog 20 #[.int .i64 6, .int .i64 wd, .slice A n c, .bool true] w (RetBytes w (trI 6 wd bs).1 (trI 6 wd bs).2) := by
  have h := ref36I_any A n c bs w hx hn
  replace h : Calls Tryz.prog _ _ w (RetBytes w (trI 6 wd bs).1 (trI 6 wd bs).2) := h
  generalize (trI 6 wd bs).1 = R at h ⊢
  generalize (trI 6 wd bs).2 = x at h ⊢
  replace h := Lib.hid h
  clear hx hn
  go_enter Tryz.func20, Tryz.ntmps20
  go_wp2_with fail
  refine h.out.mono ?_
  rintro e w1 ⟨A1, n1, c1, rfl, hb, hw⟩
  have HB := Lib.hid (And.intro hb hw)
  clear hb hw
  go_wp2_with fail
  go_ret2
  exact ⟨_, _, _, rfl, HB.out.1, HB.out.2⟩
theorem rapI7 (A : Option Addr) (n c : Nat) (wd : Int) (bs : List UInt8) (w : World) (hx : Bytes w A n c bs) (hn : n ≤ 1000000) :
    Calls Tryz.prog 20 #[.int .i64 7, .int .i64 wd, .slice A n c, .bool true] w (RetBytes w (trI 7 wd bs).1 (trI 7 wd bs).2) := by
  have h := Bwt.unpackR_any A n c bs w hx (by omega)
  replace h : Calls Tryz.prog _ _ w (RetBytes w (trI 7 wd bs).1 (trI 7 wd bs).2) := h
  generalize (trI 7 wd bs).1 = R at h ⊢
  generalize (trI 7 wd bs).2 = x at h ⊢
  replace h := Lib.hid h
  clear hx hn
  go_enter Tryz.func20, Tryz.ntmps20
  go_wp2_with fail
  refine h.out.mono ?_
  rintro e w1 ⟨A1, n1, c1, rfl, hb, hw⟩
  have HB := Lib.hid (And.intro hb hw)
  clear hb hw
  go_wp2_with fail
  go_ret2
  exact ⟨_, _, _, rfl, HB.out.1, HB.out.2⟩
theorem rapI8 (A : Option Addr) (n c : Nat) (wd : Int) (bs : List UInt8) (w : World) (hx : Bytes w A n c bs) (hn : n ≤ 1000000) :
    Calls Tryz.prog 20 #[.int .i64 8, .int .i64 wd, .slice A n c, .bool true] w (RetBytes w (trI 8 wd bs).1 (trI 8 wd bs).2) := by
  have h := ref34I_any A n c bs w hx hn
  rw [← hx.1] at h ⊢
  replace h : Calls Tryz.prog _ _ w (RetBytes w (trI 8 wd bs).1 (trI 8 wd bs).2) := h
  generalize (trI 8 wd bs).1 = R at h ⊢
  generalize (trI 8 wd bs).2 = x at h ⊢
  replace h := Lib.hid h
  clear hx hn
  go_enter Tryz.func20, Tryz.ntmps20
  go_wp2_with fail
  refine h.out.mono ?_
  rintro e w1 ⟨A1, n1, c1, rfl, hb, hw⟩
  have HB := Lib.hid (And.intro hb hw)
  clear hb hw
  go_wp2_with fail
  go_ret2
  exact ⟨_, _, _, rfl, HB.out.1, HB.out.2⟩
theorem rapI9 (A : Option Addr) (n c : Nat) (wd : Int) (bs : List UInt8) (w : World) (hx : Bytes w A n c bs) (hn : n ≤ 1000000) :
    Calls Tryz.prog 20 #[.int .i64 9, .int .i64 wd, .slice A n c, .bool true] w (RetBytes w (trI 9 wd bs).1 (trI 9 wd bs).2) := by
  have h := ref34E_any A n c bs w hx hn
  replace h : Calls Tryz.prog _ _ w (RetBytes w (trI 9 wd bs).1 (trI 9 wd bs).2) := h
  generalize (trI 9 wd bs).1 = R at h ⊢
  generalize (trI 9 wd bs).2 = x at h ⊢
  replace h := Lib.hid h
  clear hx hn
  go_enter Tryz.func20, Tryz.ntmps20
  go_wp2_with fail
  refine h.out.mono ?_
  rintro e w1 ⟨A1, n1, c1, rfl, hb, hw⟩
  have HB := Lib.hid (And.intro hb hw)
  clear hb hw
  go_wp2_with fail
  go_ret2
  exact ⟨_, _, _, rfl, HB.out.1, HB.out.2⟩
theorem refApplyI_any (k : Int) (hk : 0 ≤ k ∧ k < 10) (A : Option Addr) (n c : Nat) (wd : Int) (bs : List UInt8) (w : World) (hx : Bytes w A n c bs) (hn : n ≤ 1000000) :
    Calls Tryz.prog 20 #[.int .i64 k, .int .i64 wd, .slice A n c, .bool true] w (RetBytes w (trI k.toNat wd bs).1 (trI k.toNat wd bs).2) := by
  obtain ⟨m, rfl⟩ : ∃ m : Nat, k = (m : Int) := ⟨k.toNat, by omega⟩
  have hm : m < 10 := by omega
  rw [Int.toNat_natCast]
  match m, hm with
  | 0, _ => exact rapI0 A n c wd bs w hx hn
  | 1, _ => exact rapI1 A n c wd bs w hx hn
  | 2, _ => exact rapI2 A n c wd bs w hx hn
  | 3, _ => exact rapI3 A n c wd bs w hx hn
  | 4, _ => exact rapI4 A n c wd bs w hx hn
  | 5, _ => exact rapI5 A n c wd bs w hx hn
  | 6, _ => exact rapI6 A n c wd bs w hx hn
  | 7, _ => exact rapI7 A n c wd bs w hx hn
  | 8, _ => exact rapI8 A n c wd bs w hx hn
  | 9, _ => exact rapI9 A n c wd bs w hx hn
def widL (l : List Stg) (k : Nat) : List Int := (List.range k).map fun i => (tK l (0, 0) i).2
theorem widL_next (l : List Stg) (k : Nat) : widL l (k + 1) = widL l k ++ [(tK l (0, 0) k).2] := by unfold widL; rw [List.range_succ, List.map_append]; rfl
theorem widL_at {l : List Stg} {n k : Nat} (h : k < n) : gi (widL l n) k = (tK l (0, 0) k).2 := by unfold gi widL; simp [List.getD, h]
def WdI (w : World) (t : Ty) (A : Option Addr) (k c : Nat) (xs : List Int) (W : World) : Prop := rowV W w.heap.size 35 #[.int .i64 t.1, .int .i64 t.2] ∧ Own (Value.int .i64) W (w.heap.size + 1) 3 A k c xs ∧ Below w.heap.size w W
theorem WdI.size {w W : World} {t : Ty} {A : Option Addr} {k c : Nat} {xs : List Int} (h : WdI w t A k c xs W) : w.heap.size + 1 ≤ W.heap.size := h.1.lt
theorem WdI.push {w W W' : World} {t : Ty} {A A' : Option Addr} {k c k' c' : Nat} {xs xs' : List Int} (h : WdI w t A k c xs W) (ho : Own (Value.int .i64) W' (w.heap.size + 1) 3 A' k' c' xs') (hb : Below (w.heap.size + 1) W W') : WdI w t A' k' c' xs' W' :=
  ⟨(hb.block _ (Nat.lt_succ_self _)).trans h.1, ho, h.2.2.trans (hb.mono (Nat.le_succ _))⟩
theorem WdI.call {w W W2 : World} {t : Ty} {A : Option Addr} {k c : Nat} {xs : List Int} (h : WdI w t A k c xs W) (hb : Below W.drew.heap.size W.drew W2) :
    W2.cell? ⟨w.heap.size, 0, none⟩ = some (.int .i64 t.1) ∧ W2.cell? ⟨w.heap.size, 1, none⟩ = some (.int .i64 t.2) ∧ W2.frozen? ⟨w.heap.size, 0, none⟩ = false ∧ W2.frozen? ⟨w.heap.size, 1, none⟩ = false ∧ w.heap.size < W2.heap.size ∧ Hid (WdI w t A k c xs W2) := by
  have h1 : rowV W.drew w.heap.size 35 #[.int .i64 t.1, .int .i64 t.2] := h.1
  have h2 := h1.below hb h.1.lt
  have ho : Own (Value.int .i64) W.drew (w.heap.size + 1) 3 A k c xs := h.2.1
  have hb3 : Below w.heap.size w W.drew := bdrew h.2.2 1
  exact ⟨(two_cellsV h2).1, (two_cellsV h2).2, h2.frozen 0, h2.frozen 1, h2.lt, Lib.hid ⟨h2, ho.below hb, hb3.trans (hb.mono hb3.size)⟩⟩
theorem WdI.set {w W : World} {t : Ty} {A : Option Addr} {k c : Nat} {xs : List Int} (h : WdI w t A k c xs W) (a b : Int) : WdI w (a, b) A k c xs ((W.setCell ⟨w.heap.size, 0, none⟩ (.int .i64 a)).setCell ⟨w.heap.size, 1, none⟩ (.int .i64 b)) := by
  refine ⟨(h.1.set 0 _).set 1 _, ?_, (h.2.2.setCell (p := ⟨w.heap.size, 0, none⟩) (Nat.le_refl _) _).setCell (p := ⟨w.heap.size, 1, none⟩) (Nat.le_refl _) _⟩
  refine ⟨h.2.1.1, ?_⟩
  rcases h.2.1.2 with h1 | ⟨g, cap, cur, h1, h2, h3, h4⟩
  · exact .inl h1
  · refine .inr ⟨g, cap, cur, h1, h2, ?_, h4⟩
    rw [Below.heap_setCell _ ⟨w.heap.size, 1, none⟩ _ _ (by show g ≠ w.heap.size; omega), Below.heap_setCell _ ⟨w.heap.size, 0, none⟩ _ _ (by show g ≠ w.heap.size; omega)]
    exact h3
theorem widths_any (A : Option Addr) (n c : Nat) (l : List Stg) (w : World) (hx : Stgs w A n c l) (hn : n ≤ 1000000) :
    Calls Tryz.prog 19 #[.slice A n c] w fun e w' => ∃ A2 c2, e = .returned (.slice A2 n c2) ∧ Own (Value.int .i64) w' (w.heap.size + 1) 3 A2 n c2 (widL l n) ∧ Below w.heap.size w w' := by
  have Hl := Lib.hid hx.1
  obtain ⟨w1, hw1⟩ : ∃ w1, w1 = w.alloc (.cells #[.int .i64 0, .int .i64 0] 35) := ⟨_, rfl⟩
  have hI0 : WdI w (0, 0) none 0 0 [] w1 := ⟨by rw [hw1]; exact rowV.new w _ _, Own.nil _ _ _ _, by rw [hw1]; exact balloc (Below.refl _ _) _⟩
  have HI0 := Lib.hid hI0
  have HW1 := Lib.hid hw1
  clear hI0 hw1
  go_enter Tryz.func19, Tryz.ntmps19
  go_wp2_with (refine wpList_store_new rfl 35 (.tmp 4) (.tmp 6) rfl #[.int .i64 0, .int .i64 0] 35 _ rfl rfl (by kernel_rfl) rfl (by simp [Value.oneCell']) ?_)
  rw [← HW1.out]
  go_wp2_with fail
  go_loopw [3, 5] (fun vo vi wr => ∃ (k c2 : Nat) (A2 : Option Addr), k ≤ n ∧ vi = .int .i64 (k : Int) ∧ vo = .slice A2 k c2 ∧ Hid (WdI w (tK l (0, 0) k) A2 k c2 (widL l k) wr)) (fun _ vi _ => n - (intOf vi).toNat)
  case atStart => exact ⟨0, 0, none, Nat.zero_le _, rfl, rfl, HI0⟩
  case round =>
    obtain ⟨k, c2, A2, hk, rfl, rfl, HI⟩ := hrel
    by_cases hlt : k < n
    · have d0 : decide ((k : Int) < (n : Int)) = true := decide_eq_true (by omega)
      have d0' : decide (k < n) = true := decide_eq_true hlt
      obtain ⟨sb, so, rfl, hsb, hs1, hs2⟩ := hx.cell hlt
      have HY := Lib.hid (fun W (hW : Below w.heap.size w W) => And.intro ((hW.cell (p := ⟨sb, so + k * 2, none⟩) hsb).trans hs1) ((hW.cell (p := ⟨sb, so + k * 2 + 1, none⟩) hsb).trans hs2))
      clear hs1 hs2
      have hN : Hid (stepP (sG l k) (tK l (0, 0) k) = tK l (0, 0) (k + 1)) := rfl
      have HWN := Lib.hid (widL_next l k)
      obtain ⟨s, hs⟩ : ∃ s, s = sG l k := ⟨_, rfl⟩
      obtain ⟨t, ht⟩ : ∃ t, t = tK l (0, 0) k := ⟨_, rfl⟩
      rw [← hs] at HY hN
      rw [← ht] at hN HI HWN
      clear hs ht
      obtain ⟨a1, a2⟩ := s
      obtain ⟨t1, t2⟩ := t
      dsimp only at HY HWN
      have HS := Lib.hid (refStep_any a1 a2 t1 t2)
      obtain ⟨nx, hnx⟩ : ∃ nx, nx = stepP (a1, a2) (t1, t2) := ⟨_, rfl⟩
      rw [← hnx] at HS hN
      clear hnx
      obtain ⟨n1, n2⟩ := nx
      dsimp only at HS
      obtain ⟨b1, b2⟩ := two_cellsV HI.out.1
      dsimp only at b1 b2
      have m1 : Hid (k + 1 ≤ maxLen ∧ (k + 1) * 8 ≤ 140737488355328) := ⟨by simp [maxLen]; omega, by omega⟩
      go_wp2_with (at_builtin; refine wpList_pushv (enc := Value.int .i64) rfl (.tmp 13) (.tmp 16) rfl Bwt.uI Bwt.infoI (fun _ => rfl) rfl rfl HI.out.2.1 HI.out.size t2 _ rfl rfl m1.out.1 m1.out.2 ?_; intro A6 c6 W6 ho6 hb6; have HI6 := Lib.hid (HI.out.push ho6 hb6); clear ho6 hb6)
      obtain ⟨y1, y2⟩ := HY.out W6 HI6.out.2.2
      obtain ⟨z1, z2⟩ := two_cellsV HI6.out.1
      dsimp only at z1 z2
      have z8 : w.heap.size < W6.heap.size := HI6.out.1.lt
      clear b1 b2
      go_region_with (first
        | (go_at_call 46; refine (HS.out (W6.drew)).mono ?_; rintro e w2 ⟨rfl, hb2⟩; obtain ⟨m1, m2, m3, m4, m5, HM⟩ := HI6.out.call hb2))
      all_goals
        go_wp2_with fail
        go_roundw
        case rel =>
          refine ⟨k + 1, c6, A6, by omega, by go_num, rfl, Lib.hid ?_⟩
          rw [← hN.out, HWN.out]
          exact HM.out.set n1 n2
        case measure => (simp [intOf]) <;> omega
    · obtain rfl : k = n := by omega
      have d0 : decide ((k : Int) < (k : Int)) = false := by simp
      go_wp2_with fail
      go_ret
      exact ⟨A2, c2, rfl, HI.out.2.1, HI.out.2.2⟩
theorem trI_len {k : Nat} (hk : k < 10) (wd : Int) (bs : List UInt8) (hb : bs.length ≤ 200000) (h : (trI k wd bs).2 = 0) : (trI k wd bs).1.length ≤ 200000 := by
  match k, hk with
  | 0, _ => exact hb
  | 1, _ =>
    have h0' : limD bs.length wd = 0 := h
    show (if limD bs.length wd = 0 then deltaI wd.toNat bs else []).length ≤ _
    rw [if_pos h0', deltaI_length]; exact hb
  | 2, _ =>
    have h0' : limD bs.length wd = 0 := h
    show (if limD bs.length wd = 0 then columnsI wd.toNat bs else []).length ≤ _
    rw [if_pos h0', columnsI_length]; exact hb
  | 3, _ => exact hb
  | 4, _ =>
    show (if 65536 < bs.length then [] else callsP (-1) bs).length ≤ _
    split
    · exact Nat.zero_le _
    · rw [callsP_length]; exact hb
  | 5, _ => exact Nat.le_trans (Dic.inverseQ_length bs) (by decide)
  | 6, _ => exact Nat.le_trans (lzI_length bs) (by decide)
  | 7, _ => exact Nat.le_trans (Bwt.unpackRes_length bs) (by decide)
  | 8, _ =>
    show (if 65536 < bs.length then [] else recI lst0 bs).length ≤ _
    split
    · exact Nat.zero_le _
    · rw [recI_length]; exact hb
  | 9, _ => exact Nat.le_trans (expandP_length bs) (by decide)
theorem ref41I_any (A : Option Addr) (n c : Nat) (l : List Stg) (A' : Option Addr) (n' c' : Nat) (bs : List UInt8) (w : World) (hx : Stgs w A n c l) (hn : n ≤ 1000000) (hy : Bytes w A' n' c' bs) (hn' : n' ≤ 1000000) :
    Calls Tryz.prog 10 #[.slice A n c, .slice A' n' c'] w (RetBytes w (bwP trI l bs).1 (bwP trI l bs).2) := by
  have Hl := Lib.hid hx.1
  have Hb := Lib.hid hy.1
  have hchk := refCheck_any A n c l w hx (by omega)
  by_cases ht : (typE l (0, 0)).1 = 0
  · rw [ht] at hchk
    replace hchk := Lib.hid hchk
    by_cases h6 : 65536 < n'
    · have HR : Hid (bwP trI l bs = ([], 5)) := by show _ = _; unfold bwP begE; rw [if_pos ht, Hb.out, if_pos h6]; rfl
      have d0 : decide ((65536 : Int) < (n' : Int)) = true := decide_eq_true (by omega)
      have d0' : decide (65536 < n') = true := decide_eq_true h6
      rw [HR.out]
      clear ht h6 hx hy
      go_enter Tryz.func10, Tryz.ntmps10
      go_wp2_with fail
      refine hchk.out.mono ?_
      rintro e w1 ⟨rfl, hb1⟩
      have HB1 := Lib.hid hb1
      clear hb1
      go_wp2_with fail
      go_ret2
      exact RetBytes.err rfl HB1.out
    · have d0 : decide ((65536 : Int) < (n' : Int)) = false := decide_eq_false (by omega)
      have d0' : decide (65536 < n') = false := decide_eq_false h6
      have hn6 : n' ≤ 65536 := by omega
      have HR : Hid (bwP trI l bs = fin (bwS trI l bs n)) := by show _ = _; unfold bwP begE; rw [if_pos ht, Hb.out, if_neg h6, if_pos rfl, Hl.out]
      have HST := Lib.hid (fun k (hk : k < n) => stage_ok ht (k := k) (by rw [Hl.out]; exact hk))
      have HS0 := Lib.hid (fun s (hs : s ∈ l) => (typE_ok ht).2.2.2 s hs)
      have HX := Lib.hid hx
      have HY := Lib.hid hy
      rw [HR.out]
      clear ht h6 hx hy
      go_enter Tryz.func10, Tryz.ntmps10
      go_wp2_with fail
      refine hchk.out.mono ?_
      rintro e w1 ⟨rfl, hb1⟩
      have HB1 := Lib.hid hb1
      have HWD := Lib.hid (widths_any A n c l w1 (HX.out.below hb1) hn)
      clear hb1 hchk
      go_wp2_with fail
      refine HWD.out.mono ?_
      rintro e w2 ⟨AW, cW, rfl, hoW, hb2⟩
      have HB2 := Lib.hid (HB1.out.trans (hb2.mono HB1.out.size))
      have HOW := Lib.hid hoW.ints
      have hb3 : Below w2.heap.size w2 (w2.alloc (.cells #[] 5)) := (Below.refl _ _).alloc (Nat.le_refl _) _
      have HY3 := Lib.hid ((HY.out.below HB2.out).below hb3)
      have HB3 := Lib.hid hb3
      have m1 : Hid (0 + n' ≤ maxLen ∧ (0 + n') * 1 ≤ 140737488355328) := ⟨by simp [maxLen]; omega, by omega⟩
      clear hoW hb2 hb3 HWD
      go_wp2_with (at_builtin; refine wpList_app (enc := encB) rfl (.tmp 21) (.tmp 22) rfl uB infoB encB_one rfl rfl (own_empty w2 _) HB3.out.size A' n' c' bs 0 HY3.out.1 HY3.out.2.2 rfl m1.out.1 m1.out.2 ?_; intro A6 c6 W6 ho6 hb6 hg6; rw [List.nil_append, Nat.zero_add] at ho6; have H6 := Lib.hid (And.intro ho6.bytesB (HB3.out.trans hb6)); clear ho6 hb6 hg6)
      go_loopw [1, 8, 9, 10] (fun vb vi _ _ wr => ∃ (k : Nat) (z : Int) (A3 : Option Addr) (n3 c3 : Nat) (ys : List UInt8), k ≤ n ∧ z = (n : Int) - 1 - (k : Int) ∧ vi = .int .i64 z ∧ vb = .slice A3 n3 c3 ∧ n3 ≤ 200000 ∧ Hid (bwS trI l bs k = (ys, 0) ∧ Bytes wr A3 n3 c3 ys ∧ Below w2.heap.size w2 wr)) (fun _ vi _ _ _ => (intOf vi + 1).toNat)
      case atStart => exact ⟨0, (n : Int) - 1, A6, n', c6, bs, Nat.zero_le _, by omega, rfl, by simp, by omega, Lib.hid ⟨rfl, H6.out.1, H6.out.2⟩⟩
      case round =>
        obtain ⟨k, z, A3, n3, c3, ys, hk, hz, rfl, rfl, hn3, HI⟩ := hrel
        by_cases hlt : k < n
        · obtain ⟨j, rfl⟩ : ∃ j : Nat, z = (j : Int) := ⟨z.toNat, by omega⟩
          have hjk : Hid (j + k + 1 = n) := by show _ = _; omega
          have hjn : j < n := by omega
          have d1 : decide ((0 : Int) ≤ (j : Int)) = true := decide_eq_true (by omega)
          have d1' : decide (0 ≤ j) = true := decide_eq_true (Nat.zero_le _)
          obtain ⟨sb, so, rfl, hsb, hs1, -⟩ := HX.out.cell hjn
          obtain ⟨bw, ow, rfl, hbw, hcw⟩ := HOW.out.get hjn
          have hcell := hcw j hjn
          rw [widL_at hjn] at hcell
          have y1 : wr.cell? ⟨sb, so + j * 2, none⟩ = some (.int .i64 (sG l j).1) := (HI.out.2.2.cell (p := ⟨sb, so + j * 2, none⟩) (Nat.lt_of_lt_of_le hsb HB2.out.size)).trans ((HB2.out.cell (p := ⟨sb, so + j * 2, none⟩) hsb).trans hs1)
          have y2 : wr.cell? ⟨bw, ow + j, none⟩ = some (.int .i64 (tK l (0, 0) j).2) := (HI.out.2.2.cell (p := ⟨bw, ow + j, none⟩) hbw).trans hcell
          have hmem : sG l j ∈ l := by unfold sG; rw [List.getD_eq_getElem?_getD, List.getElem?_eq_getElem (by rw [Hl.out]; exact hjn)]; exact List.getElem_mem _
          obtain ⟨h0, h1, -, -⟩ := HS0.out _ hmem
          have HNX : Hid (bwS trI l bs (k + 1) = trI (sG l j).1.toNat (tK l (0, 0) j).2 ys) := by
            show _ = _
            rw [bwS_next (by rw [HI.out.1]), HI.out.1, Hl.out, show n - 1 - k = j by have := hjk.out; omega]
          have HG := Lib.hid (refApplyI_any (sG l j).1 ⟨h0, by omega⟩ A3 n3 c3 (tK l (0, 0) j).2 ys wr.drew HI.out.2.1 (by omega))
          have HLN := trI_len (k := (sG l j).1.toNat) (by omega) (tK l (0, 0) j).2 ys (by rw [HI.out.2.1.1]; exact hn3)
          obtain ⟨s1, hs1'⟩ : ∃ s, s = (sG l j).1 := ⟨_, rfl⟩
          obtain ⟨t2, ht2⟩ : ∃ s, s = (tK l (0, 0) j).2 := ⟨_, rfl⟩
          rw [← hs1'] at y1 HG HNX HLN
          rw [← ht2] at y2 HG HNX HLN
          obtain ⟨⟨o1, er⟩, ho1⟩ : ∃ x, x = trI s1.toNat t2 ys := ⟨_, rfl⟩
          rw [← ho1] at HG HNX HLN
          have HLEN := Lib.hid HLN
          have ysz : sb < wr.heap.size := Nat.lt_of_lt_of_le (Nat.lt_of_lt_of_le hsb HB2.out.size) HI.out.2.2.size
          have hzz : (j : Int) < (n : Int) := by omega
          clear hs1 hcw hcell hmem h0 h1 HLN hs1' ht2 ho1 hz
          go_wp2_with fail
          go_region_with (first
            | (go_at_call 20; refine HG.out.mono ?_; rintro e w5 ⟨A5, n5, c5, rfl, hb5, hw5⟩; have H5 := Lib.hid (And.intro hb5 ((bdrew HI.out.2.2 1).trans (hw5.mono (bdrew HI.out.2.2 1).size))); clear hb5 hw5))
          all_goals
            by_cases he : er = 0
            · subst he
              have hl5 := HLEN.out rfl
              have hn5 : n5 ≤ 200000 := by have h := H5.out.1.1; rw [← h]; exact hl5
              clear hl5
              go_wp2_with fail
              go_roundw
              case rel => exact ⟨k + 1, (j : Int) - 1, A5, n5, c5, o1, by have := hjk.out; omega, by have := hjk.out; omega, by go_num, rfl, hn5, Lib.hid ⟨HNX.out, H5.out.1, H5.out.2⟩⟩
              case measure => (simp [intOf]) <;> omega
            · have q0 : (er != 0) = true := by simpa using he
              have HFI : Hid (fin (bwS trI l bs n) = ([], er)) := by
                show _ = _
                have h1 := bwS_stay (G := trI) (l := l) (bs := bs) (k := k + 1) (by rw [HNX.out]; exact he) n (by have := hjk.out; omega)
                rw [HNX.out] at h1
                unfold fin
                rw [if_neg (by rw [h1]; exact he), h1]
              clear he
              go_wp2_with fail
              go_ret2
              rw [HFI.out]
              exact RetBytes.err rfl (HB2.out.trans (H5.out.2.mono HB2.out.size))
        · obtain rfl : k = n := by omega
          have hzm : z = -1 := by omega
          subst hzm
          have d1 : decide ((0 : Int) ≤ -1) = false := rfl
          have HFI : Hid (fin (bwS trI l bs k) = (ys, 0)) := by show _ = _; rw [HI.out.1]; rfl
          clear hz
          go_wp2_with fail
          go_ret2
          rw [HFI.out]
          exact RetBytes.mk rfl HI.out.2.1 (HB2.out.trans (HI.out.2.2.mono HB2.out.size))
  · rw [show (typE l (0, 0)).1 = (typE l (0, 0)).1 from rfl] at hchk
    have HR : Hid (bwP trI l bs = ([], (typE l (0, 0)).1)) := bwP_bad ht
    rw [HR.out]
    obtain ⟨er, her⟩ : ∃ er, er = (typE l (0, 0)).1 := ⟨_, rfl⟩
    rw [← her] at hchk ht ⊢
    have q0 : (er != 0) = true := by simpa using ht
    replace hchk := Lib.hid hchk
    clear ht hx hy her HR
    go_enter Tryz.func10, Tryz.ntmps10
    go_wp2_with fail
    refine hchk.out.mono ?_
    rintro e w1 ⟨rfl, hb1⟩
    have HB1 := Lib.hid hb1
    clear hb1
    go_wp2_with fail
    go_ret2
    exact RetBytes.err rfl HB1.out
section
variable (A : Option Addr) (n c : Nat) (l : List Stg) (B : Option Addr) (nb cb : Nat) (bs : List UInt8) (w : World)
theorem pipelineInverts_any (hx : Stgs w A n c l) (hn : n ≤ maxLen) (hz : Bytes w B nb cb bs) (hb : nb ≤ maxLen) (hT : TabY w) :
    Calls Tryz.prog 4 #[.slice A n c, .slice B nb cb] w fun e w' => e = .returned (.bool true) ∧ Below w.heap.size w w' := by
  have hF := few_any A n c l B nb cb w hx
  have HT := Lib.hid hT
  by_cases hF0 : fewB l nb = true
  · have hnb : nb ≤ 200 ∧ l.length ≤ 20 := by
      unfold fewB at hF0
      rw [Bool.and_eq_true, Bool.and_eq_true] at hF0
      exact ⟨of_decide_eq_true hF0.2.1, of_decide_eq_true hF0.1⟩
    have hl := hx.1
    have hn12 : n ≤ 1000000 := by omega
    rw [hF0] at hF
    have HF := Lib.hid hF
    have H1 := inverseAll_any A n c l B nb cb bs w hx (Nat.le_trans hn12 (by decide)) hz (by omega)
    have H2 := fun (W : World) (hW : Stgs W A n c l) (hB : Bytes W B nb cb bs) => ref41I_any A n c l B nb cb bs W hW hn12 hB (by omega)
    have HX := Lib.hid hx
    have HZ := Lib.hid hz
    obtain ⟨⟨o1, e1⟩, ho1⟩ : ∃ x, x = bwP trI l bs := ⟨_, rfl⟩
    rw [← ho1] at H1 H2
    replace H1 := Lib.hid H1
    replace H2 := Lib.hid H2
    have q1 : (e1 == e1) = true := beq_self_eq_true _
    have q8 : ((strB o1).toList == (strB o1).toList) = true := beq_self_eq_true _
    clear ho1 hF hF0 hx hn hz hb hT hl hn12 hnb
    go_enter Tryz.func4, Tryz.ntmps4
    go_wp2_with fail
    refine HF.out.mono ?_
    rintro e w1 ⟨rfl, hw⟩
    obtain rfl : w = w1 := hw.symm
    go_wp2_with fail
    refine H1.out.mono ?_
    rintro e w1 ⟨A1, n1, c1, rfl, hy1, hb1⟩
    have HB1 := Lib.hid hb1
    have HX1 := Lib.hid (HX.out.below hb1)
    have HZ1 := Lib.hid (HZ.out.below hb1)
    have HD1 := Lib.hid hy1
    clear hb1 hy1 H1
    go_wp2_with fail
    refine (H2.out w1 HX1.out HZ1.out).mono ?_
    rintro e w2 ⟨A2, n2, c2, rfl, hy2, hb2⟩
    have HB2 := Lib.hid (HB1.out.trans (hb2.mono HB1.out.size))
    have HD2 := Lib.hid (HD1.out.below hb2)
    have HE2 := Lib.hid hy2
    clear hb2 hy2 H2
    go_wp2_with fail
    refine (awake_any w2 (HT.out.below HB2.out)).mono ?_
    rintro e w4 ⟨rfl, hb⟩
    have HB4 := Lib.hid (HB2.out.trans (hb.mono HB2.out.size))
    have r1 := (HD2.out.below hb).str 23 5 9 uB Tryz.underlying5 Tryz.underlying9
    have r2 := (HE2.out.below hb).str 23 5 9 uB Tryz.underlying5 Tryz.underlying9
    clear hb
    go_wp2_with fail
    go_ret
    exact ⟨rfl, HB4.out⟩
  · have hF0 : fewB l nb = false := by simpa using hF0
    rw [hF0] at hF
    have HF := Lib.hid hF
    clear hF hF0 hx hn hz hb hT
    go_enter Tryz.func4, Tryz.ntmps4
    go_wp2_with fail
    refine HF.out.mono ?_
    rintro e w1 ⟨rfl, hw⟩
    obtain rfl : w = w1 := hw.symm
    go_wp2_with fail
    refine (awake_any w HT.out).mono ?_
    rintro e w1 ⟨rfl, hb1⟩
    have HB1 := Lib.hid hb1
    clear hb1
    go_wp2_with fail
    go_ret
    exact ⟨rfl, HB1.out⟩
end
end Go.Proofs.YtohadkmaemmfgaaGreatDoor

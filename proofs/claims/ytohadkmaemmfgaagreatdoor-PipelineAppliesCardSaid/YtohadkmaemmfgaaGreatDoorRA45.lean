/- Un. -/
import Derived.Test.YtohadkmaemmfgaaGreatDoorRA37
import Derived.Test.YtohadkmaemmfgaaGreatDoorRA38
import Derived.Test.YtohadkmaemmfgaaGreatDoorRA39
import Derived.Test.YtohadkmaemmfgaaGreatDoorRA43
import Derived.Test.YtohadkmaemmfgaaGreatDoorRA44
import Derived.Test.YtohadkmaemmfgaaGreatDoorRA36
set_option maxRecDepth 100000
set_option maxHeartbeats 4000000
namespace Go.Proofs.YtohadkmaemmfgaaGreatDoor
open Go.RowKit Go.Proofs
set_option linter.unusedVariables false
set_option linter.unusedSimpArgs false
theorem rapF0 (A : Option Addr) (n c : Nat) (wd : Int) (bs : List UInt8) (w : World) (hx : Bytes w A n c bs) (hn : n ≤ 1000000) :
    Calls Tryz.prog 20 #[.int .i64 0, .int .i64 wd, .slice A n c, .bool false] w (RetBytes w (trF 0 wd bs).1 (trF 0 wd bs).2) := by
  show Calls _ _ _ w (RetBytes w bs 0)
  have hb0 : Below w.heap.size w (w.alloc (.cells #[] 5)) := (Below.refl _ _).alloc (Nat.le_refl _) _
  have hx1 := hx.below hb0
  have HX1 := Lib.hid hx1
  have HB0 := Lib.hid hb0
  have m1 : Hid (0 + n ≤ maxLen ∧ (0 + n) * 1 ≤ 140737488355328) := ⟨by simp [maxLen]; omega, by omega⟩
  have hB : Hid (w.heap.size ≤ (w.alloc (.cells #[] 5)).heap.size) := hb0.size
  clear hx hx1 hb0
  go_enter Tryz.func20, Tryz.ntmps20
  go_wp2_with (at_builtin; refine wpList_app (enc := encB) rfl (.tmp 103) (.tmp 104) rfl uB infoB encB_one rfl rfl (own_empty w _) hB.out A n c bs 0 HX1.out.1 HX1.out.2.2 rfl m1.out.1 m1.out.2 ?_; intro A6 c6 W6 ho6 hb6 hg6)
  rw [List.nil_append, Nat.zero_add] at ho6
  have HF := Lib.hid (And.intro ho6.bytesB (HB0.out.trans hb6))
  clear ho6 hb6 hg6
  go_wp2_with fail
  go_ret2
  exact ⟨_, _, _, rfl, HF.out.1, HF.out.2⟩
theorem rapF1 (A : Option Addr) (n c : Nat) (wd : Int) (bs : List UInt8) (w : World) (hx : Bytes w A n c bs) (hn : n ≤ 1000000) :
    Calls Tryz.prog 20 #[.int .i64 1, .int .i64 wd, .slice A n c, .bool false] w (RetBytes w (trF 1 wd bs).1 (trF 1 wd bs).2) := by
  have h := ref38F_any A n c wd bs w hx hn
  rw [← hx.1] at h ⊢
  replace h : Calls Tryz.prog _ _ w (RetBytes w (trF 1 wd bs).1 (trF 1 wd bs).2) := h
  generalize (trF 1 wd bs).1 = R at h ⊢
  generalize (trF 1 wd bs).2 = x at h ⊢
  replace h := Lib.hid h
  clear hx hn
  go_enter Tryz.func20, Tryz.ntmps20
  go_wp2_with fail
  refine h.out.mono ?_
  rintro e w1 ⟨A1, n1, c1, rfl, hb, hw⟩
  have HB := Lib.hid (And.intro hb hw)
  clear hb hw
  go_wp2_with fail
  go_ret2
  exact ⟨_, _, _, rfl, HB.out.1, HB.out.2⟩
theorem rapF2 (A : Option Addr) (n c : Nat) (wd : Int) (bs : List UInt8) (w : World) (hx : Bytes w A n c bs) (hn : n ≤ 1000000) :
    Calls Tryz.prog 20 #[.int .i64 2, .int .i64 wd, .slice A n c, .bool false] w (RetBytes w (trF 2 wd bs).1 (trF 2 wd bs).2) := by
  have h := ref39F_any A n c wd bs w hx hn
  rw [← hx.1] at h ⊢
  replace h : Calls Tryz.prog _ _ w (RetBytes w (trF 2 wd bs).1 (trF 2 wd bs).2) := h
  generalize (trF 2 wd bs).1 = R at h ⊢
  generalize (trF 2 wd bs).2 = x at h ⊢
  replace h := Lib.hid h
  clear hx hn
  go_enter Tryz.func20, Tryz.ntmps20
  go_wp2_with fail
  refine h.out.mono ?_
  rintro e w1 ⟨A1, n1, c1, rfl, hb, hw⟩
  have HB := Lib.hid (And.intro hb hw)
  clear hb hw
  go_wp2_with fail
  go_ret2
  exact ⟨_, _, _, rfl, HB.out.1, HB.out.2⟩
theorem rapF3 (A : Option Addr) (n c : Nat) (wd : Int) (bs : List UInt8) (w : World) (hx : Bytes w A n c bs) (hn : n ≤ 1000000) :
    Calls Tryz.prog 20 #[.int .i64 3, .int .i64 wd, .slice A n c, .bool false] w (RetBytes w (trF 3 wd bs).1 (trF 3 wd bs).2) := by
  show Calls _ _ _ w (RetBytes w bs 0)
  have hb0 : Below w.heap.size w (w.alloc (.cells #[] 5)) := (Below.refl _ _).alloc (Nat.le_refl _) _
  have hx1 := hx.below hb0
  have HX1 := Lib.hid hx1
  have HB0 := Lib.hid hb0
  have m1 : Hid (0 + n ≤ maxLen ∧ (0 + n) * 1 ≤ 140737488355328) := ⟨by simp [maxLen]; omega, by omega⟩
  have hB : Hid (w.heap.size ≤ (w.alloc (.cells #[] 5)).heap.size) := hb0.size
  clear hx hx1 hb0
  go_enter Tryz.func20, Tryz.ntmps20
  go_wp2_with (at_builtin; refine wpList_app (enc := encB) rfl (.tmp 103) (.tmp 104) rfl uB infoB encB_one rfl rfl (own_empty w _) hB.out A n c bs 0 HX1.out.1 HX1.out.2.2 rfl m1.out.1 m1.out.2 ?_; intro A6 c6 W6 ho6 hb6 hg6)
  rw [List.nil_append, Nat.zero_add] at ho6
  have HF := Lib.hid (And.intro ho6.bytesB (HB0.out.trans hb6))
  clear ho6 hb6 hg6
  go_wp2_with fail
  go_ret2
  exact ⟨_, _, _, rfl, HF.out.1, HF.out.2⟩
theorem rapF4 (A : Option Addr) (n c : Nat) (wd : Int) (bs : List UInt8) (w : World) (hx : Bytes w A n c bs) (hn : n ≤ 1000000) :
    Calls Tryz.prog 20 #[.int .i64 4, .int .i64 wd, .slice A n c, .bool false] w (RetBytes w (trF 4 wd bs).1 (trF 4 wd bs).2) := by
  have h := ref40F_any A n c bs w hx hn
  rw [← hx.1] at h ⊢
  replace h : Calls Tryz.prog _ _ w (RetBytes w (trF 4 wd bs).1 (trF 4 wd bs).2) := h
  generalize (trF 4 wd bs).1 = R at h ⊢
  generalize (trF 4 wd bs).2 = x at h ⊢
  replace h := Lib.hid h
  clear hx hn
  go_enter Tryz.func20, Tryz.ntmps20
  go_wp2_with fail
  refine h.out.mono ?_
  rintro e w1 ⟨A1, n1, c1, rfl, hb, hw⟩
  have HB := Lib.hid (And.intro hb hw)
  clear hb hw
  go_wp2_with fail
  go_ret2
  exact ⟨_, _, _, rfl, HB.out.1, HB.out.2⟩
theorem rapF5 (A : Option Addr) (n c : Nat) (wd : Int) (bs : List UInt8) (w : World) (hx : Bytes w A n c bs) (hn : n ≤ 1000000) :
    Calls Tryz.prog 20 #[.int .i64 5, .int .i64 wd, .slice A n c, .bool false] w (RetBytes w (trF 5 wd bs).1 (trF 5 wd bs).2) := by
  have h := Dic.forwardT_any A c n bs w hx hn
  replace h : Calls Tryz.prog _ _ w (RetBytes w (trF 5 wd bs).1 (trF 5 wd bs).2) := h
  generalize (trF 5 wd bs).1 = R at h ⊢
  generalize (trF 5 wd bs).2 = x at h ⊢
  replace h := Lib.hid h
  clear hx hn
  go_enter Tryz.func20, Tryz.ntmps20
  go_wp2_with fail
  refine h.out.mono ?_
  rintro e w1 ⟨A1, n1, c1, rfl, hb, hw⟩
  have HB := Lib.hid (And.intro hb hw)
  clear hb hw
  go_wp2_with fail
  go_ret2
  exact ⟨_, _, _, rfl, HB.out.1, HB.out.2⟩
theorem rapF6 (A : Option Addr) (n c : Nat) (wd : Int) (bs : List UInt8) (w : World) (hx : Bytes w A n c bs) (hn : n ≤ 1000000) :
    Calls Tryz.prog 20 #[.int .i64 6, .int .i64 wd, .slice A n c, .bool false] w (RetBytes w (trF 6 wd bs).1 (trF 6 wd bs).2) := by
  have h := ref36F_any A n c bs w hx hn
  replace h : Calls Tryz.prog _ _ w (RetBytes w (trF 6 wd bs).1 (trF 6 wd bs).2) := h
  generalize (trF 6 wd bs).1 = R at h ⊢
  generalize (trF 6 wd bs).2 = x at h ⊢
  replace h := Lib.hid h
  clear hx hn
  go_enter Tryz.func20, Tryz.ntmps20
  go_wp2_with fail
  refine h.out.mono ?_
  rintro e w1 ⟨A1, n1, c1, rfl, hb, hw⟩
  have HB := Lib.hid (And.intro hb hw)
  clear hb hw
  go_wp2_with fail
  go_ret2
  exact ⟨_, _, _, rfl, HB.out.1, HB.out.2⟩
theorem rapF7 (A : Option Addr) (n c : Nat) (wd : Int) (bs : List UInt8) (w : World) (hx : Bytes w A n c bs) (hn : n ≤ 1000000) :
    Calls Tryz.prog 20 #[.int .i64 7, .int .i64 wd, .slice A n c, .bool false] w (RetBytes w (trF 7 wd bs).1 (trF 7 wd bs).2) := by
  have h := Bwt.packT_any A n c bs w hx (by omega)
  replace h : Calls Tryz.prog _ _ w (RetBytes w (trF 7 wd bs).1 (trF 7 wd bs).2) := h
  generalize (trF 7 wd bs).1 = R at h ⊢
  generalize (trF 7 wd bs).2 = x at h ⊢
  replace h := Lib.hid h
  clear hx hn
  go_enter Tryz.func20, Tryz.ntmps20
  go_wp2_with fail
  refine h.out.mono ?_
  rintro e w1 ⟨A1, n1, c1, rfl, hb, hw⟩
  have HB := Lib.hid (And.intro hb hw)
  clear hb hw
  go_wp2_with fail
  go_ret2
  exact ⟨_, _, _, rfl, HB.out.1, HB.out.2⟩
theorem rapF8 (A : Option Addr) (n c : Nat) (wd : Int) (bs : List UInt8) (w : World) (hx : Bytes w A n c bs) (hn : n ≤ 1000000) :
    Calls Tryz.prog 20 #[.int .i64 8, .int .i64 wd, .slice A n c, .bool false] w (RetBytes w (trF 8 wd bs).1 (trF 8 wd bs).2) := by
  have h := ref34F_any A n c bs w hx hn
  rw [← hx.1] at h ⊢
  replace h : Calls Tryz.prog _ _ w (RetBytes w (trF 8 wd bs).1 (trF 8 wd bs).2) := h
  generalize (trF 8 wd bs).1 = R at h ⊢
  generalize (trF 8 wd bs).2 = x at h ⊢
  replace h := Lib.hid h
  clear hx hn
  go_enter Tryz.func20, Tryz.ntmps20
  go_wp2_with fail
  refine h.out.mono ?_
  rintro e w1 ⟨A1, n1, c1, rfl, hb, hw⟩
  have HB := Lib.hid (And.intro hb hw)
  clear hb hw
  go_wp2_with fail
  go_ret2
  exact ⟨_, _, _, rfl, HB.out.1, HB.out.2⟩
theorem rapF9 (A : Option Addr) (n c : Nat) (wd : Int) (bs : List UInt8) (w : World) (hx : Bytes w A n c bs) (hn : n ≤ 1000000) :
    Calls Tryz.prog 20 #[.int .i64 9, .int .i64 wd, .slice A n c, .bool false] w (RetBytes w (trF 9 wd bs).1 (trF 9 wd bs).2) := by
  have h := ref34R_any A n c bs w hx hn
  replace h : Calls Tryz.prog _ _ w (RetBytes w (trF 9 wd bs).1 (trF 9 wd bs).2) := h
  generalize (trF 9 wd bs).1 = R at h ⊢
  generalize (trF 9 wd bs).2 = x at h ⊢
  replace h := Lib.hid h
  clear hx hn
  go_enter Tryz.func20, Tryz.ntmps20
  go_wp2_with fail
  refine h.out.mono ?_
  rintro e w1 ⟨A1, n1, c1, rfl, hb, hw⟩
  have HB := Lib.hid (And.intro hb hw)
  clear hb hw
  go_wp2_with fail
  go_ret2
  exact ⟨_, _, _, rfl, HB.out.1, HB.out.2⟩
theorem refApplyF_any (k : Int) (hk : 0 ≤ k ∧ k < 10) (A : Option Addr) (n c : Nat) (wd : Int) (bs : List UInt8) (w : World) (hx : Bytes w A n c bs) (hn : n ≤ 1000000) :
    Calls Tryz.prog 20 #[.int .i64 k, .int .i64 wd, .slice A n c, .bool false] w (RetBytes w (trF k.toNat wd bs).1 (trF k.toNat wd bs).2) := by
  obtain ⟨m, rfl⟩ : ∃ m : Nat, k = (m : Int) := ⟨k.toNat, by omega⟩
  have hm : m < 10 := by omega
  rw [Int.toNat_natCast]
  match m, hm with
  | 0, _ => exact rapF0 A n c wd bs w hx hn
  | 1, _ => exact rapF1 A n c wd bs w hx hn
  | 2, _ => exact rapF2 A n c wd bs w hx hn
  | 3, _ => exact rapF3 A n c wd bs w hx hn
  | 4, _ => exact rapF4 A n c wd bs w hx hn
  | 5, _ => exact rapF5 A n c wd bs w hx hn
  | 6, _ => exact rapF6 A n c wd bs w hx hn
  | 7, _ => exact rapF7 A n c wd bs w hx hn
  | 8, _ => exact rapF8 A n c wd bs w hx hn
  | 9, _ => exact rapF9 A n c wd bs w hx hn
end Go.Proofs.YtohadkmaemmfgaaGreatDoor

/- Contracts: Same, and the examples of the chapter (awake). -/
import Derived.Test.YtkndcbnajkiceaaWm
import Derived.Test.YtkndcbnajkiceaaWf
import Derived.Lib.SlBytesConst
namespace Go.Proofs.Ytkndcbnajkiceaa
open Go.RowKit Go.Proofs
set_option linter.unusedVariables false

set_option maxHeartbeats 400000 in
theorem same_any (A B : Option Addr) (c d n m : Nat) (xs ys : List Int) (w : World) (hx : Ints w A n c xs) (hy : Ints w B m d ys) (hn : n ≤ 1000000000) (hm : m ≤ 1000000000) :
    Calls Try.prog 13 #[.slice A n c, .slice B m d] w fun e w' => e = .returned (.bool (decide (xs = ys))) ∧ Drawn w w' := by
  have h := sameInts_any A B c d n m xs ys w hx hy hn hm
  have H := Lib.hid h; clear h
  go_enter Try.func13, Try.ntmps13
  go_wp2_with fail
  refine H.out.mono ?_
  rintro e w1 ⟨rfl, hd⟩
  go_wp2_with fail
  go_ret
  exact ⟨rfl, hd⟩

theorem lit_bytes (w : World) (e : TypeId) (fr : Nat × Nat) (bs : List UInt8) (n : Nat) (hn : bs.length = n) : Bytes (w.alloc (.cells (bs.map fun b => Value.int .u8 (b.toNat : Int)).toArray e fr)) (some ⟨w.heap.size, 0, none⟩) n n bs := by
  subst hn
  refine ⟨rfl, Nat.le_refl _, fun _ => ⟨w.heap.size, 0, rfl, by simp, fun i hi => ?_⟩⟩
  rw [Nat.zero_add, World.cell?_alloc_mark]
  simp [gb, List.getD, hi]
theorem lit_ints (w : World) (e : TypeId) (fr : Nat × Nat) (zs : List Int) (n : Nat) (hn : zs.length = n) : Ints (w.alloc (.cells (zs.map (Value.int .i64)).toArray e fr)) (some ⟨w.heap.size, 0, none⟩) n n zs := by
  subst hn
  refine ⟨rfl, Nat.le_refl _, fun _ => ⟨w.heap.size, 0, rfl, by simp, fun i hi => ?_⟩⟩
  rw [Nat.zero_add, World.cell?_alloc_mark]
  simp [gi, List.getD, hi]

def ban : List UInt8 := [98, 97, 110, 97, 110, 97]
def banO : List Int := [6, 5, 3, 1, 0, 4, 2]
def banC : List Int := [0, 0, 1, 3, 0, 0, 2]
def banR : List Int := [4, 3, 6, 2, 5, 1, 0]
theorem ban1 : sortL ban = banO := by decide +kernel
theorem ban2 : checkErr ban banO = 0 := by decide +kernel
theorem ban3 : commonOut ban banO = banC := by decide +kernel
theorem ban4 : ranksErr banO = 0 := by decide +kernel
theorem ban5 : ranksOut banO = banR := by decide +kernel
theorem ban6 : findErr ban banO [97, 110] = 0 ∧ findLow ban banO [97, 110] = 2 ∧ findHigh ban banO [97, 110] = 4 := by decide +kernel
theorem ban7 : findErr ban banO [] = 0 ∧ findLow ban banO [] = 0 ∧ findHigh ban banO [] = 7 := by decide +kernel
theorem ban8 : findErr ban banO [110, 97, 98] = 0 ∧ findLow ban banO [110, 97, 98] = 6 ∧ findHigh ban banO [110, 97, 98] = 6 := by decide +kernel

theorem Bytes.nil (w : World) (c : Nat) : Bytes w none 0 c [] := ⟨rfl, Nat.zero_le _, fun h => absurd h (by omega)⟩
theorem balloc {w w1 : World} (h : Below w.heap.size w w1) (o : Obj) : Below w.heap.size w (w1.alloc o) := h.alloc h.size o

set_option maxRecDepth 100000 in
set_option maxHeartbeats 2000000 in
theorem awake_any (w : World) : Calls Try.prog 10 #[] w fun e w' => e = .returned (.bool true) ∧ Below w.heap.size w w' := by
  have kc := fun (w : World) (C : Array Value) (n c : Nat) => Lib.run_convert_bytes_const (P := Try.prog) w 22 5 C n c uB u8
  go_enter Try.func10, Try.ntmps10
  go_wp2_with fail
  have hx0 : Bytes (w.alloc (.cells #[.int .u8 98, .int .u8 97, .int .u8 110, .int .u8 97, .int .u8 110, .int .u8 97] 5 (6, 7))) (some ⟨w.heap.size, 0, none⟩) 6 6 ban := lit_bytes w _ _ ban 6 rfl
  have hb0 : Below w.heap.size w (w.alloc (.cells #[.int .u8 98, .int .u8 97, .int .u8 110, .int .u8 97, .int .u8 110, .int .u8 97] 5 (6, 7))) := balloc (Below.refl _ _) _
  have h1 := sort_any _ _ _ _ _ hx0 (by omega)
  rw [ban1] at h1
  refine h1.mono ?_
  rintro e w1 ⟨A1, n1, c1, rfl, hs1, hb1⟩
  obtain rfl : n1 = 7 := hs1.1.symm
  have hx1 := hx0.below hb1
  have hb1' := hb0.trans (hb1.mono hb0.size)
  clear h1 hx0 hb0 hb1
  have h2 := common2_any _ _ _ _ _ _ _ _ _ hx1 hs1 (by omega) (by omega)
  rw [ban2, ban3] at h2
  have H2 := Lib.hid h2; clear h2
  go_wp2_with fail
  refine H2.out.mono ?_
  rintro e w2 ⟨A2, n2, c2, rfl, hs2, hb2⟩
  obtain rfl : n2 = 7 := hs2.1.symm
  have hx2 := hx1.below hb2
  have ho2 := hs1.below hb2
  have hb2' := hb1'.trans (hb2.mono hb1'.size)
  clear H2 hx1 hs1 hb1' hb2
  have h3 := ranks_any _ _ _ _ _ ho2 (by omega)
  rw [ban4, ban5] at h3
  have H3 := Lib.hid h3; clear h3
  go_wp2_with fail
  refine H3.out.mono ?_
  rintro e w3 ⟨A3, n3, c3, rfl, hs3, hb3⟩
  obtain rfl : n3 = 7 := hs3.1.symm
  have hx3 := hx2.below hb3
  have ho3 := ho2.below hb3
  have hc3 := hs2.below hb3
  have hb3' := hb2'.trans (hb3.mono hb2'.size)
  clear H3 hx2 ho2 hs2 hb2' hb3
  have hp4 : Bytes (w3.alloc (.cells #[.int .u8 97, .int .u8 110] 5 (2, 3))) (some ⟨w3.heap.size, 0, none⟩) 2 2 [97, 110] := lit_bytes w3 _ _ [97, 110] 2 rfl
  have hb4 : Below w3.heap.size w3 (w3.alloc (.cells #[.int .u8 97, .int .u8 110] 5 (2, 3))) := balloc (Below.refl _ _) _
  have h4 := find_any _ _ _ _ _ _ _ _ _ _ _ _ _ (hx3.below hb4) (ho3.below hb4) hp4 (by omega) (by omega) (by omega)
  rw [ban6.1, ban6.2.1, ban6.2.2] at h4
  have H4 := Lib.hid h4; clear h4
  go_wp2_with fail
  refine H4.out.mono ?_
  rintro e w4 ⟨rfl, hb4a⟩
  have hb4b : Below w3.heap.size w3 w4 := hb4.trans (hb4a.mono hb4.size)
  have hx4 := hx3.below hb4b
  have ho4 := ho3.below hb4b
  have hc4 := hc3.below hb4b
  have hr4 := hs3.below hb4b
  have hb4' := hb3'.trans (hb4b.mono hb3'.size)
  clear H4 hx3 ho3 hc3 hs3 hb3' hb4 hb4a hb4b hp4
  have h5 := find_any _ _ _ _ _ _ _ _ _ _ _ _ _ hx4 ho4 (Bytes.nil w4 0) (by omega) (by omega) (by omega)
  rw [ban7.1, ban7.2.1, ban7.2.2] at h5
  have H5 := Lib.hid h5; clear h5
  go_wp2_with fail
  refine H5.out.mono ?_
  rintro e w5 ⟨rfl, hb5⟩
  have hx5 := hx4.below hb5
  have ho5 := ho4.below hb5
  have hc5 := hc4.below hb5
  have hr5 := hr4.below hb5
  have hb5' := hb4'.trans (hb5.mono hb4'.size)
  clear H5 hx4 ho4 hc4 hr4 hb4' hb5
  have hp6 : Bytes (w5.alloc (.cells #[.int .u8 110, .int .u8 97, .int .u8 98] 5 (3, 4))) (some ⟨w5.heap.size, 0, none⟩) 3 3 [110, 97, 98] := lit_bytes w5 _ _ [110, 97, 98] 3 rfl
  have hb6 : Below w5.heap.size w5 (w5.alloc (.cells #[.int .u8 110, .int .u8 97, .int .u8 98] 5 (3, 4))) := balloc (Below.refl _ _) _
  have h6 := find_any _ _ _ _ _ _ _ _ _ _ _ _ _ (hx5.below hb6) (ho5.below hb6) hp6 (by omega) (by omega) (by omega)
  rw [ban8.1, ban8.2.1, ban8.2.2] at h6
  have H6 := Lib.hid h6; clear h6
  go_wp2_with fail
  refine H6.out.mono ?_
  rintro e w6 ⟨rfl, hb6a⟩
  have hb6b : Below w5.heap.size w5 w6 := hb6.trans (hb6a.mono hb6.size)
  have ho6 := ho5.below hb6b
  have hc6 := hc5.below hb6b
  have hr6 := hr5.below hb6b
  have hb6' := hb5'.trans (hb6b.mono hb5'.size)
  clear H6 hx5 ho5 hc5 hr5 hb5' hb6 hb6a hb6b hp6
  have hl7 : Ints (w6.alloc (.cells #[.int .i64 6, .int .i64 5, .int .i64 3, .int .i64 1, .int .i64 0, .int .i64 4, .int .i64 2] 3)) (some ⟨w6.heap.size, 0, none⟩) 7 7 banO := lit_ints w6 _ _ banO 7 rfl
  have hb7 : Below w6.heap.size w6 (w6.alloc (.cells #[.int .i64 6, .int .i64 5, .int .i64 3, .int .i64 1, .int .i64 0, .int .i64 4, .int .i64 2] 3)) := balloc (Below.refl _ _) _
  have h7 := same_any _ _ _ _ _ _ _ _ _ (ho6.below hb7) hl7 (by omega) (by omega)
  rw [decide_eq_true rfl] at h7
  have H7 := Lib.hid h7; clear h7
  go_wp2_with fail
  refine H7.out.mono ?_
  rintro e w7 ⟨rfl, hd7⟩
  have hb7b : Below w6.heap.size w6 w7 := hb7.trans (hd7.below _)
  have hc7 := hc6.below hb7b
  have hr7 := hr6.below hb7b
  have hb7' := hb6'.trans (hb7b.mono hb6'.size)
  clear H7 ho6 hc6 hr6 hb6' hb7 hd7 hb7b hl7
  have hl8 : Ints (w7.alloc (.cells #[.int .i64 0, .int .i64 0, .int .i64 1, .int .i64 3, .int .i64 0, .int .i64 0, .int .i64 2] 3)) (some ⟨w7.heap.size, 0, none⟩) 7 7 banC := lit_ints w7 _ _ banC 7 rfl
  have hb8 : Below w7.heap.size w7 (w7.alloc (.cells #[.int .i64 0, .int .i64 0, .int .i64 1, .int .i64 3, .int .i64 0, .int .i64 0, .int .i64 2] 3)) := balloc (Below.refl _ _) _
  have h8 := same_any _ _ _ _ _ _ _ _ _ (hc7.below hb8) hl8 (by omega) (by omega)
  rw [decide_eq_true rfl] at h8
  have H8 := Lib.hid h8; clear h8
  go_wp2_with fail
  refine H8.out.mono ?_
  rintro e w8 ⟨rfl, hd8⟩
  have hb8b : Below w7.heap.size w7 w8 := hb8.trans (hd8.below _)
  have hr8 := hr7.below hb8b
  have hb8' := hb7'.trans (hb8b.mono hb7'.size)
  clear H8 hc7 hr7 hb7' hb8 hd8 hb8b hl8
  have hl9 : Ints (w8.alloc (.cells #[.int .i64 4, .int .i64 3, .int .i64 6, .int .i64 2, .int .i64 5, .int .i64 1, .int .i64 0] 3)) (some ⟨w8.heap.size, 0, none⟩) 7 7 banR := lit_ints w8 _ _ banR 7 rfl
  have hb9 : Below w8.heap.size w8 (w8.alloc (.cells #[.int .i64 4, .int .i64 3, .int .i64 6, .int .i64 2, .int .i64 5, .int .i64 1, .int .i64 0] 3)) := balloc (Below.refl _ _) _
  have h9 := same_any _ _ _ _ _ _ _ _ _ (hr8.below hb9) hl9 (by omega) (by omega)
  rw [decide_eq_true rfl] at h9
  have H9 := Lib.hid h9; clear h9
  go_wp2_with fail
  refine H9.out.mono ?_
  rintro e w9 ⟨rfl, hd9⟩
  have hb9' := hb8'.trans ((hb9.trans (hd9.below _)).mono hb8'.size)
  go_wp2_with fail
  go_ret
  exact ⟨rfl, hb9'⟩
end Go.Proofs.Ytkndcbnajkiceaa

/- slices.Equal, bytes.Equal, the examples of the chapter (awake), and short, of layer 33. -/
import Derived.Test.YtoodfmilleodaaaBt
import Derived.Lib.SlBytesConst
namespace Go.Proofs.Ytoodfmilleodaaa
open Go.RowKit Go.Proofs Go.Sort
set_option linter.unusedVariables false

set_option maxHeartbeats 400000 in
theorem equal_any (A B : Option Addr) (c d n m : Nat) (xs ys : List Int) (w : World) (hx : Ints w A n c xs) (hy : Ints w B m d ys) (hn : n ≤ 1000000000) (hm : m ≤ 1000000000) :
    Calls Try.prog 27 #[.slice A n c, .slice B m d] w fun e w' => e = .returned (.bool (decide (xs = ys))) ∧ ∃ q, w' = w.drewN q := by
  obtain ⟨hxl, -, hxc⟩ := hx
  obtain ⟨hyl, -, hyc⟩ := hy
  by_cases hl : n = m
  · subst hl
    have hne : ((n : Int) != (n : Int)) = false := by simp
    have Hx := Lib.hid hxl; clear hxl
    have Hy := Lib.hid hyl; clear hyl
    go_enter Try.func27, Try.ntmps27
    go_wp2
    go_loopw [13] (fun i wr => ∃ k : Nat, k ≤ n ∧ i = .int .i64 k ∧ Hid (∀ j, j < k → gi xs j = gi ys j) ∧ ∃ q, wr = w.drewN q) (fun i _ => n - (intOf i).toNat)
    case atStart => exact ⟨0, Nat.zero_le _, rfl, fun j hj => absurd hj (by omega), 0, rfl⟩
    case round =>
      obtain ⟨k, hk, rfl, HK, q, rfl⟩ := hrel
      by_cases hlt : k < n
      · obtain ⟨b, off, rfl, hb, hc⟩ := hxc.get hlt
        obtain ⟨b', off', rfl, hb', hc'⟩ := hyc.get hlt
        have h1 := hc k hlt
        have h2 := hc' k hlt
        clear hc hc' hxc hyc
        by_cases he : gi xs k = gi ys k
        · have hd : (gi xs k != gi ys k) = false := by simp [he]
          have He := Lib.hid he
          clear he
          go_wp2
          go_quiet (fail)
          go_wp2
          go_roundw
          case rel => exact ⟨k + 1, by omega, by go_num, fun j hj => by
            rcases Nat.lt_succ_iff_lt_or_eq.1 hj with h | h
            · exact HK.out j h
            · subst h; exact He.out, _, rfl⟩
          case measure => simp [intOf]; omega
        · have hd : (gi xs k != gi ys k) = true := by simp [he]
          go_wp2
          go_quiet (fail)
          go_wp2
          go_ret
          exact ⟨ret_bool (by symm; apply decide_eq_false; intro h; exact he (by rw [h])), _, World.drewN_drewN ..⟩
      · go_wp2
        go_ret
        exact ⟨ret_bool (by symm; apply decide_eq_true; exact gi_ext (Hx.out.trans Hy.out.symm) (fun i hi => HK.out i (by have := Hx.out; omega))), _, rfl⟩
  · have hne : ((n : Int) != (m : Int)) = true := by simp; omega
    have hxy : Hid (decide (xs = ys) = false) := by apply decide_eq_false; intro h; apply hl; rw [← hxl, ← hyl, h]
    clear hxl hyl
    go_enter Try.func27, Try.ntmps27
    go_wp2
    go_ret
    exact ⟨ret_bool hxy.out.symm, 0, rfl⟩

set_option maxHeartbeats 400000 in
theorem equalB_any (A B : Option Addr) (c d n m : Nat) (xs ys : List UInt8) (w : World) (hx : Bytes w A n c xs) (hy : Bytes w B m d ys) :
    Calls Try.prog 15 #[.slice A n c, .slice B m d] w fun e w' => e = .returned (.bool (decide (xs = ys))) ∧ w' = w := by
  have r2 := hx.str 22 5 9 uB u8 uS
  have r3 := hy.str 22 5 9 uB u8 uS
  have hfin : Hid (((strB xs).toList == (strB ys).toList) = decide (xs = ys)) := strB_beq _ _
  go_enter Try.func15, Try.ntmps15
  go_wp2_with fail
  go_ret
  exact ⟨ret_bool hfin.out, rfl⟩

theorem lit_bytes (w : World) (e : TypeId) (fr : Nat × Nat) (bs : List UInt8) (n : Nat) (hn : bs.length = n) : Bytes (w.alloc (.cells (bs.map fun b => Value.int .u8 (b.toNat : Int)).toArray e fr)) (some ⟨w.heap.size, 0, none⟩) n n bs := by
  subst hn
  refine ⟨rfl, Nat.le_refl _, fun _ => ⟨w.heap.size, 0, rfl, by simp, fun i hi => ?_⟩⟩
  rw [Nat.zero_add, World.cell?_alloc_mark]
  simp [gb, List.getD, hi]
theorem lit_ints (w : World) (e : TypeId) (fr : Nat × Nat) (zs : List Int) (n : Nat) (hn : zs.length = n) : Ints (w.alloc (.cells (zs.map (Value.int .i64)).toArray e fr)) (some ⟨w.heap.size, 0, none⟩) n n zs := by
  subst hn
  refine ⟨rfl, Nat.le_refl _, fun _ => ⟨w.heap.size, 0, rfl, by simp, fun i hi => ?_⟩⟩
  rw [Nat.zero_add, World.cell?_alloc_mark]
  simp [gi, List.getD, hi]

theorem balloc {w w1 : World} (h : Below w.heap.size w w1) (o : Obj) : Below w.heap.size w (w1.alloc o) := h.alloc h.size o
def banB : List UInt8 := [98, 97, 110, 97, 110, 97]
def annB : List UInt8 := [97, 110, 110, 98, 97, 97]
theorem eg1 : fwdRes banB = (annB, 4, 0) := by decide +kernel
theorem eg2 : lkRes annB 4 = [1, 5, 6, 4, 0, 2, 3] ∧ limE 6 4 = 0 := by decide +kernel
theorem eg3 : invRes annB 4 = banB ∧ invErr annB 4 = 0 := by decide +kernel
theorem eg4 : invErr [97, 97] 0 = 3 := by decide +kernel
theorem eg5 : invRes [97, 97] 2 = [97, 97] ∧ invErr [97, 97] 2 = 0 := by decide +kernel
theorem eg6 : cntRes annB 4 [97, 110, 97] = 2 ∧ cntErr annB 4 [97, 110, 97] = 0 := by decide +kernel
theorem eg7 : packRes banB = (4 :: annB, 0) := by decide +kernel
theorem eg8 : unpackRes (4 :: annB) = (banB, 0) := by decide +kernel

set_option maxRecDepth 100000 in
set_option maxHeartbeats 4000000 in
theorem awake_any (w : World) : Calls Try.prog 12 #[] w fun e w' => e = .returned (.bool true) ∧ Below w.heap.size w w' := by
  have kc := fun (w : World) (C : Array Value) (n c : Nat) => Lib.run_convert_bytes_const (P := Try.prog) w 22 5 C n c uB u8
  go_enter Try.func12, Try.ntmps12
  go_wp2_with fail
  have l1 : Bytes (w.alloc (.cells #[.int .u8 98, .int .u8 97, .int .u8 110, .int .u8 97, .int .u8 110, .int .u8 97] 5 (6, 7))) (some ⟨w.heap.size, 0, none⟩) 6 6 banB := lit_bytes w _ _ banB 6 rfl
  have g1 : Below w.heap.size w (w.alloc (.cells #[.int .u8 98, .int .u8 97, .int .u8 110, .int .u8 97, .int .u8 110, .int .u8 97] 5 (6, 7))) := balloc (Below.refl _ _) _
  have h1 := forward_any _ _ _ _ _ l1 (by omega)
  rw [eg1] at h1
  have H1 := Lib.hid h1; clear h1
  refine H1.out.mono ?_
  rintro e w1 ⟨A1, n1, c1, rfl, k1, hb1⟩
  obtain rfl : n1 = 6 := k1.1.symm
  have t1 : Below w.heap.size w w1 := g1.trans (hb1.mono g1.size)
  have b1 := t1
  clear l1 g1 hb1 H1
  have l2 : Bytes (w1.alloc (.cells #[.int .u8 97, .int .u8 110, .int .u8 110, .int .u8 98, .int .u8 97, .int .u8 97] 5 (6, 7))) (some ⟨w1.heap.size, 0, none⟩) 6 6 annB := lit_bytes w1 _ _ annB 6 rfl
  have g2 : Below w1.heap.size w1 (w1.alloc (.cells #[.int .u8 97, .int .u8 110, .int .u8 110, .int .u8 98, .int .u8 97, .int .u8 97] 5 (6, 7))) := balloc (Below.refl _ _) _
  have h2 := linksP_any _ _ _ 4 _ _ l2 (by omega)
  rw [eg2.1, eg2.2] at h2
  have H2 := Lib.hid h2; clear h2
  go_wp2_with fail
  refine H2.out.mono ?_
  rintro e w2 ⟨A2, n2, c2, rfl, k2, hb2⟩
  obtain rfl : n2 = 7 := k2.1.symm
  have t2 : Below w1.heap.size w1 w2 := g2.trans (hb2.mono g2.size)
  have k1 := k1.below t2
  have b2 := b1.trans (t2.mono b1.size)
  clear l2 g2 hb2 H2
  have l3 : Bytes (w2.alloc (.cells #[.int .u8 97, .int .u8 110, .int .u8 110, .int .u8 98, .int .u8 97, .int .u8 97] 5 (6, 7))) (some ⟨w2.heap.size, 0, none⟩) 6 6 annB := lit_bytes w2 _ _ annB 6 rfl
  have g3 : Below w2.heap.size w2 (w2.alloc (.cells #[.int .u8 97, .int .u8 110, .int .u8 110, .int .u8 98, .int .u8 97, .int .u8 97] 5 (6, 7))) := balloc (Below.refl _ _) _
  have h3 := inverseP_any _ _ _ 4 _ _ l3 (by omega)
  rw [eg3.1, eg3.2] at h3
  have H3 := Lib.hid h3; clear h3
  go_wp2_with fail
  refine H3.out.mono ?_
  rintro e w3 ⟨A3, n3, c3, rfl, k3, hb3⟩
  obtain rfl : n3 = 6 := k3.1.symm
  have t3 : Below w2.heap.size w2 w3 := g3.trans (hb3.mono g3.size)
  have k1 := k1.below t3
  have k2 := k2.below t3
  have b3 := b2.trans (t3.mono b2.size)
  clear l3 g3 hb3 H3
  have l4 : Bytes (w3.alloc (.cells #[.int .u8 97, .int .u8 97] 5 (2, 3))) (some ⟨w3.heap.size, 0, none⟩) 2 2 [97, 97] := lit_bytes w3 _ _ [97, 97] 2 rfl
  have g4 : Below w3.heap.size w3 (w3.alloc (.cells #[.int .u8 97, .int .u8 97] 5 (2, 3))) := balloc (Below.refl _ _) _
  have h4 := inverseP_any _ _ _ 0 _ _ l4 (by omega)
  rw [eg4] at h4
  have H4 := Lib.hid h4; clear h4
  go_wp2_with fail
  refine H4.out.mono ?_
  rintro e w4 ⟨A4, n4, c4, rfl, -, hb4⟩
  have t4 : Below w3.heap.size w3 w4 := g4.trans (hb4.mono g4.size)
  have k1 := k1.below t4
  have k2 := k2.below t4
  have k3 := k3.below t4
  have b4 := b3.trans (t4.mono b3.size)
  clear l4 g4 hb4 H4
  have l5 : Bytes (w4.alloc (.cells #[.int .u8 97, .int .u8 97] 5 (2, 3))) (some ⟨w4.heap.size, 0, none⟩) 2 2 [97, 97] := lit_bytes w4 _ _ [97, 97] 2 rfl
  have g5 : Below w4.heap.size w4 (w4.alloc (.cells #[.int .u8 97, .int .u8 97] 5 (2, 3))) := balloc (Below.refl _ _) _
  have h5 := inverseP_any _ _ _ 2 _ _ l5 (by omega)
  rw [eg5.1, eg5.2] at h5
  have H5 := Lib.hid h5; clear h5
  go_wp2_with fail
  refine H5.out.mono ?_
  rintro e w5 ⟨A5, n5, c5, rfl, k5, hb5⟩
  obtain rfl : n5 = 2 := k5.1.symm
  have t5 : Below w4.heap.size w4 w5 := g5.trans (hb5.mono g5.size)
  have k1 := k1.below t5
  have k2 := k2.below t5
  have k3 := k3.below t5
  have b5 := b4.trans (t5.mono b4.size)
  clear l5 g5 hb5 H5
  have l6 : Bytes (w5.alloc (.cells #[.int .u8 97, .int .u8 110, .int .u8 110, .int .u8 98, .int .u8 97, .int .u8 97] 5 (6, 7))) (some ⟨w5.heap.size, 0, none⟩) 6 6 annB := lit_bytes w5 _ _ annB 6 rfl
  have g6 : Below w5.heap.size w5 (w5.alloc (.cells #[.int .u8 97, .int .u8 110, .int .u8 110, .int .u8 98, .int .u8 97, .int .u8 97] 5 (6, 7))) := balloc (Below.refl _ _) _
  obtain ⟨v6, hv6⟩ : ∃ v, v = w5.alloc (.cells #[.int .u8 97, .int .u8 110, .int .u8 110, .int .u8 98, .int .u8 97, .int .u8 97] 5 (6, 7)) := ⟨_, rfl⟩
  rw [← hv6] at l6 g6
  have l6a : Bytes (v6.alloc (.cells #[.int .u8 97, .int .u8 110, .int .u8 97] 5 (3, 4))) (some ⟨v6.heap.size, 0, none⟩) 3 3 [97, 110, 97] := lit_bytes v6 _ _ [97, 110, 97] 3 rfl
  have g6a : Below v6.heap.size v6 (v6.alloc (.cells #[.int .u8 97, .int .u8 110, .int .u8 97] 5 (3, 4))) := balloc (Below.refl _ _) _
  have g6b := g6.trans (g6a.mono g6.size)
  have l6b := l6.below g6a
  rw [hv6] at l6a l6b g6b
  rw [World.size_alloc] at l6a
  have h6 := count_any _ _ _ _ _ _ 4 _ _ _ l6b l6a (by omega) (by omega)
  rw [eg6.1, eg6.2] at h6
  have H6 := Lib.hid h6; clear h6
  clear hv6 l6 l6a l6b g6 g6a
  have kc6 := kc (w5.alloc (.cells #[.int .u8 97, .int .u8 110, .int .u8 110, .int .u8 98, .int .u8 97, .int .u8 97] 5 (6, 7))) #[.int .u8 97, .int .u8 110, .int .u8 97] 3 3
  rw [World.size_alloc] at kc6
  go_wp2_with fail
  refine H6.out.mono ?_
  rintro e w6 ⟨rfl, hb6⟩
  have t6 : Below w5.heap.size w5 w6 := g6b.trans (hb6.mono g6b.size)
  have k1 := k1.below t6
  have k2 := k2.below t6
  have k3 := k3.below t6
  have k5 := k5.below t6
  have b6 := b5.trans (t6.mono b5.size)
  clear g6b hb6 H6 kc6
  have l7 : Bytes (w6.alloc (.cells #[.int .u8 98, .int .u8 97, .int .u8 110, .int .u8 97, .int .u8 110, .int .u8 97] 5 (6, 7))) (some ⟨w6.heap.size, 0, none⟩) 6 6 banB := lit_bytes w6 _ _ banB 6 rfl
  have g7 : Below w6.heap.size w6 (w6.alloc (.cells #[.int .u8 98, .int .u8 97, .int .u8 110, .int .u8 97, .int .u8 110, .int .u8 97] 5 (6, 7))) := balloc (Below.refl _ _) _
  have h7 := pack_any _ _ _ _ _ l7 (by omega) (by omega)
  rw [eg7] at h7
  have H7 := Lib.hid h7; clear h7
  go_wp2_with fail
  refine H7.out.mono ?_
  rintro e w7 ⟨A7, n7, c7, rfl, k7, hb7⟩
  obtain rfl : n7 = 7 := k7.1.symm
  have t7 : Below w6.heap.size w6 w7 := g7.trans (hb7.mono g7.size)
  have k1 := k1.below t7
  have k2 := k2.below t7
  have k3 := k3.below t7
  have k5 := k5.below t7
  have b7 := b6.trans (t7.mono b6.size)
  clear l7 g7 hb7 H7 kc
  have h8 := unpack_any _ _ _ _ _ k7 (by omega)
  rw [eg8] at h8
  have H8 := Lib.hid h8; clear h8
  go_wp2_with fail
  refine H8.out.mono ?_
  rintro e w8 ⟨A8, n8, c8, rfl, k8, hb8⟩
  obtain rfl : n8 = 6 := k8.1.symm
  have t8 : Below w7.heap.size w7 w8 := hb8
  have k1 := k1.below t8
  have k2 := k2.below t8
  have k3 := k3.below t8
  have k5 := k5.below t8
  have k7 := k7.below t8
  have b8 := b7.trans (t8.mono b7.size)
  clear hb8 H8
  have li : Ints (w8.alloc (.cells #[.int .i64 1, .int .i64 5, .int .i64 6, .int .i64 4, .int .i64 0, .int .i64 2, .int .i64 3] 3)) (some ⟨w8.heap.size, 0, none⟩) 7 7 [1, 5, 6, 4, 0, 2, 3] := lit_ints w8 _ _ [1, 5, 6, 4, 0, 2, 3] 7 rfl
  have gl : Below w8.heap.size w8 (w8.alloc (.cells #[.int .i64 1, .int .i64 5, .int .i64 6, .int .i64 4, .int .i64 0, .int .i64 2, .int .i64 3] 3)) := balloc (Below.refl _ _) _
  have h9 := equal_any _ _ _ _ _ _ _ _ _ (k2.below gl) li (by omega) (by omega)
  rw [decide_eq_true rfl] at h9
  have H9 := Lib.hid h9; clear h9
  have x1 := k1.str 22 5 9 uB Go.Proofs.Ytoodfmilleodaaa.u8 uS
  have s1 : strB annB = ⟨#[97, 110, 110, 98, 97, 97]⟩ := rfl
  have s3 : strB banB = ⟨#[98, 97, 110, 97, 110, 97]⟩ := rfl
  have s5 : strB [97, 97] = ⟨#[97, 97]⟩ := rfl
  have s7 : strB (4 :: annB) = ⟨#[4, 97, 110, 110, 98, 97, 97]⟩ := rfl
  rw [s1] at x1
  go_wp2_with fail
  refine H9.out.mono ?_
  rintro e w9 ⟨rfl, q, rfl⟩
  have t9 : Below w8.heap.size w8 ((w8.alloc (.cells #[.int .i64 1, .int .i64 5, .int .i64 6, .int .i64 4, .int .i64 0, .int .i64 2, .int .i64 3] 3)).drewN q) := bdrew gl q
  have b9 := b8.trans (t9.mono b8.size)
  have y3 := (k3.below t9).str 22 5 9 uB Go.Proofs.Ytoodfmilleodaaa.u8 uS
  have y5 := (k5.below t9).str 22 5 9 uB Go.Proofs.Ytoodfmilleodaaa.u8 uS
  have y7 := (k7.below t9).str 22 5 9 uB Go.Proofs.Ytoodfmilleodaaa.u8 uS
  have y8 := (k8.below t9).str 22 5 9 uB Go.Proofs.Ytoodfmilleodaaa.u8 uS
  rw [s3] at y3
  rw [s5] at y5
  rw [s7] at y7
  rw [s3] at y8
  clear s1 s3 s5 s7 x1 H9
  go_wp2_with fail
  go_ret
  exact ⟨rfl, b9⟩
end Go.Proofs.Ytoodfmilleodaaa

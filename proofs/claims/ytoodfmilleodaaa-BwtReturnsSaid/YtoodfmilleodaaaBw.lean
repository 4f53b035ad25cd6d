/- The walks of the laws BwtForward, BwtInverse, BwtPacks. -/
import Derived.Test.YtoodfmilleodaaaBv
namespace Go.Proofs.Ytoodfmilleodaaa
open Go.RowKit Go.Proofs Go.Sort
set_option linter.unusedVariables false

theorem badN_false {n : Nat} (h : badN n = false) : n ≤ 200 ∨ 65536 < n ∧ n ≤ 65545 := by
  unfold badN at h
  simp at h
  omega
theorem eqi (x : Int) : (x == x) = true := by simp
theorem one_cells (w : World) (e : TypeId) (A : Option Addr) (n c : Nat) : Cells (w.alloc (.cells #[.slice A n c] e)) (some ⟨w.heap.size, 0, none⟩) 1 (fun i => encSl (sl [(A, n, c)] i)) := fun _ => ⟨w.heap.size, 0, rfl, by simp, fun i hi => by
  obtain rfl : i = 0 := by omega
  simp [encSl, sl]⟩
theorem anyBad_one (A : Option Addr) (n c : Nat) : anyBad [(A, n, c)] 1 = badN n := by simp [anyBad]

set_option maxRecDepth 100000 in
set_option maxHeartbeats 1000000 in
theorem bwtForward_any (A : Option Addr) (n c : Nat) (bs : List UInt8) (w : World) (hx : Bytes w A n c bs) :
    Calls Try.prog 7 #[.slice A n c] w fun e w' => e = .returned (.bool true) ∧ Below w.heap.size w w' := by
  have g0 : Below w.heap.size w (w.alloc (.cells #[.slice A n c] 22)) := balloc (Below.refl _ _) _
  have hs := short_any _ 1 1 _ _ rfl (by omega) (one_cells w 22 A n c)
  rw [show [(A, n, c)].length = 1 from rfl, anyBad_one] at hs
  cases hb : badN n with
  | true =>
    rw [hb] at hs
    have Hs := Lib.hid hs; clear hs hb
    go_enter Try.func7, Try.ntmps7
    go_wp2_with fail
    refine Hs.out.mono ?_
    rintro e w0 ⟨rfl, hw0⟩
    obtain rfl := hw0
    clear Hs
    go_wp2_with fail
    refine (awake_any _).mono ?_
    rintro e w1 ⟨rfl, hb1⟩
    go_wp2_with fail
    go_ret
    exact ⟨rfl, g0.trans (hb1.mono g0.size)⟩
  | false =>
    rw [hb] at hs
    have Hs := Lib.hid hs; clear hs
    have hn := badN_false hb
    clear hb
    have hn9 : n ≤ 1000000000 := by omega
    obtain ⟨w0, hw0⟩ : ∃ w0, w0 = w.alloc (.cells #[.slice A n c] 22) := ⟨_, rfl⟩
    have hx0 : Bytes w0 A n c bs := by rw [hw0]; exact hx.below g0
    rw [← hw0] at g0
    have q1 := eqi ((fwdRes bs).2.1 : Int)
    have q2 := eqi ((fwdRes bs).2.2 : Int)
    go_enter Try.func7, Try.ntmps7
    go_wp2_with fail
    refine Hs.out.mono ?_
    rintro e w9 ⟨rfl, hw9⟩
    obtain rfl := hw9
    rw [← hw0]
    clear Hs hw0
    have H1 := Lib.hid (forward_any A n c bs w0 hx0 hn9)
    go_wp2_with fail
    refine H1.out.mono ?_
    rintro e w1 ⟨A1, n1, c1, rfl, k1, hb1⟩
    have H2 := Lib.hid (forwardR_any A n c bs w1 (hx0.below hb1) hn9)
    clear H1
    go_wp2_with fail
    refine H2.out.mono ?_
    rintro e w2 ⟨A2, n2, c2, rfl, k2, hb2⟩
    have b2 := g0.trans ((hb1.trans (hb2.mono hb1.size)).mono g0.size)
    have h3 := equalB_any _ _ _ _ _ _ _ _ _ (k1.below hb2) k2
    rw [decide_eq_true rfl] at h3
    have H3 := Lib.hid h3; clear h3 H2 k1 k2
    go_wp2_with fail
    refine H3.out.mono ?_
    rintro e w3 ⟨rfl, hw3⟩
    obtain rfl : w2 = w3 := hw3.symm
    clear H3
    go_wp2_with fail
    refine (awake_any _).mono ?_
    rintro e w4 ⟨rfl, hb4⟩
    go_wp2_with fail
    go_ret
    exact ⟨rfl, b2.trans (hb4.mono b2.size)⟩

set_option maxRecDepth 100000 in
set_option maxHeartbeats 1000000 in
theorem bwtInverse_any (A : Option Addr) (n c : Nat) (p : Int) (bs : List UInt8) (w : World) (hx : Bytes w A n c bs) :
    Calls Try.prog 8 #[.slice A n c, .int .i64 p] w fun e w' => e = .returned (.bool true) ∧ Below w.heap.size w w' := by
  have g0 : Below w.heap.size w (w.alloc (.cells #[.slice A n c] 22)) := balloc (Below.refl _ _) _
  have hs := short_any _ 1 1 _ _ rfl (by omega) (one_cells w 22 A n c)
  rw [show [(A, n, c)].length = 1 from rfl, anyBad_one] at hs
  cases hb : badN n with
  | true =>
    rw [hb] at hs
    have Hs := Lib.hid hs; clear hs hb
    go_enter Try.func8, Try.ntmps8
    go_wp2_with fail
    refine Hs.out.mono ?_
    rintro e w0 ⟨rfl, hw0⟩
    obtain rfl := hw0
    clear Hs
    go_wp2_with fail
    refine (awake_any _).mono ?_
    rintro e w1 ⟨rfl, hb1⟩
    go_wp2_with fail
    go_ret
    exact ⟨rfl, g0.trans (hb1.mono g0.size)⟩
  | false =>
    rw [hb] at hs
    have Hs := Lib.hid hs; clear hs
    have hn := badN_false hb
    clear hb
    have hn9 : n ≤ 1000000000 := by omega
    obtain ⟨w0, hw0⟩ : ∃ w0, w0 = w.alloc (.cells #[.slice A n c] 22) := ⟨_, rfl⟩
    have hx0 : Bytes w0 A n c bs := by rw [hw0]; exact hx.below g0
    rw [← hw0] at g0
    have q1 := eqi (limE n p)
    have q2 := eqi (invErr bs p)
    go_enter Try.func8, Try.ntmps8
    go_wp2_with fail
    refine Hs.out.mono ?_
    rintro e w9 ⟨rfl, hw9⟩
    obtain rfl := hw9
    rw [← hw0]
    clear Hs hw0
    have H1 := Lib.hid (linksP_any A n c p bs w0 hx0 hn9)
    go_wp2_with fail
    refine H1.out.mono ?_
    rintro e w1 ⟨A1, n1, c1, rfl, k1, hb1⟩
    have hx1 := hx0.below hb1
    have b1 := g0.trans (hb1.mono g0.size)
    clear H1 hb1
    have H2 := Lib.hid (linksR_any A n c p bs w1 hx1 hn9)
    go_wp2_with fail
    refine H2.out.mono ?_
    rintro e w2 ⟨A2, n2, c2, rfl, k2, hb2⟩
    have hx2 := hx1.below hb2
    have b2 := b1.trans (hb2.mono b1.size)
    have k1 := k1.below hb2
    clear H2 hb2
    have H3 := Lib.hid (inverseP_any A n c p bs w2 hx2 hn9)
    go_wp2_with fail
    refine H3.out.mono ?_
    rintro e w3 ⟨A3, n3, c3, rfl, k3, hb3⟩
    have hx3 := hx2.below hb3
    have b3 := b2.trans (hb3.mono b2.size)
    have k1 := k1.below hb3
    have k2 := k2.below hb3
    clear H3 hb3
    have H4 := Lib.hid (inverseR_any A n c p bs w3 hx3 hn9)
    go_wp2_with fail
    refine H4.out.mono ?_
    rintro e w4 ⟨A4, n4, c4, rfl, k4, hb4⟩
    have b4 := b3.trans (hb4.mono b3.size)
    have k1 := k1.below hb4
    have k2 := k2.below hb4
    have k3 := k3.below hb4
    have hlk : (lkRes bs p).length ≤ 70000 := by
      unfold lkRes
      split
      · unfold lkAll; rw [lkTo_length]; have := hx.1; omega
      · simp
    have hl1 := k1.1
    have hl2 := k2.1
    clear H4 hb4
    have h5 := equal_any _ _ _ _ _ _ _ _ _ k1 k2 (by omega) (by omega)
    rw [decide_eq_true rfl] at h5
    have H5 := Lib.hid h5; clear h5 k1 k2 hl1 hl2 hlk
    go_wp2_with fail
    refine H5.out.mono ?_
    rintro e w5 ⟨rfl, qd, rfl⟩
    have b5 : Below w.heap.size w (w4.drewN qd) := bdrew b4 qd
    have h6 := equalB_any _ _ _ _ _ _ _ _ _ (k3.drewN qd) (k4.drewN qd)
    rw [decide_eq_true rfl] at h6
    have H6 := Lib.hid h6; clear h6 k3 k4 H5
    go_wp2_with fail
    refine H6.out.mono ?_
    rintro e w6 ⟨rfl, hw6⟩
    obtain rfl := hw6
    clear H6
    go_wp2_with fail
    refine (awake_any _).mono ?_
    rintro e wz ⟨rfl, hbz⟩
    go_wp2_with fail
    go_ret
    exact ⟨rfl, b5.trans (hbz.mono b5.size)⟩

set_option maxRecDepth 100000 in
set_option maxHeartbeats 1000000 in
theorem bwtPacks_any (A : Option Addr) (n c : Nat) (bs : List UInt8) (w : World) (hx : Bytes w A n c bs) :
    Calls Try.prog 9 #[.slice A n c] w fun e w' => e = .returned (.bool true) ∧ Below w.heap.size w w' := by
  have g0 : Below w.heap.size w (w.alloc (.cells #[.slice A n c] 22)) := balloc (Below.refl _ _) _
  have hs := short_any _ 1 1 _ _ rfl (by omega) (one_cells w 22 A n c)
  rw [show [(A, n, c)].length = 1 from rfl, anyBad_one] at hs
  cases hb : badN n with
  | true =>
    rw [hb] at hs
    have Hs := Lib.hid hs; clear hs hb
    go_enter Try.func9, Try.ntmps9
    go_wp2_with fail
    refine Hs.out.mono ?_
    rintro e w0 ⟨rfl, hw0⟩
    obtain rfl := hw0
    clear Hs
    go_wp2_with fail
    refine (awake_any _).mono ?_
    rintro e w1 ⟨rfl, hb1⟩
    go_wp2_with fail
    go_ret
    exact ⟨rfl, g0.trans (hb1.mono g0.size)⟩
  | false =>
    rw [hb] at hs
    have Hs := Lib.hid hs; clear hs
    have hn := badN_false hb
    clear hb
    have hn9 : n ≤ 1000000000 := by omega
    obtain ⟨w0, hw0⟩ : ∃ w0, w0 = w.alloc (.cells #[.slice A n c] 22) := ⟨_, rfl⟩
    have hx0 : Bytes w0 A n c bs := by rw [hw0]; exact hx.below g0
    rw [← hw0] at g0
    have q1 := eqi ((packRes bs).2 : Int)
    have q2 := eqi (unpackRes bs).2
    go_enter Try.func9, Try.ntmps9
    go_wp2_with fail
    refine Hs.out.mono ?_
    rintro e w9 ⟨rfl, hw9⟩
    obtain rfl := hw9
    rw [← hw0]
    clear Hs hw0
    have H1 := Lib.hid (pack_any A n c bs w0 hx0 hn9 (by omega))
    go_wp2_with fail
    refine H1.out.mono ?_
    rintro e w1 ⟨A1, n1, c1, rfl, k1, hb1⟩
    have hx1 := hx0.below hb1
    have b1 := g0.trans (hb1.mono g0.size)
    clear H1 hb1
    have H2 := Lib.hid (packR_any A n c bs w1 hx1 hn9 (by omega))
    go_wp2_with fail
    refine H2.out.mono ?_
    rintro e w2 ⟨A2, n2, c2, rfl, k2, hb2⟩
    have hx2 := hx1.below hb2
    have b2 := b1.trans (hb2.mono b1.size)
    have k1 := k1.below hb2
    clear H2 hb2
    have H3 := Lib.hid (unpack_any A n c bs w2 hx2 hn9)
    go_wp2_with fail
    refine H3.out.mono ?_
    rintro e w3 ⟨A3, n3, c3, rfl, k3, hb3⟩
    have hx3 := hx2.below hb3
    have b3 := b2.trans (hb3.mono b2.size)
    have k1 := k1.below hb3
    have k2 := k2.below hb3
    clear H3 hb3
    have H4 := Lib.hid (unpackR_any A n c bs w3 hx3 hn9)
    go_wp2_with fail
    refine H4.out.mono ?_
    rintro e w4 ⟨A4, n4, c4, rfl, k4, hb4⟩
    have b4 := b3.trans (hb4.mono b3.size)
    have k1 := k1.below hb4
    have k2 := k2.below hb4
    have k3 := k3.below hb4
    clear H4 hb4
    have h5 := equalB_any _ _ _ _ _ _ _ _ _ k1 k2
    rw [decide_eq_true rfl] at h5
    have H5 := Lib.hid h5; clear h5 k1 k2
    have h6 := equalB_any _ _ _ _ _ _ _ _ _ k3 k4
    rw [decide_eq_true rfl] at h6
    have H6 := Lib.hid h6; clear h6 k3 k4
    go_wp2_with fail
    refine H5.out.mono ?_
    rintro e w5 ⟨rfl, hw5⟩
    obtain rfl := hw5
    clear H5
    go_wp2_with fail
    refine H6.out.mono ?_
    rintro e w6 ⟨rfl, hw6⟩
    obtain rfl := hw6
    clear H6
    go_wp2_with fail
    refine (awake_any _).mono ?_
    rintro e wz ⟨rfl, hbz⟩
    go_wp2_with fail
    go_ret
    exact ⟨rfl, b4.trans (hbz.mono b4.size)⟩
end Go.Proofs.Ytoodfmilleodaaa

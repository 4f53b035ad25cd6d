/- Links and Inverse of layer 33. -/
import Derived.Test.YtoodfmilleodaaaBh
namespace Go.Proofs.Ytoodfmilleodaaa
open Go.RowKit Go.Proofs Go.Shelf
set_option linter.unusedVariables false

theorem limE_zero {n : Nat} {p : Int} (h : limE n p = 0) : n ≤ 65536 ∧ 0 ≤ p ∧ p ≤ n := by
  unfold limE at h
  split at h
  · cases h
  · split at h
    · cases h
    · omega
def lkRes (bs : List UInt8) (p : Int) : List Int := if limE bs.length p = 0 then lkAll p.toNat bs else []
def invRes (bs : List UInt8) (p : Int) : List UInt8 := if limE bs.length p = 0 then invL p.toNat bs else []
def invErr (bs : List UInt8) (p : Int) : Int := if limE bs.length p = 0 then invE p.toNat bs else limE bs.length p

theorem linksP_any (A : Option Addr) (n c : Nat) (p : Int) (bs : List UInt8) (w : World) (hx : Bytes w A n c bs) (hn : n ≤ 1000000000) :
    Calls Try.prog 16 #[.slice A n c, .int .i64 p] w (RetInts w (lkRes bs p) (limE n p)) := by
  have Hn := Lib.hid hx.1
  have hcal := newRows_any A n c p w hn
  by_cases h : limE n p = 0
  · obtain ⟨h1, h2, h3⟩ := limE_zero h
    unfold newV at hcal
    rw [if_pos h, h] at hcal
    have Hcal := Lib.hid hcal; clear hcal
    have hR : Hid (lkRes bs p = lkAll p.toNat bs) := by show _ = _; unfold lkRes; rw [Hn.out, if_pos h]
    rw [h]
    clear h
    obtain ⟨q, rfl⟩ : ∃ q : Nat, p = (q : Int) := ⟨p.toNat, by omega⟩
    rw [Int.toNat_natCast] at hR
    go_enter Try.func16, Try.ntmps16
    go_wp2_with fail
    refine Hcal.out.mono ?_
    rintro e w1 ⟨rfl, hb1⟩
    have hx1 := hx.below hb1
    clear Hcal
    go_wp2_with fail
    have hc2 := links_any A n c q bs _ (hx1.alloc (.cells #[.slice A n c, .int .i64 (q : Int)] 66)) (by omega) (by omega)
    refine hc2.mono ?_
    rintro e w2 ⟨g, rfl, hrow, hb2⟩
    have hbel : Below w.heap.size w w2 := (hb1.alloc hb1.size _).trans (hb2.mono (by rw [World.size_alloc]; have := hb1.size; omega))
    go_wp2_with fail
    go_ret2
    rw [hR.out]
    exact RetInts.mk rfl (hrow.ints (by unfold lkAll; rw [lkTo_length, Hn.out]) (Nat.le_refl _)) hbel
  · unfold newV at hcal
    rw [if_neg h] at hcal
    have Hcal := Lib.hid hcal; clear hcal
    have hR : Hid (lkRes bs p = []) := by show _ = _; unfold lkRes; rw [Hn.out, if_neg h]
    obtain ⟨x, hx'⟩ : ∃ x, x = limE n p := ⟨_, rfl⟩
    rw [← hx'] at Hcal h ⊢
    clear hx'
    have d0 : (x != 0) = true := by simp; exact h
    go_enter Try.func16, Try.ntmps16
    go_wp2_with fail
    refine Hcal.out.mono ?_
    rintro e w1 ⟨rfl, hb1⟩
    clear Hcal
    go_wp2_with fail
    go_ret2
    rw [hR.out]
    exact RetInts.mk rfl (Ints.nil _ _) (hb1.alloc hb1.size _)

theorem inverseP_any (A : Option Addr) (n c : Nat) (p : Int) (bs : List UInt8) (w : World) (hx : Bytes w A n c bs) (hn : n ≤ 1000000000) :
    Calls Try.prog 13 #[.slice A n c, .int .i64 p] w (RetBytes w (invRes bs p) (invErr bs p)) := by
  have Hn := Lib.hid hx.1
  have hcal := newRows_any A n c p w hn
  by_cases h : limE n p = 0
  · obtain ⟨h1, h2, h3⟩ := limE_zero h
    unfold newV at hcal
    rw [if_pos h, h] at hcal
    have Hcal := Lib.hid hcal; clear hcal
    have hR : Hid (invRes bs p = invL p.toNat bs ∧ invErr bs p = invE p.toNat bs) := by show _ ∧ _; unfold invRes invErr; rw [Hn.out, if_pos h, if_pos h]; exact ⟨rfl, rfl⟩
    clear h
    obtain ⟨q, rfl⟩ : ∃ q : Nat, p = (q : Int) := ⟨p.toNat, by omega⟩
    rw [Int.toNat_natCast] at hR
    go_enter Try.func13, Try.ntmps13
    go_wp2_with fail
    refine Hcal.out.mono ?_
    rintro e w1 ⟨rfl, hb1⟩
    have hx1 := hx.below hb1
    clear Hcal
    go_wp2_with fail
    have hc2 := inverse_any A n c q bs _ (hx1.alloc (.cells #[.slice A n c, .int .i64 (q : Int)] 66)) (by omega) (by omega)
    refine hc2.mono ?_
    rintro e w2 ⟨A2, n2, c2, rfl, hby, hb2⟩
    have hbel : Below w.heap.size w w2 := (hb1.alloc hb1.size _).trans (hb2.mono (by rw [World.size_alloc]; have := hb1.size; omega))
    go_wp2_with fail
    go_ret2
    rw [hR.out.1, hR.out.2]
    exact RetBytes.mk rfl hby hbel
  · unfold newV at hcal
    rw [if_neg h] at hcal
    have Hcal := Lib.hid hcal; clear hcal
    have hR : Hid (invRes bs p = [] ∧ invErr bs p = limE n p) := by show _ ∧ _; unfold invRes invErr; rw [Hn.out, if_neg h, if_neg h]; exact ⟨rfl, rfl⟩
    obtain ⟨x, hx'⟩ : ∃ x, x = limE n p := ⟨_, rfl⟩
    rw [← hx'] at Hcal h hR
    clear hx'
    have d0 : (x != 0) = true := by simp; exact h
    go_enter Try.func13, Try.ntmps13
    go_wp2_with fail
    refine Hcal.out.mono ?_
    rintro e w1 ⟨rfl, hb1⟩
    clear Hcal
    go_wp2_with fail
    go_ret2
    rw [hR.out.1, hR.out.2]
    exact RetBytes.err rfl (hb1.alloc hb1.size _)
end Go.Proofs.Ytoodfmilleodaaa

/- The walk of the law BwtCounts. -/
import Derived.Test.YtoodfmilleodaaaBz
import Derived.Test.YtoodfmilleodaaaBx
namespace Go.Proofs.Ytoodfmilleodaaa
open Go.RowKit Go.Proofs Go.Sort
set_option linter.unusedVariables false

theorem cntRes_eq (bs : List UInt8) (p : Int) (pat : List UInt8) : cntRes bs p pat = cntResR bs p pat := by
  unfold cntRes cntResR
  by_cases h : cntErr bs p pat = 0
  · rw [if_pos h, if_pos h]
    have h0 : invErr bs p = 0 := by
      unfold cntErr at h
      by_cases h1 : invErr bs p = 0
      · exact h1
      · rw [if_pos h1] at h; exact absurd h h1
    have hl : limE bs.length p = 0 := by
      unfold invErr at h0
      by_cases h1 : limE bs.length p = 0
      · exact h1
      · rw [if_neg h1] at h0; exact absurd h0 h1
    obtain ⟨h1, h2, h3⟩ := limE_zero hl
    unfold invErr at h0
    rw [if_pos hl] at h0
    unfold invE at h0
    have hw0 : ¬ wl p.toNat bs < bs.length := fun hh => by rw [if_pos hh] at h0; cases h0
    have hp : p.toNat ≤ bs.length := by omega
    have hw : wl p.toNat bs = bs.length := by have := wl_le hp; omega
    have he : invRes bs p = strW p.toNat bs := by unfold invRes invL; rw [if_pos hl, if_neg hw0]; rfl
    rw [he, cnt_occ hp hw]
  · rw [if_neg h, if_neg h]
theorem two_cells (w : World) (e : TypeId) (A A' : Option Addr) (n c n' c' : Nat) : Cells (w.alloc (.cells #[.slice A n c, .slice A' n' c'] e)) (some ⟨w.heap.size, 0, none⟩) 2 (fun i => encSl (sl [(A, n, c), (A', n', c')] i)) := fun _ => ⟨w.heap.size, 0, rfl, by simp, fun i hi => by
  rcases (by omega : i = 0 ∨ i = 1) with rfl | rfl <;> simp [encSl, sl]⟩
theorem anyBad_two (A A' : Option Addr) (n c n' c' : Nat) : anyBad [(A, n, c), (A', n', c')] 2 = (badN n || badN n') := by simp [anyBad]

set_option maxRecDepth 100000 in
set_option maxHeartbeats 1000000 in
theorem bwtCounts_any (A A' : Option Addr) (n c n' c' : Nat) (p : Int) (bs pat : List UInt8) (w : World) (hx : Bytes w A n c bs) (hy : Bytes w A' n' c' pat) :
    Calls Try.prog 5 #[.slice A n c, .int .i64 p, .slice A' n' c'] w fun e w' => e = .returned (.bool true) ∧ Below w.heap.size w w' := by
  have g0 : Below w.heap.size w (w.alloc (.cells #[.slice A n c, .slice A' n' c'] 22)) := balloc (Below.refl _ _) _
  have hs := short_any _ 2 2 _ _ rfl (by omega) (two_cells w 22 A A' n c n' c')
  rw [show [(A, n, c), (A', n', c')].length = 2 from rfl, anyBad_two] at hs
  cases hb : (badN n || badN n') with
  | true =>
    rw [hb] at hs
    have Hs := Lib.hid hs; clear hs hb
    go_enter Try.func5, Try.ntmps5
    go_wp2_with fail
    refine Hs.out.mono ?_
    rintro e w0 ⟨rfl, hw0⟩
    obtain rfl := hw0
    clear Hs
    go_wp2_with fail
    refine (awake_any _).mono ?_
    rintro e w1 ⟨rfl, hb1⟩
    go_wp2_with fail
    go_ret
    exact ⟨rfl, g0.trans (hb1.mono g0.size)⟩
  | false =>
    rw [hb] at hs
    have Hs := Lib.hid hs; clear hs
    rw [Bool.or_eq_false_iff] at hb
    have hn := badN_false hb.1
    have hn' := badN_false hb.2
    clear hb
    have hn9 : n ≤ 1000000000 := by omega
    have hn9' : n' ≤ 1000000000 := by omega
    obtain ⟨w0, hw0⟩ : ∃ w0, w0 = w.alloc (.cells #[.slice A n c, .slice A' n' c'] 22) := ⟨_, rfl⟩
    have hx0 : Bytes w0 A n c bs := by rw [hw0]; exact hx.below g0
    have hy0 : Bytes w0 A' n' c' pat := by rw [hw0]; exact hy.below g0
    rw [← hw0] at g0
    have q1 := eqi (cntResR bs p pat)
    have q2 := eqi (cntErr bs p pat)
    go_enter Try.func5, Try.ntmps5
    go_wp2_with fail
    refine Hs.out.mono ?_
    rintro e w9 ⟨rfl, hw9⟩
    obtain rfl := hw9
    rw [← hw0]
    clear Hs hw0
    have h1 := count_any A A' n c n' c' p bs pat w0 hx0 hy0 hn9 hn9'
    rw [cntRes_eq] at h1
    have H1 := Lib.hid h1; clear h1
    go_wp2_with fail
    refine H1.out.mono ?_
    rintro e w1 ⟨rfl, hb1⟩
    have b1 := g0.trans (hb1.mono g0.size)
    have H2 := Lib.hid (countR_any A A' n c n' c' p bs pat w1 (hx0.below hb1) (hy0.below hb1) hn9 hn9')
    clear H1 hb1
    go_wp2_with fail
    refine H2.out.mono ?_
    rintro e w2 ⟨rfl, hb2⟩
    have b2 := b1.trans (hb2.mono b1.size)
    clear H2 hb2
    go_wp2_with fail
    refine (awake_any _).mono ?_
    rintro e wz ⟨rfl, hbz⟩
    go_wp2_with fail
    go_ret
    exact ⟨rfl, b2.trans (hbz.mono b2.size)⟩
end Go.Proofs.Ytoodfmilleodaaa

/- Qd Uh Us Ut Ui. -/
import Derived.Test.YtohadkmaemmfgaaGreatDoorRA41
import Derived.Test.YtohadkmaemmfgaaGreatDoorRA24
import Derived.Test.YtohadkmaemmfgaaGreatDoorRA39
import Derived.Test.YtohadkmaemmfgaaGreatDoorRA10
import Derived.Test.YtohadkmaemmfgaaGreatDoorRA13
import Derived.BigQuiet
import Derived.Test.YtohadkmaemmfgaaGreatDoorRA12
set_option maxRecDepth 100000
set_option maxHeartbeats 4000000
namespace Go.Proofs.YtohadkmaemmfgaaGreatDoor
open Go.RowKit Go.Proofs
set_option linter.unusedVariables false
set_option linter.unusedSimpArgs false
attribute [local go_sem] Oper.semAt_some
structure CxI (w : World) (A : Option Addr) (m c L : Nat) (t : Tok) (W : World) : Prop where
  box : rowV W w.heap.size 184 #[.slice A m c, .int .i64 (L : Int)]
  tok : rowV W (w.heap.size + 1) 180 (tokV t)
  res : rowV W (w.heap.size + 2) 184 #[.slice none 0 0, .int .i64 0]
  below : Below w.heap.size w W
section
variable {w W W' : World} {A : Option Addr} {m c L : Nat} {t : Tok}
theorem CxI.start (w : World) (A : Option Addr) (m c L : Nat) (t : Tok) : CxI w A m c L t (((w.alloc (.cells #[.slice A m c, .int .i64 (L : Int)] 184)).alloc (.cells (tokV t) 180)).alloc (.cells #[.slice none 0 0, .int .i64 0] 184)) := by
  obtain ⟨w1, hw1⟩ : ∃ w1, w1 = w.alloc (.cells #[.slice A m c, .int .i64 (L : Int)] 184) := ⟨_, rfl⟩
  have h1 : rowV w1 w.heap.size 184 #[.slice A m c, .int .i64 (L : Int)] := by rw [hw1]; exact rowV.new w _ _
  have s1 : w1.heap.size = w.heap.size + 1 := by rw [hw1, World.size_alloc]
  have b1 : Below w.heap.size w w1 := by rw [hw1]; exact balloc (Below.refl _ _) _
  rw [← hw1]
  obtain ⟨w2, hw2⟩ : ∃ w2, w2 = w1.alloc (.cells (tokV t) 180) := ⟨_, rfl⟩
  have h2 : rowV w2 (w.heap.size + 1) 180 (tokV t) := by rw [hw2, ← s1]; exact rowV.new w1 _ _
  have s2 : w2.heap.size = w.heap.size + 2 := by rw [hw2, World.size_alloc, s1]
  have b2 : Below w1.heap.size w1 w2 := by rw [hw2]; exact balloc (Below.refl _ _) _
  rw [← hw2]
  have h3 := rowV.new w2 184 #[.slice none 0 0, .int .i64 0]
  rw [s2] at h3
  have b3 := balloc (Below.refl w2.heap.size w2) (.cells #[.slice none 0 0, .int .i64 0] 184)
  have h12 := h1.below b2 h1.lt
  exact ⟨h12.below b3 h12.lt, h2.below b3 h2.lt, h3, b1.trans ((b2.mono b1.size).trans (b3.mono (Nat.le_trans b1.size b2.size)))⟩
theorem CxI.call (h : CxI w A m c L t W) (hb : Below W.heap.size W W') : CxI w A m c L t W' := ⟨h.box.below hb h.box.lt, h.tok.below hb h.tok.lt, h.res.below hb h.res.lt, h.below.trans (hb.mono h.below.size)⟩
theorem CxI.set (h : CxI w A m c L t W) (A' : Option Addr) (m' c' L' : Nat) : CxI w A' m' c' L' t ((W.setCell ⟨w.heap.size, 0, none⟩ (.slice A' m' c')).setCell ⟨w.heap.size, 1, none⟩ (.int .i64 (L' : Int))) := by
  have oth : ∀ q, q ≠ w.heap.size → ((W.setCell ⟨w.heap.size, 0, none⟩ (.slice A' m' c')).setCell ⟨w.heap.size, 1, none⟩ (.int .i64 (L' : Int))).heap[q]? = W.heap[q]? := fun q hq => (Below.heap_setCell _ ⟨w.heap.size, 1, none⟩ _ q hq).trans (Below.heap_setCell _ ⟨w.heap.size, 0, none⟩ _ q hq)
  exact ⟨(h.box.set 0 _).set 1 _, (oth _ (by omega)).trans h.tok, (oth _ (by omega)).trans h.res, (h.below.setCell (p := ⟨w.heap.size, 0, none⟩) (Nat.le_refl _) _).setCell (p := ⟨w.heap.size, 1, none⟩) (Nat.le_refl _) _⟩
theorem own_two {B g n' c' : Nat} {A' : Option Addr} {xs : List UInt8} {cs : Array Value} (ho : Own encB W B 5 A' n' c' xs) (h : rowV W g 184 cs) (x y : Value) : Own encB ((W.setCell ⟨g, 0, none⟩ x).setCell ⟨g, 1, none⟩ y) B 5 A' n' c' xs :=
  own_keepT ho fun j cur _ hj => by
    have hne : j ≠ g := fun e => by
      subst e
      have hr : W.heap[j]? = _ := h
      rw [hr] at hj
      injection hj with hj
      injection hj with _ hj
      exact absurd hj (by decide)
    exact (Below.heap_setCell _ ⟨g, 1, none⟩ _ j hne).trans ((Below.heap_setCell _ ⟨g, 0, none⟩ _ j hne).trans hj)
theorem CxI.lay (h : CxI w A m c L t W) (x y : Value) :
    rowV ((W.setCell ⟨w.heap.size + 2, 0, none⟩ x).setCell ⟨w.heap.size + 2, 1, none⟩ y) (w.heap.size + 2) 184 #[x, y] ∧ Below w.heap.size w ((W.setCell ⟨w.heap.size + 2, 0, none⟩ x).setCell ⟨w.heap.size + 2, 1, none⟩ y) :=
  ⟨(h.res.set 0 x).set 1 y, (h.below.setCell (p := ⟨w.heap.size + 2, 0, none⟩) (by show _ ≤ w.heap.size + 2; omega) x).setCell (p := ⟨w.heap.size + 2, 1, none⟩) (by show _ ≤ w.heap.size + 2; omega) y⟩
theorem CxI.cells (h : CxI w A m c L t W) : (W.cell? ⟨w.heap.size, 0, none⟩ = some (.slice A m c) ∧ W.cell? ⟨w.heap.size, 1, none⟩ = some (.int .i64 (L : Int)) ∧ W.frozen? ⟨w.heap.size, 0, none⟩ = false ∧ W.frozen? ⟨w.heap.size, 1, none⟩ = false) ∧ (W.cell? ⟨w.heap.size + 1, 0, none⟩ = some (.int .i64 (t.len : Int)) ∧ W.cell? ⟨w.heap.size + 1, 1, none⟩ = some (.int .i64 (t.dst : Int)) ∧ W.cell? ⟨w.heap.size + 1, 2, none⟩ = some (.int .u8 (t.byt.toNat : Int))) ∧ (W.cell? ⟨w.heap.size + 2, 0, none⟩ = some (.slice none 0 0) ∧ W.cell? ⟨w.heap.size + 2, 1, none⟩ = some (.int .i64 0)) ∧ W.frozen? ⟨w.heap.size + 2, 0, none⟩ = false ∧ W.frozen? ⟨w.heap.size + 2, 1, none⟩ = false :=
  ⟨⟨h.box.cell rfl, h.box.cell rfl, h.box.frozen 0, h.box.frozen 1⟩, ⟨h.tok.cell rfl, h.tok.cell rfl, h.tok.cell rfl⟩, ⟨h.res.cell rfl, h.res.cell rfl⟩, h.res.frozen 0, h.res.frozen 1⟩
end
def CodP (w : World) (l : List Bool) (e : Ending) (w' : World) : Prop := ∃ A2 m2 c2, e = .returned (.agg #[.slice A2 m2 c2, .int .i64 (l.length : Int)]) ∧ Own encB w' w.heap.size 5 A2 m2 c2 (pack l) ∧ Below w.heap.size w w'
theorem CodP.fin {w W : World} {A A' : Option Addr} {m c L m' c' : Nat} {t : Tok} {l : List Bool} (h : CxI w A m c L t W) (ho : Own encB W w.heap.size 5 A' m' c' (pack l)) : rowV ((W.setCell ⟨w.heap.size + 2, 0, none⟩ (.slice A' m' c')).setCell ⟨w.heap.size + 2, 1, none⟩ (.int .i64 (l.length : Int))) (w.heap.size + 2) 184 #[.slice A' m' c', .int .i64 (l.length : Int)] ∧ CodP w l (.returned (.agg #[.slice A' m' c', .int .i64 (l.length : Int)])) ((W.setCell ⟨w.heap.size + 2, 0, none⟩ (.slice A' m' c')).setCell ⟨w.heap.size + 2, 1, none⟩ (.int .i64 (l.length : Int))) :=
  ⟨(h.lay _ _).1, A', m', c', rfl, own_two ho h.res _ _, (h.lay _ _).2⟩
theorem code35_any (A : Option Addr) (m c : Nat) (l : List Bool) (t : Tok) (w : World) (hx : Bytes w A m c (pack l)) (hr : rightT t = true) (ht : TokLim t) (hL : l.length + (tokB t).length ≤ 524288) :
    Calls Tryz.prog 188 #[.agg #[.slice A m c, .int .i64 (l.length : Int)], .agg (tokV t)] w (CodP w (l ++ tokB t)) := by
  obtain ⟨t1, t2⟩ := ht
  obtain ⟨w1, hw1⟩ : ∃ w1, w1 = ((w.alloc (.cells #[.slice A m c, .int .i64 (l.length : Int)] 184)).alloc (.cells (tokV t) 180)).alloc (.cells #[.slice none 0 0, .int .i64 0] 184) := ⟨_, rfl⟩
  have hI : CxI w A m c l.length t w1 := by rw [hw1]; exact CxI.start w A m c l.length t
  have HI := Lib.hid hI
  have hx1 := hx.below hI.below
  have HW1 := Lib.hid hw1
  obtain ⟨⟨x0, x1, -, -⟩, ⟨y0, y1, y2⟩, -, -, -⟩ := hI.cells
  rw [hw1] at x0 x1 y0 y1 y2
  by_cases h0 : t.len = 0
  · have hT : tokB t = fldB t.byt.toNat 9 := by unfold tokB; rw [if_pos h0]
    have q0 : ((t.len : Int) == 0) = true := by simp [h0]
    have hb := t.byt.toNat_lt
    have hA := append01_any A m c t.byt.toNat 9 l w1 hx1 (Nat.lt_of_lt_of_le hb (by decide)) (by omega) (by decide) (by rw [hT, fldB_length] at hL; exact hL)
    rw [← hT] at hA
    obtain ⟨l1, hl1⟩ : ∃ l1, l1 = l ++ tokB t := ⟨_, rfl⟩
    rw [← hl1] at hA ⊢
    replace hA := Lib.hid hA
    obtain ⟨L, hLe⟩ : ∃ L, L = l.length := ⟨_, rfl⟩
    rw [← hLe] at hA HI HW1 x0 x1 ⊢
    have ub : IntKind.u32.wrap (t.byt.toNat : Int) = (t.byt.toNat : Int) := u32n _ (by omega)
    clear h0 hw1 hI hx hx1 hr hT hl1 hLe
    unfold tokV at *
    go_enter Tryz.func188, Tryz.ntmps188
    go_wp2_with fail
    rw [← HW1.out]
    refine hA.out.mono ?_
    rintro e w2 ⟨A2, m2, c2, rfl, ho2, hb2⟩
    have hI2 := HI.out.call hb2
    obtain ⟨⟨x0', x1', f0, f1⟩, -, -, -, -⟩ := hI2.cells
    have hI3 := hI2.set A2 m2 c2 l1.length
    obtain ⟨⟨z0, z1, -, -⟩, -, ⟨z2, z3⟩, z4, z5⟩ := hI3.cells
    have HF := Lib.hid (CodP.fin hI3 (own_two (ho2.mono HI.out.below.size) hI2.box (.slice A2 m2 c2) (.int .i64 (l1.length : Int))))
    clear hI2 hI3 ho2 hb2 x0 x1 y0 y1 y2
    go_wp2_with fail
    exact ret_one rfl rfl HF.out.1 Tryz.underlying184 rfl (by kernel_rfl) HF.out.2
  · simp only [rightT, if_neg h0, decide_eq_true_eq] at hr
    obtain ⟨r2, r3, r4, r5, r6⟩ := hr
    have hT : tokB t = fldB 1 1 ++ gamB (t.len - 1) ++ gamB t.dst := by unfold tokB; rw [if_neg h0]
    have hlg : ∀ n, (gamB n).length = 2 * nb n - 1 := fun n => by unfold gamB; rw [fldB_length]
    rw [hT, List.length_append, List.length_append, fldB_length, hlg, hlg] at hL
    have q0 : ((t.len : Int) == 0) = false := by simp [h0]
    have hA := append01_any A m c 1 1 l w1 hx1 (by decide) (by decide) (by decide) (by omega)
    obtain ⟨l1, hl1⟩ : ∃ l1, l1 = l ++ fldB 1 1 := ⟨_, rfl⟩
    have hl1n : l1.length = l.length + 1 := by rw [hl1, List.length_append, fldB_length]
    obtain ⟨l2, hl2⟩ : ∃ l2, l2 = l1 ++ gamB (t.len - 1) := ⟨_, rfl⟩
    have hl2n : l2.length = l1.length + (2 * nb (t.len - 1) - 1) := by rw [hl2, List.length_append, hlg]
    have HG1 := Lib.hid (fun A m c W (hW : Bytes W A m c (pack l1)) => gamma01w_any A m c (t.len - 1) l1 W hW (by omega) (by omega) (by omega))
    have HG2 := Lib.hid (fun A m c W (hW : Bytes W A m c (pack l2)) => gamma01w_any A m c t.dst l2 W hW (by omega) (by omega) (by omega))
    obtain ⟨l3, hl3⟩ : ∃ l3, l3 = l2 ++ gamB t.dst := ⟨_, rfl⟩
    have HR : Hid (l ++ tokB t = l3) := by show _ = _; rw [hT, hl3, hl2, hl1]; simp
    rw [← hl1] at hA
    rw [← hl2] at HG1
    rw [← hl3] at HG2
    rw [show ((t.len - 1 : Nat) : Int) = (t.len : Int) - 1 by omega] at HG1
    replace hA := Lib.hid hA
    rw [HR.out]
    obtain ⟨L, hLe⟩ : ∃ L, L = l.length := ⟨_, rfl⟩
    rw [← hLe] at hA HI HW1 x0 x1 ⊢
    have hl8 : t.len ≤ 1000000 := by omega
    clear h0 hw1 hI hx hx1 hT hl1 hl2 hl3 hl1n hl2n hLe hlg hL r2 r3 r4 r5 r6 t1 t2
    unfold tokV at *
    go_enter Tryz.func188, Tryz.ntmps188
    go_wp2_with fail
    rw [← HW1.out]
    refine hA.out.mono ?_
    rintro e w2 ⟨A2, m2, c2, rfl, ho2, hb2⟩
    have hI2 := HI.out.call hb2
    obtain ⟨⟨x0', x1', f0, f1⟩, -, -, -, -⟩ := hI2.cells
    have hI3 := hI2.set A2 m2 c2 l1.length
    have HO3 := Lib.hid (own_two (ho2.mono HI.out.below.size) hI2.box (.slice A2 m2 c2) (.int .i64 (l1.length : Int))).bytesB
    have HI3 := Lib.hid hI3
    obtain ⟨⟨z0, z1, -, -⟩, ⟨y0', y1', y2'⟩, -, -, -⟩ := hI3.cells
    clear hI2 hI3 ho2 hb2 x0 x1 y0 y1 y2
    go_wp2_with fail
    obtain ⟨w3, hw3⟩ : ∃ w3, w3 = (w2.setCell ⟨w.heap.size, 0, none⟩ (.slice A2 m2 c2)).setCell ⟨w.heap.size, 1, none⟩ (.int .i64 (l1.length : Int)) := ⟨_, rfl⟩
    rw [← hw3] at HI3 HO3 ⊢
    clear hw3 x0' x1' f0 f1 z0 z1 y0' y1' y2'
    refine (HG1.out A2 m2 c2 w3 HO3.out).mono ?_
    rintro e w4 ⟨A4, m4, c4, rfl, ho4, hb4⟩
    have hI4 := HI3.out.call hb4
    obtain ⟨⟨x0', x1', f0, f1⟩, -, -, -, -⟩ := hI4.cells
    have hI5 := hI4.set A4 m4 c4 l2.length
    have HO5 := Lib.hid (own_two (ho4.mono HI3.out.below.size) hI4.box (.slice A4 m4 c4) (.int .i64 (l2.length : Int))).bytesB
    have HI5 := Lib.hid hI5
    obtain ⟨⟨z0, z1, -, -⟩, ⟨y0', y1', y2'⟩, -, -, -⟩ := hI5.cells
    clear hI4 hI5 ho4 hb4
    go_wp2_with fail
    obtain ⟨w5, hw5⟩ : ∃ w5, w5 = (w4.setCell ⟨w.heap.size, 0, none⟩ (.slice A4 m4 c4)).setCell ⟨w.heap.size, 1, none⟩ (.int .i64 (l2.length : Int)) := ⟨_, rfl⟩
    rw [← hw5] at HI5 HO5 ⊢
    clear hw5 x0' x1' f0 f1 z0 z1 y0' y1' y2'
    refine (HG2.out A4 m4 c4 w5 HO5.out).mono ?_
    rintro e w6 ⟨A6, m6, c6, rfl, ho6, hb6⟩
    have hI6 := HI5.out.call hb6
    obtain ⟨⟨x0', x1', f0, f1⟩, -, -, -, -⟩ := hI6.cells
    have hI7 := hI6.set A6 m6 c6 l3.length
    obtain ⟨⟨z0, z1, -, -⟩, -, ⟨z2, z3⟩, z4, z5⟩ := hI7.cells
    have HF := Lib.hid (CodP.fin hI7 (own_two (ho6.mono HI5.out.below.size) hI6.box (.slice A6 m6 c6) (.int .i64 (l3.length : Int))))
    clear hI6 hI7 ho6 hb6
    go_wp2_with fail
    exact ret_one rfl rfl HF.out.1 Tryz.underlying184 rfl (by kernel_rfl) HF.out.2
end Go.Proofs.YtohadkmaemmfgaaGreatDoor
namespace Go.Proofs.YtohadkmaemmfgaaGreatDoor
open Go.RowKit Go.Proofs
set_option linter.unusedVariables false
set_option linter.unusedSimpArgs false
theorem wrong35_any (t : Tok) (w : World) (ht : TokLim t) : Calls Tryz.prog 236 #[.agg (tokV t)] w fun e w' => e = .returned (.bool (!rightT t)) ∧ Below w.heap.size w w' := by
  obtain ⟨t1, t2⟩ := ht
  obtain ⟨k0, k1, k2⟩ := tok_cells t w
  have hb := balloc (Below.refl w.heap.size w) (.cells (tokV t) 180)
  obtain ⟨l, d, b⟩ := t
  unfold tokV at k0 k1 k2 hb ⊢
  dsimp only at t1 t2 k0 k1 k2 hb ⊢
  have HB := Lib.hid hb
  by_cases h0 : l = 0
  · have q0 : ((l : Int) == 0) = true := by simp [h0]
    have q1 : ((d : Int) == 0) = decide (d = 0) := by by_cases h : d = 0 <;> simp [h]
    have HR : Hid (rightT ⟨l, d, b⟩ = decide (d = 0)) := by show _ = _; simp [rightT, h0]
    rw [HR.out]
    obtain ⟨y, hy⟩ : ∃ y, y = decide (d = 0) := ⟨_, rfl⟩
    rw [← hy] at q1 ⊢
    have Q1 := Lib.hid q1
    clear h0 hb hy HR q1
    go_enter Tryz.func236, Tryz.ntmps236
    go_wp2_with fail
    go_ret
    refine ⟨?_, HB.out⟩
    show Ending.returned (.bool ((d : Int) != 0)) = _
    rw [bne, Q1.out]
  · have q0 : ((l : Int) == 0) = false := by simp [h0]
    have p0 := u8_beq b 0 0 rfl
    have HR : Hid (rightT ⟨l, d, b⟩ = decide (b = 0 ∧ 2 ≤ l ∧ l ≤ 255 ∧ 1 ≤ d ∧ d ≤ 4096)) := by show _ = _; simp [rightT, h0]
    clear h0 hb
    by_cases h1 : b = 0
    · have p1 : ((b.toNat : Int) != 0) = false := by rw [bne, p0, decide_eq_true h1]; rfl
      clear p0
      by_cases h2 : 2 ≤ l
      · have x1 : decide ((l : Int) < 2) = false := decide_eq_false (by omega)
        have y1 : decide (l < 2) = false := decide_eq_false (by omega)
        by_cases h3 : l ≤ 255
        · have x2 : decide ((255 : Int) < (l : Int)) = false := decide_eq_false (by omega)
          have y2 : decide (255 < l) = false := decide_eq_false (by omega)
          by_cases h4 : 1 ≤ d
          · have x3 : decide ((d : Int) < 1) = false := decide_eq_false (by omega)
            have y3 : decide (d < 1) = false := decide_eq_false (by omega)
            by_cases h5 : d ≤ 4096
            · have x4 : decide ((4096 : Int) < (d : Int)) = false := decide_eq_false (by omega)
              have y4 : decide (4096 < d) = false := decide_eq_false (by omega)
              have HR2 : Hid (rightT ⟨l, d, b⟩ = true) := by show _ = _; rw [HR.out]; exact decide_eq_true ⟨h1, h2, h3, h4, h5⟩
              rw [HR2.out]
              clear h1 h2 h3 h4 h5 HR
              go_enter Tryz.func236, Tryz.ntmps236
              go_wp2_with fail
              go_ret
              exact ⟨rfl, HB.out⟩
            · have x4 : decide ((4096 : Int) < (d : Int)) = true := decide_eq_true (by omega)
              have y4 : decide (4096 < d) = true := decide_eq_true (by omega)
              have HR2 : Hid (rightT ⟨l, d, b⟩ = false) := by show _ = _; rw [HR.out]; exact decide_eq_false (fun h => h5 h.2.2.2.2)
              rw [HR2.out]
              clear h1 h2 h3 h4 h5 HR
              go_enter Tryz.func236, Tryz.ntmps236
              go_wp2_with fail
              go_ret
              exact ⟨rfl, HB.out⟩
          · have x3 : decide ((d : Int) < 1) = true := decide_eq_true (by omega)
            have y3 : decide (d < 1) = true := decide_eq_true (by omega)
            have HR2 : Hid (rightT ⟨l, d, b⟩ = false) := by show _ = _; rw [HR.out]; exact decide_eq_false (fun h => h4 h.2.2.2.1)
            rw [HR2.out]
            clear h1 h2 h3 h4 HR
            go_enter Tryz.func236, Tryz.ntmps236
            go_wp2_with fail
            go_ret
            exact ⟨rfl, HB.out⟩
        · have x2 : decide ((255 : Int) < (l : Int)) = true := decide_eq_true (by omega)
          have y2 : decide (255 < l) = true := decide_eq_true (by omega)
          have HR2 : Hid (rightT ⟨l, d, b⟩ = false) := by show _ = _; rw [HR.out]; exact decide_eq_false (fun h => h3 h.2.2.1)
          rw [HR2.out]
          clear h1 h2 h3 HR
          go_enter Tryz.func236, Tryz.ntmps236
          go_wp2_with fail
          go_ret
          exact ⟨rfl, HB.out⟩
      · have x1 : decide ((l : Int) < 2) = true := decide_eq_true (by omega)
        have y1 : decide (l < 2) = true := decide_eq_true (by omega)
        have HR2 : Hid (rightT ⟨l, d, b⟩ = false) := by show _ = _; rw [HR.out]; exact decide_eq_false (fun h => h2 h.2.1)
        rw [HR2.out]
        clear h1 h2 HR
        go_enter Tryz.func236, Tryz.ntmps236
        go_wp2_with fail
        go_ret
        exact ⟨rfl, HB.out⟩
    · have p1 : ((b.toNat : Int) != 0) = true := by rw [bne, p0, decide_eq_false h1]; rfl
      clear p0
      have HR2 : Hid (rightT ⟨l, d, b⟩ = false) := by show _ = _; rw [HR.out]; exact decide_eq_false (fun h => h1 h.1)
      rw [HR2.out]
      clear h1 HR
      go_enter Tryz.func236, Tryz.ntmps236
      go_wp2_with fail
      go_ret
      exact ⟨rfl, HB.out⟩
theorem size35_any (t : Tok) (w : World) (ht : TokLim t) : Calls Tryz.prog 183 #[.agg (tokV t)] w fun e w' => e = .returned (.int .i64 ((tsz t : Nat) : Int)) ∧ Below w.heap.size w w' := by
  obtain ⟨k0, -, -⟩ := tok_cells t w
  have HB := Lib.hid (balloc (Below.refl w.heap.size w) (.cells (tokV t) 180))
  obtain ⟨t1, -⟩ := ht
  have HS : Hid (((tsz t : Nat) : Int) = max (t.len : Int) 1) := by show _ = _; unfold tsz; omega
  rw [HS.out]
  unfold tokV at *
  go_enter Tryz.func183, Tryz.ntmps183
  go_wp2_with fail
  go_ret
  exact ⟨rfl, HB.out⟩
theorem token35_any (t : Tok) (before : Nat) (w : World) (ht : TokLim t) (hbf : before ≤ 1000000) : Calls Tryz.prog 182 #[.agg (tokV t), .int .i64 (before : Int)] w fun e w' => e = .returned (.int .i64 (chkT t before)) ∧ Below w.heap.size w w' := by
  obtain ⟨w1, hw1⟩ : ∃ w1, w1 = w.alloc (.cells (tokV t) 180) := ⟨_, rfl⟩
  have hb1 : Below w.heap.size w w1 := by rw [hw1]; exact balloc (Below.refl _ _) _
  have r1 : rowV w1 w.heap.size 180 (tokV t) := by rw [hw1]; exact rowV.new w _ _
  obtain ⟨k0, k1, k2⟩ := tok_cells t w
  have HR := wrong35_any t w1 ht
  have HB1 := Lib.hid hb1
  have R1 := Lib.hid r1
  have HW1 := Lib.hid hw1
  have hc : chkT t before = if rightT t = false then 3 else if before < t.dst then 2 else if 65536 < before + tsz t then 5 else 0 := rfl
  have HZ := Lib.hid (fun W => size35_any t W ht)
  obtain ⟨t1, t2⟩ := ht
  have hts : tsz t ≤ 1000001 := by unfold tsz; omega
  obtain ⟨sz, hsz⟩ : ∃ sz, sz = tsz t := ⟨_, rfl⟩
  rw [← hsz] at HZ hc hts
  clear hb1 r1 hw1 hsz
  cases hrt : rightT t with
  | false =>
    rw [hrt, if_pos rfl] at hc
    rw [hrt] at HR
    simp only [Bool.not_true, Bool.not_false] at HR
    replace HR := Lib.hid HR
    have HC := Lib.hid hc
    clear hc hrt
    unfold tokV at *
    go_enter Tryz.func182, Tryz.ntmps182
    go_wp2_with fail
    rw [← HW1.out]
    refine HR.out.mono ?_
    rintro e w2 ⟨rfl, hb2⟩
    have HB2 := Lib.hid (HB1.out.trans (hb2.mono HB1.out.size))
    clear hb2
    go_wp2_with fail
    go_ret
    rw [HC.out]
    exact ⟨rfl, HB2.out⟩
  | true =>
    rw [hrt, if_neg (by decide)] at hc
    rw [hrt] at HR
    simp only [Bool.not_true, Bool.not_false] at HR
    replace HR := Lib.hid HR
    by_cases h1 : before < t.dst
    · rw [if_pos h1] at hc
      have HC := Lib.hid hc
      have d1 : decide ((before : Int) < (t.dst : Int)) = true := decide_eq_true (by omega)
      have d1' : decide (before < t.dst) = true := decide_eq_true h1
      clear hc hrt h1
      unfold tokV at *
      go_enter Tryz.func182, Tryz.ntmps182
      go_wp2_with fail
      rw [← HW1.out]
      refine HR.out.mono ?_
      rintro e w2 ⟨rfl, hb2⟩
      have HB2 := Lib.hid (HB1.out.trans (hb2.mono HB1.out.size))
      have y1 : w2.cell? ⟨w.heap.size, 1, none⟩ = some (.int .i64 (t.dst : Int)) := (R1.out.below hb2 R1.out.lt).cell rfl
      clear hb2
      go_wp2_with fail
      go_ret
      rw [HC.out]
      exact ⟨rfl, HB2.out⟩
    · rw [if_neg h1] at hc
      have d1 : decide ((before : Int) < (t.dst : Int)) = false := decide_eq_false (by omega)
      have d1' : decide (before < t.dst) = false := decide_eq_false h1
      have fin : ∀ (bb : Bool) (v : Int), decide ((65536 : Int) < (before : Int) + (sz : Int)) = bb → chkT t before = v → v = (if bb then 5 else 0) → Calls Tryz.prog 182 #[.agg (tokV t), .int .i64 (before : Int)] w fun e w' => e = .returned (.int .i64 (chkT t before)) ∧ Below w.heap.size w w' := by
        intro bb v d2 hv hvb
        have d2' : decide (65536 < before + sz) = bb := by rw [← d2]; exact decide_eq_decide.2 (by omega)
        rw [hv]
        clear hc hrt h1 hv
        cases bb with
        | true =>
          obtain rfl : v = 5 := hvb
          unfold tokV at *
          go_enter Tryz.func182, Tryz.ntmps182
          go_wp2_with fail
          rw [← HW1.out]
          refine HR.out.mono ?_
          rintro e w2 ⟨rfl, hb2⟩
          have HB2 := Lib.hid (HB1.out.trans (hb2.mono HB1.out.size))
          have y0 : w2.cell? ⟨w.heap.size, 0, none⟩ = some (.int .i64 (t.len : Int)) := (R1.out.below hb2 R1.out.lt).cell rfl
          have y1 : w2.cell? ⟨w.heap.size, 1, none⟩ = some (.int .i64 (t.dst : Int)) := (R1.out.below hb2 R1.out.lt).cell rfl
          have y2 : w2.cell? ⟨w.heap.size, 2, none⟩ = some (.int .u8 (t.byt.toNat : Int)) := (R1.out.below hb2 R1.out.lt).cell rfl
          clear hb2
          go_wp2_with fail
          refine (HZ.out w2).mono ?_
          rintro e w3 ⟨rfl, hb3⟩
          have HB3 := Lib.hid (HB2.out.trans (hb3.mono HB2.out.size))
          clear hb3
          go_wp2_with fail
          go_ret
          exact ⟨rfl, HB3.out⟩
        | false =>
          obtain rfl : v = 0 := hvb
          unfold tokV at *
          go_enter Tryz.func182, Tryz.ntmps182
          go_wp2_with fail
          rw [← HW1.out]
          refine HR.out.mono ?_
          rintro e w2 ⟨rfl, hb2⟩
          have HB2 := Lib.hid (HB1.out.trans (hb2.mono HB1.out.size))
          have y0 : w2.cell? ⟨w.heap.size, 0, none⟩ = some (.int .i64 (t.len : Int)) := (R1.out.below hb2 R1.out.lt).cell rfl
          have y1 : w2.cell? ⟨w.heap.size, 1, none⟩ = some (.int .i64 (t.dst : Int)) := (R1.out.below hb2 R1.out.lt).cell rfl
          have y2 : w2.cell? ⟨w.heap.size, 2, none⟩ = some (.int .u8 (t.byt.toNat : Int)) := (R1.out.below hb2 R1.out.lt).cell rfl
          clear hb2
          go_wp2_with fail
          refine (HZ.out w2).mono ?_
          rintro e w3 ⟨rfl, hb3⟩
          have HB3 := Lib.hid (HB2.out.trans (hb3.mono HB2.out.size))
          clear hb3
          go_wp2_with fail
          go_ret
          exact ⟨rfl, HB3.out⟩
      by_cases h2 : 65536 < before + sz
      · rw [if_pos h2] at hc
        exact fin true 5 (decide_eq_true (by omega)) hc rfl
      · rw [if_neg h2] at hc
        exact fin false 0 (decide_eq_false (by omega)) hc rfl
theorem Toks.cellsAt {w : World} {b off n c i : Nat} {l : List Tok} (h : Toks w (some ⟨b, off, none⟩) n c l) (hi : i < n) : w.cell? ⟨b, off + i * 3, none⟩ = some (.int .i64 ((tG l i).len : Int)) ∧ w.cell? ⟨b, off + i * 3 + 1, none⟩ = some (.int .i64 ((tG l i).dst : Int)) ∧ w.cell? ⟨b, off + i * 3 + 2, none⟩ = some (.int .u8 ((tG l i).byt.toNat : Int)) := by
  obtain ⟨b', off', e, -, hc⟩ := h.2.2 (by omega)
  injection e with e
  injection e with e1 e2
  subst e1 e2
  exact hc i hi
theorem check35_any (A : Option Addr) (n c : Nat) (l : List Tok) (w : World) (hx : Toks w A n c l) (hl : ∀ t ∈ l, TokLim t) (hn : n ≤ 1000000000) : Calls Tryz.prog 184 #[.slice A n c] w fun e w' => e = .returned (.int .i64 (chkL l)) ∧ Below w.heap.size w w' := by
  have hln := hx.1
  by_cases h6 : 65536 < n
  · have HC : Hid (chkL l = 6) := by show _ = _; unfold chkL; rw [hln, if_pos h6]
    have d0 : decide ((65536 : Int) < (n : Int)) = true := decide_eq_true (by omega)
    have d0' : decide (65536 < n) = true := decide_eq_true h6
    clear h6 hx
    go_enter Tryz.func184, Tryz.ntmps184
    go_wp2_with fail
    go_ret
    rw [HC.out]
    exact ⟨rfl, Below.refl _ _⟩
  · have HC : Hid (chkL l = chkF l 0) := by show _ = _; unfold chkL; rw [hln, if_neg h6]
    have d0 : decide ((65536 : Int) < (n : Int)) = false := decide_eq_false (by omega)
    have d0' : decide (65536 < n) = false := decide_eq_false h6
    have HX := Lib.hid hx
    have HL := Lib.hid hl
    rw [HC.out]
    clear h6 hx hl HC
    go_enter Tryz.func184, Tryz.ntmps184
    go_wp2_with fail
    go_loopw [3, 4, 5] (fun nn i _ wr => ∃ k m : Nat, k ≤ n ∧ i = .int .i64 (k : Int) ∧ nn = .int .i64 (m : Int) ∧ m ≤ 65536 ∧ Hid (chkF (l.drop k) m = chkF l 0 ∧ Below w.heap.size w wr)) (fun _ i _ _ => n - (intOf i).toNat)
    case atStart => exact ⟨0, 0, Nat.zero_le _, rfl, rfl, Nat.zero_le _, Lib.hid ⟨rfl, Below.refl _ _⟩⟩
    case round =>
      obtain ⟨k, m, hk, rfl, rfl, hm, HI⟩ := hrel
      by_cases hlt : k < n
      · have d1 : decide ((k : Int) < (n : Int)) = true := decide_eq_true (by omega)
        have d1' : decide (k < n) = true := decide_eq_true hlt
        obtain ⟨b, off, rfl, hbl, hcc⟩ := (HX.out.below HI.out.2 (Nat.le_refl _)).2.2 (by omega)
        obtain ⟨x0, x1, x2⟩ := hcc k hlt
        have hkl : k < l.length := by omega
        have hlim := HL.out _ (tG_mem hkl)
        have hd := HI.out.1
        rw [tdrop hkl, chkF] at hd
        obtain ⟨t, ht⟩ : ∃ t, t = tG l k := ⟨_, rfl⟩
        rw [← ht] at x0 x1 x2 hlim hd
        have HTT : Hid (tG l k = t) := ht.symm
        have HK := Lib.hid (token35_any t m wr hlim (by omega))
        have HZ := Lib.hid (fun W => size35_any t W hlim)
        have hts : tsz t ≤ 1000001 := by have := hlim.1; unfold tsz; omega
        have HXK := Lib.hid (fun W (h : Below w.heap.size w W) => (HX.out.below h (Nat.le_refl _)).cellsAt hlt)
        by_cases hc0 : chkT t m = 0
        · rw [if_pos hc0] at hd
          have hm2 : m + tsz t ≤ 65536 := by
            unfold chkT at hc0
            split at hc0
            · cases hc0
            · split at hc0
              · cases hc0
              · split at hc0
                · cases hc0
                · omega
          rw [hc0] at HK
          have HD := Lib.hid hd
          obtain ⟨sz, hsz⟩ : ∃ sz, sz = tsz t := ⟨_, rfl⟩
          rw [← hsz] at HZ HD hm2 hts
          clear hd hc0 hsz ht hlim hcc
          unfold tokV at HK
          go_wp2_with fail
          refine HK.out.mono ?_
          rintro e w3 ⟨rfl, hb3⟩
          have hB3 := HI.out.2.trans (hb3.mono HI.out.2.size)
          obtain ⟨v0, v1, v2⟩ := HXK.out w3 hB3
          rw [HTT.out] at v0 v1 v2
          have HB3 := Lib.hid hB3
          clear hb3 hB3 x0 x1 x2
          unfold tokV at HZ
          go_wp2_with fail
          refine (HZ.out w3).mono ?_
          rintro e w4 ⟨rfl, hb4⟩
          have HB4 := Lib.hid (HB3.out.trans (hb4.mono HB3.out.size))
          clear hb4
          go_wp2_with fail
          go_roundw
          case rel => exact ⟨k + 1, m + sz, by omega, by go_num, by go_num, hm2, Lib.hid ⟨HD.out, HB4.out⟩⟩
          case measure => (simp [intOf]) <;> omega
        · rw [if_neg hc0] at hd
          have q0 : (chkT t m == 0) = false := by simpa using hc0
          obtain ⟨er, her⟩ : ∃ er, er = chkT t m := ⟨_, rfl⟩
          rw [← her] at HK hd q0 hc0
          have HD := Lib.hid hd
          clear hd ht hlim hcc her hts
          unfold tokV at HK
          go_wp2_with fail
          refine HK.out.mono ?_
          rintro e w3 ⟨rfl, hb3⟩
          have HB3 := Lib.hid (HI.out.2.trans (hb3.mono HI.out.2.size))
          clear hb3
          go_wp2_with fail
          go_ret
          rw [← HD.out]
          exact ⟨rfl, HB3.out⟩
      · obtain rfl : n = k := by omega
        have d1 : decide ((n : Int) < (n : Int)) = false := by simp
        have HD : Hid (chkF l 0 = 0) := by show _ = _; rw [← HI.out.1, List.drop_of_length_le (by omega)]; rfl
        go_wp2_with fail
        go_ret
        rw [HD.out]
        exact ⟨rfl, HI.out.2⟩
theorem common35_any (A : Option Addr) (n c at_ d : Nat) (bs : List UInt8) (w : World) (hx : Bytes w A n c bs) (hn : n ≤ 1000000) (ha : at_ < n) (hd : 1 ≤ d) (hda : d ≤ at_) :
    Calls Tryz.prog 275 #[.slice A n c, .int .i64 (at_ : Int), .int .i64 (d : Int)] w fun e w' => e = .returned (.int .i64 ((cmn bs at_ d : Nat) : Int)) ∧ Drawn w w' := by
  obtain ⟨b, off, rfl, -, -⟩ := hx.2.2 (by omega)
  have HCC : Hid (∀ wr, Drawn w wr → ∀ j, j < n → wr.cell? ⟨b, off + j, none⟩ = some (.int .u8 ((bA bs j).toNat : Int))) := fun wr hdr j hj => by
    obtain ⟨b', off', e, -, hcc⟩ := (hx.below (hdr.below _)).2.2 (by omega)
    injection e with e
    injection e with e1 e2
    subst e1 e2
    exact hcc j hj
  have hl := hx.1
  have HC0 : Hid (cmn bs at_ d = cmF bs at_ d 0) := rfl
  clear hx
  go_enter Tryz.func275, Tryz.ntmps275
  go_wp2
  go_loopw [7] (fun nn wr => ∃ m : Nat, nn = .int .i64 (m : Int) ∧ m ≤ 255 ∧ at_ + m ≤ n ∧ Hid (cmF bs at_ d m = cmn bs at_ d) ∧ Drawn w wr) (fun nn _ => 256 - (intOf nn).toNat)
  case atStart => exact ⟨0, rfl, by omega, by omega, Lib.hid HC0.out.symm, Drawn.refl _⟩
  case round =>
    obtain ⟨m, rfl, hm, hmn, HM, hdr⟩ := hrel
    have HDR := Lib.hid hdr
    by_cases h1 : m < 255
    · have d1 : decide ((m : Int) < 255) = true := decide_eq_true (by omega)
      have d1' : decide (m < 255) = true := decide_eq_true h1
      obtain ⟨p, hp⟩ : ∃ p, p = at_ + m := ⟨_, rfl⟩
      obtain ⟨q, hq⟩ : ∃ q, q = p - d := ⟨_, rfl⟩
      have e1 : (at_ : Int) + (m : Int) = (p : Int) := by omega
      have e2 : (p : Int) - (d : Int) = (q : Int) := by omega
      by_cases h2 : p < n
      · have d2 : decide ((p : Int) < (n : Int)) = true := decide_eq_true (by omega)
        have d2' : decide (p < n) = true := decide_eq_true h2
        have hqn : q < n := by omega
        have y1 := HCC.out wr hdr p h2
        have y2 := HCC.out wr hdr q hqn
        have HP : Hid (p = at_ + m) := hp
        clear hdr
        by_cases h3 : bA bs p = bA bs q
        · have HN : Hid (cmF bs at_ d (m + 1) = cmn bs at_ d) := by
            show _ = _
            rw [← HM.out, cmF_more ⟨h1, by rw [hl, ← hp]; exact h2, by rw [← hp, show p - d = q from hq.symm]; exact h3⟩]
          rw [h3] at y1
          obtain ⟨y, hy⟩ : ∃ y, y = bA bs q := ⟨_, rfl⟩
          rw [← hy] at y1 y2
          have q0 : ((y.toNat : Int) == (y.toNat : Int)) = true := beq_self_eq_true _
          clear hy h3 hp hq
          go_wp2
          go_quiet (fail)
          go_wp2
          go_roundw
          case rel => exact ⟨m + 1, by go_num, by omega, by have := HP.out; omega, HN, HDR.out.trans (Drawn.drewN _ _)⟩
          case measure => (simp [intOf]) <;> omega
        · have HN : Hid (m = cmn bs at_ d) := by
            show _ = _
            rw [← HM.out, cmF_end (fun h => h3 (by rw [hq, hp]; exact h.2.2))]
          have q0 : (((bA bs p).toNat : Int) == ((bA bs q).toNat : Int)) = false := by
            rw [beq_eq_false_iff_ne]
            exact fun e => h3 (UInt8.toNat_inj.1 (by omega))
          obtain ⟨y, hy⟩ : ∃ y, y = bA bs q := ⟨_, rfl⟩
          obtain ⟨x, hxx⟩ : ∃ x, x = bA bs p := ⟨_, rfl⟩
          rw [← hxx] at y1 q0
          rw [← hy] at y2 q0
          clear hy hxx h3 hp hq
          go_wp2
          go_quiet (fail)
          go_wp2
          go_ret
          rw [← HN.out]
          exact ⟨rfl, HDR.out.trans (Drawn.drewN _ _)⟩
      · have d2 : decide ((p : Int) < (n : Int)) = false := decide_eq_false (by omega)
        have d2' : decide (p < n) = false := decide_eq_false h2
        have HN : Hid (m = cmn bs at_ d) := by
          show _ = _
          rw [← HM.out, cmF_end (fun h => h2 (by have := h.2.1; rw [hl] at this; omega))]
        clear hp hq h2 hdr
        go_wp2
        go_quiet (fail)
        go_wp2
        go_ret
        rw [← HN.out]
        exact ⟨rfl, HDR.out.trans (Drawn.drewN _ _)⟩
    · have d1 : decide ((m : Int) < 255) = false := decide_eq_false (by omega)
      have d1' : decide (m < 255) = false := decide_eq_false h1
      have HN : Hid (m = cmn bs at_ d) := by
        show _ = _
        rw [← HM.out, cmF_end (fun h => h1 h.1)]
      clear h1 hdr
      go_wp2
      go_quiet (fail)
      go_wp2
      go_ret
      rw [← HN.out]
      exact ⟨rfl, HDR.out.trans (Drawn.drewN _ _)⟩
theorem nb_more {n : Nat} (h : 0 < n) : nb n = nb (n / 2) + 1 := by rw [nb, dif_neg (by omega)]
theorem digits35_any (n : Nat) (w : World) (hn : n ≤ 1000000) : Calls Tryz.prog 238 #[.int .i64 (n : Int)] w fun e w' => e = .returned (.int .i64 ((nb n : Nat) : Int)) ∧ w' = w := by
  have hb : nb n ≤ 20 := nb_lt 20 n (Nat.lt_of_le_of_lt hn (by decide))
  have HB : Hid (∃ x, x = nb n) := ⟨_, rfl⟩
  obtain ⟨b, hbd⟩ := HB
  rw [← hbd] at hb ⊢
  have HBD := Lib.hid hbd
  clear hbd
  go_enter Tryz.func238, Tryz.ntmps238
  go_wp2_with fail
  go_loopw [0, 3] (fun vn vk wr => ∃ m k : Nat, m ≤ 1000000 ∧ k ≤ b ∧ vn = .int .i64 (m : Int) ∧ vk = .int .i64 (k : Int) ∧ Hid (k + nb m = b) ∧ Hid (wr = w)) (fun vn _ _ => (intOf vn).toNat)
  case atStart => exact ⟨n, 0, hn, Nat.zero_le _, rfl, rfl, Lib.hid (by rw [HBD.out]; exact Nat.zero_add _), Lib.hid rfl⟩
  case round =>
    obtain ⟨m, k, hm, hk, rfl, rfl, HK, HW⟩ := hrel
    obtain rfl := HW.out
    by_cases h0 : 0 < m
    · have d0 : decide ((0 : Int) < (m : Int)) = true := decide_eq_true (by omega)
      have d0' : decide (0 < m) = true := decide_eq_true h0
      obtain ⟨q, hq⟩ : ∃ q, q = m / 2 := ⟨_, rfl⟩
      have hn1 := nb_more h0
      rw [← hq] at hn1
      have HK2 : Hid (k + 1 + nb q = b) := by show _ = _; rw [← HK.out, hn1]; omega
      have t1 : (m : Int).tdiv 2 = (q : Int) := by rw [Int.tdiv_eq_ediv_of_nonneg (by omega)]; omega
      have t2 : (m : Int) / 2 = (q : Int) := by omega
      have hqm : q < m := by omega
      clear hq hn1
      go_wp2_with fail
      go_roundw
      case rel => exact ⟨q, k + 1, by omega, by have := HK2.out; omega, rfl, by go_num, HK2, by first | exact Lib.hid rfl | exact Lib.hid trivial⟩
      case measure => (simp [intOf]) <;> omega
    · obtain rfl : m = 0 := by omega
      have d0 : decide ((0 : Int) < ((0 : Nat) : Int)) = false := rfl
      have HR : Hid (b = k) := by show _ = _; have h := HK.out; rw [show nb 0 = 0 by rw [nb, dif_pos rfl]] at h; omega
      go_wp2_with fail
      go_ret
      rw [HR.out]
      exact ⟨rfl, rfl⟩
theorem price35_any (t : Tok) (w : World) (ht : TokLim t) : Calls Tryz.prog 187 #[.agg (tokV t)] w fun e w' => e = .returned (.int .i64 (priT t)) ∧ Below w.heap.size w w' := by
  obtain ⟨w1, hw1⟩ : ∃ w1, w1 = w.alloc (.cells (tokV t) 180) := ⟨_, rfl⟩
  have hb1 : Below w.heap.size w w1 := by rw [hw1]; exact balloc (Below.refl _ _) _
  have r1 : rowV w1 w.heap.size 180 (tokV t) := by rw [hw1]; exact rowV.new w _ _
  have ld := tok_load r1
  rw [hw1] at ld
  have HR := wrong35_any t w1 ht
  have HB1 := Lib.hid hb1
  have R1 := Lib.hid r1
  have HW1 := Lib.hid hw1
  obtain ⟨t1, t2⟩ := ht
  have hp : priT t = if rightT t = false then 0 else if t.len = 0 then 9 else 1 + gmB (t.len - 1) + gmB t.dst := rfl
  clear hb1 r1 hw1
  cases hrt : rightT t with
  | false =>
    rw [hrt, if_pos rfl] at hp
    rw [hrt] at HR
    simp only [Bool.not_true, Bool.not_false] at HR
    replace HR := Lib.hid HR
    have HP := Lib.hid hp
    clear hp hrt
    unfold tokV at *
    go_enter Tryz.func187, Tryz.ntmps187
    go_wp2_with fail
    rw [← HW1.out]
    refine HR.out.mono ?_
    rintro e w2 ⟨rfl, hb2⟩
    have HB2 := Lib.hid (HB1.out.trans (hb2.mono HB1.out.size))
    clear hb2
    go_wp2_with fail
    go_ret
    rw [HP.out]
    exact ⟨rfl, HB2.out⟩
  | true =>
    rw [hrt, if_neg (by decide)] at hp
    rw [hrt] at HR
    simp only [Bool.not_true, Bool.not_false] at HR
    replace HR := Lib.hid HR
    by_cases h0 : t.len = 0
    · rw [if_pos h0] at hp
      have HP := Lib.hid hp
      have q0 : ((t.len : Int) == 0) = true := by simp [h0]
      obtain ⟨l, d, b⟩ := t
      dsimp only at t1 t2 q0
      clear hp hrt h0
      unfold tokV at *
      dsimp only at *
      go_enter Tryz.func187, Tryz.ntmps187
      go_wp2_with fail
      rw [← HW1.out]
      refine HR.out.mono ?_
      rintro e w2 ⟨rfl, hb2⟩
      have HB2 := Lib.hid (HB1.out.trans (hb2.mono HB1.out.size))
      have k0 : w2.cell? ⟨w.heap.size, 0, none⟩ = some (.int .i64 (l : Int)) := (R1.out.below hb2 R1.out.lt).cell rfl
      clear hb2
      go_wp2_with fail
      go_ret
      rw [HP.out]
      exact ⟨rfl, HB2.out⟩
    · rw [if_neg h0] at hp
      have HP := Lib.hid hp
      have q0 : ((t.len : Int) == 0) = false := by simp [h0]
      obtain ⟨l, d, b⟩ := t
      dsimp only at t1 t2 q0 h0 HP
      obtain ⟨l1, hl1⟩ : ∃ l1, l1 = l - 1 := ⟨_, rfl⟩
      have e1 : (l : Int) - 1 = (l1 : Int) := by omega
      have e2 : IntKind.i64.wrap ((l : Int) - 1) = (l1 : Int) := by rw [IntKind.wrap_i64]; omega
      rw [← hl1] at HP
      have G1 := fun W => digits35_any l1 W (by omega)
      have G2 := fun W => digits35_any d W t2
      have b1 : nb l1 ≤ 20 := nb_lt 20 l1 (Nat.lt_of_le_of_lt (by omega : l1 ≤ 1000000) (by decide))
      have b2 : nb d ≤ 20 := nb_lt 20 d (Nat.lt_of_le_of_lt t2 (by decide))
      have hgm : ∀ n, gmB n = 2 * ((nb n : Nat) : Int) - 1 := fun n => rfl
      rw [hgm, hgm] at HP
      obtain ⟨g1, hg1⟩ : ∃ g1, g1 = nb l1 := ⟨_, rfl⟩
      obtain ⟨g2, hg2⟩ : ∃ g2, g2 = nb d := ⟨_, rfl⟩
      rw [← hg1] at G1 b1 HP
      rw [← hg2] at G2 b2 HP
      replace G1 := Lib.hid G1
      replace G2 := Lib.hid G2
      clear hgm
      clear hp hrt h0 hg1 hg2 hl1
      unfold tokV at *
      dsimp only at *
      go_enter Tryz.func187, Tryz.ntmps187
      go_wp2_with fail
      rw [← HW1.out]
      refine HR.out.mono ?_
      rintro e w2 ⟨rfl, hb2⟩
      have HB2 := Lib.hid (HB1.out.trans (hb2.mono HB1.out.size))
      have k0 : w2.cell? ⟨w.heap.size, 0, none⟩ = some (.int .i64 (l : Int)) := (R1.out.below hb2 R1.out.lt).cell rfl
      have k1 : w2.cell? ⟨w.heap.size, 1, none⟩ = some (.int .i64 (d : Int)) := (R1.out.below hb2 R1.out.lt).cell rfl
      clear hb2
      go_wp2_with fail
      go_quiet (first
        | (go_at_call_of 238 (Value.int .i64 (d : Int)); exact Calls.quiet_of_same (G2.out _))
        | (go_at_call 238; exact Calls.quiet_of_same (G1.out _)))
      go_wp2_with fail
      go_ret
      rw [HP.out]
      exact ⟨ret_int (by omega), HB2.out.trans ((Drawn.drewN _ _).below _)⟩
def vLn : Value → Nat
  | .slice _ n _ => n
  | _ => 0
theorem ownK_one (w : World) (t : Tok) : OwnK (w.alloc (.cells (tokV t) 180)) w.heap.size (some ⟨w.heap.size, 0, none⟩) 1 1 [t] :=
  ⟨rfl, .inr ⟨w.heap.size, 1, tokV t, rfl, Nat.le_refl _, World.alloc_heap_new w _, Nat.le_refl _, by simp [maxLen], rfl, rfl⟩⟩
theorem OwnK.len {w : World} {B n c : Nat} {A : Option Addr} {l : List Tok} (h : OwnK w B A n c l) : l.length = n := OwnS.length h (fun _ => rfl) (by decide)
theorem choices36_any (A : Option Addr) (n c at_ : Nat) (bs : List UInt8) (w : World) (hx : Bytes w A n c bs) (hn : n ≤ 65536) (ha : at_ < n) :
    Calls Tryz.prog 237 #[.slice A n c, .int .i64 (at_ : Int)] w fun e w' => ∃ A2 m c2, e = .returned (.tuple #[.slice A2 m c2, .int .i64 0]) ∧ OwnK w' w.heap.size A2 m c2 (chL bs at_) ∧ m ≤ 256 ∧ Below w.heap.size w w' := by
  have Hl := Lib.hid hx.1
  have HX := Lib.hid hx
  have d65 : decide ((65536 : Int) < (n : Int)) = false := decide_eq_false (by omega)
  have d65' : decide (65536 < n) = false := decide_eq_false (by omega)
  have d0 : decide ((at_ : Int) < 0) = false := decide_eq_false (by omega)
  have d1 : decide ((n : Int) ≤ (at_ : Int)) = false := decide_eq_false (by omega)
  have d1' : decide (n ≤ at_) = false := decide_eq_false (by omega)
  obtain ⟨b, off, rfl, -, hcc⟩ := hx.2.2 (by omega)
  have y0 : w.cell? ⟨b, off + at_, none⟩ = some (.int .u8 ((bA bs at_).toNat : Int)) := hcc at_ ha
  have HCH : Hid (chL bs at_ = [⟨0, 0, bA bs at_⟩] ++ chF bs at_ (min at_ 4096 + 1 - 1) 1 (1 + 1)) := by show _ = _; rw [Nat.add_sub_cancel]; rfl
  obtain ⟨x, hxx⟩ : ∃ x, x = bA bs at_ := ⟨_, rfl⟩
  rw [← hxx] at y0 HCH
  clear hcc hx hxx
  obtain ⟨w1, hw1⟩ : ∃ w1, w1 = w.alloc (.cells #[.int .i64 0, .int .i64 0, .int .u8 (x.toNat : Int)] 180) := ⟨_, rfl⟩
  have HW1 := Lib.hid hw1
  have HB1 : Hid (Below w.heap.size w w1) := by show Below _ _ _; rw [hw1]; exact balloc (Below.refl _ _) _
  have HO1 : Hid (OwnK w1 w.heap.size (some ⟨w.heap.size, 0, none⟩) 1 1 [⟨0, 0, x⟩]) := by show OwnK _ _ _ _ _ _; rw [hw1]; exact ownK_one w ⟨0, 0, x⟩
  clear hw1
  go_enter Tryz.func237, Tryz.ntmps237
  go_wp2_with fail
  rw [← HW1.out]
  go_loopw [6, 7, 8] (fun vo vd _ wr => ∃ (dd m c2 : Nat) (A2 : Option Addr) (l : List Tok), vd = .int .i64 (dd : Int) ∧ vo = .slice A2 m c2 ∧ 1 ≤ dd ∧ dd ≤ 4097 ∧ dd ≤ at_ + 1 ∧ 1 ≤ m ∧ m ≤ 255 ∧ Hid (OwnK wr w.heap.size A2 m c2 l ∧ l ++ chF bs at_ (min at_ 4096 + 1 - dd) dd (m + 1) = chL bs at_ ∧ Below w.heap.size w wr)) (fun _ vd _ _ => 5000 - (intOf vd).toNat)
  case atStart => exact ⟨1, 1, 1, some ⟨w.heap.size, 0, none⟩, [⟨0, 0, x⟩], rfl, rfl, by omega, by omega, by omega, by omega, by omega, Lib.hid ⟨HO1.out, HCH.out.symm, HB1.out⟩⟩
  case round =>
    obtain ⟨dd, m, c2, A2, l, rfl, rfl, hd1, hd2, hd3, hm1, hm2, HI⟩ := hrel
    clear y0
    by_cases hda : dd ≤ 4096
    · have e0 : decide ((dd : Int) ≤ 4096) = true := decide_eq_true (by omega)
      have e0' : decide (dd ≤ 4096) = true := decide_eq_true hda
      by_cases hdb : dd ≤ at_
      · have e1 : decide ((dd : Int) ≤ (at_ : Int)) = true := decide_eq_true (by omega)
        have e1' : decide (dd ≤ at_) = true := decide_eq_true hdb
        have hmo := (cmn_spec (bs := bs) (at_ := at_) (d := dd) (by rw [Hl.out]; omega)).1
        have hch := HI.out.2.1
        rw [chF_more (by omega)] at hch
        have HC := Lib.hid (fun W (h : Below w.heap.size w W) => common35_any (some ⟨b, off, none⟩) n c at_ dd bs W (HX.out.below h) (by omega) ha hd1 hdb)
        obtain ⟨mo, hmoe⟩ : ∃ mo, mo = cmn bs at_ dd := ⟨_, rfl⟩
        rw [← hmoe] at HC hch hmo
        have HCF := Lib.hid hch
        have HS0 := HI
        clear hch hmoe HI
        go_wp2_with fail
        refine (HC.out wr HS0.out.2.2).mono ?_
        rintro e w2 ⟨rfl, hdr2⟩
        have HI2 : Hid (OwnK w2 w.heap.size A2 m c2 l ∧ l ++ (cpL mo dd (m + 1) ++ chF bs at_ (min at_ 4096 + 1 - (dd + 1)) (dd + 1) (max (m + 1) (mo + 1))) = chL bs at_ ∧ Below w.heap.size w w2) := ⟨HS0.out.1.below (hdr2.below _), HCF.out, HS0.out.2.2.trans (hdr2.below _)⟩
        clear hdr2 HS0 HCF
        go_wp2_with fail
        go_loopw [6, 8] (fun vo vn wq => ∃ (k c3 : Nat) (A3 : Option Addr) (l3 : List Tok), vn = .int .i64 (mo : Int) ∧ vo = .slice A3 k c3 ∧ m ≤ k ∧ k ≤ 255 ∧ k ≤ max m mo ∧ Hid (OwnK wq w.heap.size A3 k c3 l3 ∧ l3 ++ (cpL mo dd (k + 1) ++ chF bs at_ (min at_ 4096 + 1 - (dd + 1)) (dd + 1) (max (m + 1) (mo + 1))) = chL bs at_ ∧ Below w.heap.size w wq)) (fun vo _ _ => 300 - vLn vo)
        case atStart => exact ⟨m, c2, A2, l, rfl, rfl, Nat.le_refl _, hm2, by omega, HI2⟩
        case round =>
          obtain ⟨k, c3, A3, l3, rfl, rfl, hk1, hk2, hk3, HJ⟩ := hrel
          by_cases hmo2 : 2 ≤ mo
          · have f0 : decide ((2 : Int) ≤ (mo : Int)) = true := decide_eq_true (by omega)
            have f0' : decide (2 ≤ mo) = true := decide_eq_true hmo2
            by_cases hkm : k < mo
            · have f1 : decide ((k : Int) < (mo : Int)) = true := decide_eq_true (by omega)
              have f1' : decide (k < mo) = true := decide_eq_true hkm
              have hj := HJ.out.2.1
              rw [cpL_more (by omega), List.cons_append] at hj
              have HNX : Hid ((l3 ++ [⟨k + 1, dd, 0⟩]) ++ (cpL mo dd (k + 1 + 1) ++ chF bs at_ (min at_ 4096 + 1 - (dd + 1)) (dd + 1) (max (m + 1) (mo + 1))) = chL bs at_) := by show _ = _; rw [← hj]; simp
              have m1 : Hid (k + 1 ≤ maxLen ∧ (k + 1) * 24 ≤ 140737488355328) := ⟨by simp [maxLen]; omega, by omega⟩
              have hown := HJ.out.1
              have hB := HJ.out.2.2.size
              have HTV : Hid ((tokL ⟨k + 1, dd, 0⟩).toArray = #[.int .i64 ((k : Int) + 1), .int .i64 (dd : Int), .int .u8 0]) := rfl
              clear hj
              go_wp2_with (at_builtin; refine wpList_pushS (enc := tokL) rfl (.tmp 51) (.tmp 57) rfl uTks infoTk tokL_one tokZ_size (fun _ => rfl) (by decide) rfl hown hB ⟨k + 1, dd, 0⟩ _ HTV.out rfl m1.out.1 m1.out.2 ?_; intro A6 c6 W6 ho6 hb6 hg6)
              have H6 : Hid (OwnK W6 w.heap.size A6 (k + 1) c6 (l3 ++ [⟨k + 1, dd, 0⟩]) ∧ Below w.heap.size w W6) := ⟨ho6, HJ.out.2.2.trans hb6⟩
              clear ho6 hb6 hg6 hown hB
              refine (HC.out W6 H6.out.2).mono ?_
              rintro e w7 ⟨rfl, hdr7⟩
              have H7 : Hid (OwnK w7 w.heap.size A6 (k + 1) c6 (l3 ++ [⟨k + 1, dd, 0⟩]) ∧ Below w.heap.size w w7) := ⟨H6.out.1.below (hdr7.below _), H6.out.2.trans (hdr7.below _)⟩
              clear hdr7
              go_wp2_with fail
              go_roundw
              case rel => exact ⟨k + 1, c6, A6, _, rfl, rfl, by omega, by omega, by omega, Lib.hid ⟨H7.out.1, HNX.out, H7.out.2⟩⟩
              case measure => (simp [vLn]) <;> omega
            · have f1 : decide ((k : Int) < (mo : Int)) = false := decide_eq_false (by omega)
              have f1' : decide (k < mo) = false := decide_eq_false hkm
              have HNX : Hid (l3 ++ chF bs at_ (min at_ 4096 + 1 - (dd + 1)) (dd + 1) (k + 1) = chL bs at_) := by
                show _ = _
                have h := HJ.out.2.1
                rw [cpL_end (by omega), List.nil_append, show max (m + 1) (mo + 1) = k + 1 by omega] at h
                exact h
              go_wp2_with fail
              go_roundw
              case rel => exact ⟨dd + 1, k, c3, A3, l3, by go_num, rfl, by omega, by omega, by omega, by omega, hk2, Lib.hid ⟨HJ.out.1, HNX.out, HJ.out.2.2⟩⟩
              case measure => (simp [intOf]) <;> omega
          · have f0 : decide ((2 : Int) ≤ (mo : Int)) = false := decide_eq_false (by omega)
            have f0' : decide (2 ≤ mo) = false := decide_eq_false hmo2
            have HNX : Hid (l3 ++ chF bs at_ (min at_ 4096 + 1 - (dd + 1)) (dd + 1) (k + 1) = chL bs at_) := by
              show _ = _
              have h := HJ.out.2.1
              rw [cpL_end (by omega), List.nil_append, show max (m + 1) (mo + 1) = k + 1 by omega] at h
              exact h
            go_wp2_with fail
            go_roundw
            case rel => exact ⟨dd + 1, k, c3, A3, l3, by go_num, rfl, by omega, by omega, by omega, by omega, hk2, Lib.hid ⟨HJ.out.1, HNX.out, HJ.out.2.2⟩⟩
            case measure => (simp [intOf]) <;> omega
      · have e1 : decide ((dd : Int) ≤ (at_ : Int)) = false := decide_eq_false (by omega)
        have e1' : decide (dd ≤ at_) = false := decide_eq_false hdb
        have HNX : Hid (chL bs at_ = l) := by show _ = _; have h := HI.out.2.1; rw [chF_end (by omega), List.append_nil] at h; exact h.symm
        go_wp2_with fail
        go_ret2
        rw [HNX.out]
        exact ⟨_, _, _, rfl, HI.out.1, by omega, HI.out.2.2⟩
    · have e0 : decide ((dd : Int) ≤ 4096) = false := decide_eq_false (by omega)
      have e0' : decide (dd ≤ 4096) = false := decide_eq_false hda
      have HNX : Hid (chL bs at_ = l) := by show _ = _; have h := HI.out.2.1; rw [chF_end (by omega), List.append_nil] at h; exact h.symm
      go_wp2_with fail
      go_ret2
      rw [HNX.out]
      exact ⟨_, _, _, rfl, HI.out.1, by omega, HI.out.2.2⟩

end Go.Proofs.YtohadkmaemmfgaaGreatDoor

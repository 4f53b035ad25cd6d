/- Uj Uk. -/
import Derived.Test.YtohadkmaemmfgaaGreatDoorRI46
import Derived.Test.YtohadkmaemmfgaaGreatDoorRI38
import Derived.Test.YtohadkmaemmfgaaGreatDoorRI05
set_option maxRecDepth 100000
set_option maxHeartbeats 4000000
namespace Go.Proofs.YtohadkmaemmfgaaGreatDoor
open Go.RowKit Go.Proofs
set_option linter.unusedVariables false
set_option linter.unusedSimpArgs false
theorem ends35_any (A : Option Addr) (n c i : Nat) (bs : List UInt8) (w : World) (hx : Bytes w A n c bs) (hn : n ≤ 65536) (hi : i ≤ 8 * n) :
    Calls Tryz.prog 180 #[.agg #[.slice A n c, .int .i64 ((8 * n : Nat) : Int)], .int .i64 (i : Int)] w fun e w' => e = .returned (.bool (endB (bitD bs) (8 * n) i)) ∧ Below w.heap.size w w' := by
  obtain ⟨w0, hw0⟩ : ∃ w0, w0 = w.alloc (.cells #[.slice A n c, .int .i64 ((8 * n : Nat) : Int)] 184) := ⟨_, rfl⟩
  have r0 : rowV w0 w.heap.size 184 #[.slice A n c, .int .i64 ((8 * n : Nat) : Int)] := by rw [hw0]; exact rowV.new w _ _
  have hb0 : Below w.heap.size w w0 := by rw [hw0]; exact balloc (Below.refl _ _) _
  have hRD := fun (hc : 8 * n - i ≤ 32) => read01_any A n c i (8 * n - i) bs w0 (hx.below hb0) hn hc (by omega)
  obtain ⟨N, hN⟩ : ∃ N, N = 8 * n := ⟨_, rfl⟩
  rw [← hN] at hw0 r0 hRD hi ⊢
  have hN8 : N ≤ 524288 := by omega
  have HW0 := Lib.hid hw0
  have HB0 := Lib.hid hb0
  have k0 : w0.cell? ⟨w.heap.size, 0, none⟩ = some (.slice A n c) := r0.cell rfl
  have k1 : w0.cell? ⟨w.heap.size, 1, none⟩ = some (.int .i64 (N : Int)) := r0.cell rfl
  rw [hw0] at k0 k1
  clear hN hw0 hb0 r0 hx
  by_cases h7 : 7 < N - i
  · have d0 : decide ((7 : Int) < (N : Int) - (i : Int)) = true := decide_eq_true (by omega)
    have HR : Hid (endB (bitD bs) N i = false) := by show _ = _; unfold endB; exact decide_eq_false (fun h => by omega)
    rw [HR.out]
    clear h7 hRD
    go_enter Tryz.func180, Tryz.ntmps180
    go_wp2_with fail
    go_ret
    rw [← HW0.out]
    exact ⟨rfl, HB0.out⟩
  · have d0 : decide ((7 : Int) < (N : Int) - (i : Int)) = false := decide_eq_false (by omega)
    have h1 := hRD (by omega)
    have hv : rdV (bitD bs) N i (N - i) = valB (bitD bs) i (N - i) := if_neg (by omega)
    have he : rdE N i (N - i) = 0 := if_neg (by omega)
    rw [hv, he] at h1
    have hcast : ((N - i : Nat) : Int) = (N : Int) - (i : Int) := by omega
    rw [hcast] at h1
    have HR : Hid (endB (bitD bs) N i = decide (valB (bitD bs) i (N - i) = 0)) := by
      show _ = _; unfold endB; exact decide_eq_decide.2 ⟨fun h => h.2, fun h => ⟨by omega, h⟩⟩
    rw [HR.out]
    obtain ⟨v, hvd⟩ : ∃ v, v = valB (bitD bs) i (N - i) := ⟨_, rfl⟩
    rw [← hvd] at h1 ⊢
    have q0 : ((v : Int) == 0) = decide (v = 0) := by by_cases h : v = 0 <;> simp [h]
    have H1 := Lib.hid h1
    have Q0 := Lib.hid q0
    clear h7 hRD hv he hvd h1 hcast q0
    go_enter Tryz.func180, Tryz.ntmps180
    go_wp2_with fail
    rw [← HW0.out]
    refine H1.out.mono ?_
    rintro e w1 ⟨rfl, hb1⟩
    have HB1 := Lib.hid (HB0.out.trans (hb1.mono HB0.out.size))
    clear hb1
    go_wp2_with fail
    go_ret
    refine ⟨?_, HB1.out⟩
    show Ending.returned (.bool ((v : Int) == 0)) = _
    rw [Q0.out]
theorem gamma35_any (A : Option Addr) (n c i most : Nat) (bs : List UInt8) (w : World) (hx : Bytes w A n c bs) (hn : n ≤ 65536) (hi : i ≤ 8 * n) (hm : most ≤ 1000000) :
    Calls Tryz.prog 235 #[.agg #[.slice A n c, .int .i64 ((8 * n : Nat) : Int)], .int .i64 (i : Int), .int .i64 (most : Int)] w fun e w' => e = .returned (.tuple #[.int .i64 (((rgR (bitD bs) (8 * n) i).1 : Nat) : Int), .int .i64 (((rgR (bitD bs) (8 * n) i).2.1 : Nat) : Int), .int .i64 (rmE (bitD bs) (8 * n) i most)]) ∧ Below w.heap.size w w' := by
  obtain ⟨w0, hw0⟩ : ∃ w0, w0 = w.alloc (.cells #[.slice A n c, .int .i64 ((8 * n : Nat) : Int)] 184) := ⟨_, rfl⟩
  have r0 : rowV w0 w.heap.size 184 #[.slice A n c, .int .i64 ((8 * n : Nat) : Int)] := by rw [hw0]; exact rowV.new w _ _
  have hb0 : Below w.heap.size w w0 := by rw [hw0]; exact balloc (Below.refl _ _) _
  have hRG := readGamma01_any A n c i bs w0 (hx.below hb0) hn hi
  have hrm : rmE (bitD bs) (8 * n) i most = if (rgR (bitD bs) (8 * n) i).2.2 = 0 ∧ most < (rgR (bitD bs) (8 * n) i).1 then 2 else (rgR (bitD bs) (8 * n) i).2.2 := rfl
  rw [hrm]
  obtain ⟨N, hN⟩ : ∃ N, N = 8 * n := ⟨_, rfl⟩
  rw [← hN] at hw0 r0 hRG hi ⊢
  have HW0 := Lib.hid hw0
  have HB0 := Lib.hid hb0
  have k0 : w0.cell? ⟨w.heap.size, 0, none⟩ = some (.slice A n c) := r0.cell rfl
  have k1 : w0.cell? ⟨w.heap.size, 1, none⟩ = some (.int .i64 (N : Int)) := r0.cell rfl
  rw [hw0] at k0 k1
  obtain ⟨a, ha⟩ : ∃ a, a = (rgR (bitD bs) N i).1 := ⟨_, rfl⟩
  obtain ⟨j, hj⟩ : ∃ a, a = (rgR (bitD bs) N i).2.1 := ⟨_, rfl⟩
  obtain ⟨er, her⟩ : ∃ a, a = (rgR (bitD bs) N i).2.2 := ⟨_, rfl⟩
  rw [← ha, ← hj, ← her] at hRG ⊢
  have HRG := Lib.hid hRG
  clear hN hw0 hb0 r0 hx hrm ha hj her hRG
  by_cases h0 : er = 0
  · subst h0
    by_cases hlt : most < a
    · have d0 : decide ((most : Int) < (a : Int)) = true := decide_eq_true (by omega)
      have d0' : decide (most < a) = true := decide_eq_true hlt
      rw [if_pos ⟨rfl, hlt⟩]
      clear hlt
      go_enter Tryz.func235, Tryz.ntmps235
      go_wp2_with fail
      rw [← HW0.out]
      refine HRG.out.mono ?_
      rintro e w1 ⟨rfl, hb1⟩
      have HB1 := Lib.hid (HB0.out.trans (hb1.mono HB0.out.size))
      clear hb1
      go_wp2_with fail
      go_ret3
      exact ⟨rfl, HB1.out⟩
    · have d0 : decide ((most : Int) < (a : Int)) = false := decide_eq_false (by omega)
      have d0' : decide (most < a) = false := decide_eq_false hlt
      rw [if_neg (fun h => hlt h.2)]
      clear hlt
      go_enter Tryz.func235, Tryz.ntmps235
      go_wp2_with fail
      rw [← HW0.out]
      refine HRG.out.mono ?_
      rintro e w1 ⟨rfl, hb1⟩
      have HB1 := Lib.hid (HB0.out.trans (hb1.mono HB0.out.size))
      clear hb1
      go_wp2_with fail
      go_ret3
      exact ⟨rfl, HB1.out⟩
  · have q0 : (er == 0) = false := by simpa using h0
    rw [if_neg (fun h => h0 h.1)]
    clear h0
    go_enter Tryz.func235, Tryz.ntmps235
    go_wp2_with fail
    rw [← HW0.out]
    refine HRG.out.mono ?_
    rintro e w1 ⟨rfl, hb1⟩
    have HB1 := Lib.hid (HB0.out.trans (hb1.mono HB0.out.size))
    clear hb1
    go_wp2_with fail
    go_ret3
    exact ⟨rfl, HB1.out⟩
def ReadP (w : World) (n i : Nat) (bs : List UInt8) (e : Ending) (w' : World) : Prop := match rdT (bitD bs) (8 * n) i with
  | .ok (t, j) => e = .returned (.tuple #[.agg (tokV t), .int .i64 (j : Int), .int .i64 0]) ∧ Below w.heap.size w w'
  | .error er => ∃ x y z q, er ≠ 0 ∧ e = .returned (.tuple #[.agg #[.int .i64 x, .int .i64 y, .int .u8 z], .int .i64 q, .int .i64 er]) ∧ Below w.heap.size w w'
theorem ReadP.bad {w w' : World} {n i : Nat} {bs : List UInt8} {e : Ending} {er x y z q : Int} (h : rdT (bitD bs) (8 * n) i = .error er) (h0 : er ≠ 0) (he : e = .returned (.tuple #[.agg #[.int .i64 x, .int .i64 y, .int .u8 z], .int .i64 q, .int .i64 er])) (hg : Below w.heap.size w w') : ReadP w n i bs e w' := by
  unfold ReadP
  rw [h]
  exact ⟨x, y, z, q, h0, he, hg⟩
theorem ReadP.good {w w' : World} {n i j : Nat} {bs : List UInt8} {e : Ending} {t : Tok} (h : rdT (bitD bs) (8 * n) i = .ok (t, j)) (he : e = .returned (.tuple #[.agg (tokV t), .int .i64 (j : Int), .int .i64 0])) (hg : Below w.heap.size w w') : ReadP w n i bs e w' := by
  unfold ReadP
  rw [h]
  exact ⟨he, hg⟩
structure RxI (w : World) (A : Option Addr) (n c N : Nat) (W : World) : Prop where
  box : rowV W w.heap.size 184 #[.slice A n c, .int .i64 (N : Int)]
  res : rowV W (w.heap.size + 1) 180 #[.int .i64 0, .int .i64 0, .int .u8 0]
  below : Below w.heap.size w W
section
variable {w W W' : World} {A : Option Addr} {n c N : Nat}
theorem RxI.call (h : RxI w A n c N W) (hb : Below W.heap.size W W') : RxI w A n c N W' := ⟨h.box.below hb h.box.lt, h.res.below hb h.res.lt, h.below.trans (hb.mono h.below.size)⟩
theorem RxI.lay (h : RxI w A n c N W) (x y z : Value) :
    rowV (((W.setCell ⟨w.heap.size + 1, 0, none⟩ x).setCell ⟨w.heap.size + 1, 1, none⟩ y).setCell ⟨w.heap.size + 1, 2, none⟩ z) (w.heap.size + 1) 180 #[x, y, z] ∧ Below w.heap.size w (((W.setCell ⟨w.heap.size + 1, 0, none⟩ x).setCell ⟨w.heap.size + 1, 1, none⟩ y).setCell ⟨w.heap.size + 1, 2, none⟩ z) :=
  ⟨((h.res.set 0 x).set 1 y).set 2 z, ((h.below.setCell (p := ⟨w.heap.size + 1, 0, none⟩) (Nat.le_succ _) x).setCell (p := ⟨w.heap.size + 1, 1, none⟩) (Nat.le_succ _) y).setCell (p := ⟨w.heap.size + 1, 2, none⟩) (Nat.le_succ _) z⟩
end
theorem read35_any (A : Option Addr) (n c i : Nat) (bs : List UInt8) (w : World) (hx : Bytes w A n c bs) (hn : n ≤ 65536) (hi : i ≤ 8 * n) :
    Calls Tryz.prog 181 #[.agg #[.slice A n c, .int .i64 ((8 * n : Nat) : Int)], .int .i64 (i : Int)] w (ReadP w n i bs) := by
  obtain ⟨w0, hw0⟩ : ∃ w0, w0 = (w.alloc (.cells #[.slice A n c, .int .i64 ((8 * n : Nat) : Int)] 184)).alloc (.cells #[.int .i64 0, .int .i64 0, .int .u8 0] 180) := ⟨_, rfl⟩
  have hI0 : RxI w A n c (8 * n) w0 := by
    have h1 : rowV (w.alloc (.cells #[.slice A n c, .int .i64 ((8 * n : Nat) : Int)] 184)) w.heap.size 184 #[.slice A n c, .int .i64 ((8 * n : Nat) : Int)] := rowV.new w _ _
    have hs : (w.alloc (.cells #[.slice A n c, .int .i64 ((8 * n : Nat) : Int)] 184)).heap.size = w.heap.size + 1 := World.size_alloc _ _
    have h2 := rowV.new (w.alloc (.cells #[.slice A n c, .int .i64 ((8 * n : Nat) : Int)] 184)) 180 #[.int .i64 0, .int .i64 0, .int .u8 0]
    rw [hs] at h2
    have hb1 : Below w.heap.size w (w.alloc (.cells #[.slice A n c, .int .i64 ((8 * n : Nat) : Int)] 184)) := balloc (Below.refl _ _) _
    have hb2 := balloc (Below.refl _ (w.alloc (.cells #[.slice A n c, .int .i64 ((8 * n : Nat) : Int)] 184))) (.cells #[.int .i64 0, .int .i64 0, .int .u8 0] 180)
    rw [hw0]
    exact ⟨h1.below hb2 h1.lt, h2, hb1.trans (hb2.mono hb1.size)⟩
  have HG := Lib.hid (fun W j cnt (hI : RxI w A n c (8 * n) W) hj hc => read01_any A n c j cnt bs W (hx.below hI.below) hn hj hc)
  have HM := Lib.hid (fun W j most (hI : RxI w A n c (8 * n) W) hj hm => gamma35_any A n c j most bs W (hx.below hI.below) hn hj hm)
  have HOK := Lib.hid (fun j most h => rmE_ok (g := bitD bs) (N := 8 * n) (i := j) (most := most) h)
  have HBAD := Lib.hid (fun e w' er x y z q h h0 he hg => ReadP.bad (w := w) (w' := w') (n := n) (i := i) (bs := bs) (e := e) (er := er) (x := x) (y := y) (z := z) (q := q) h h0 he hg)
  have HGOOD := Lib.hid (fun e w' j t h he hg => ReadP.good (w := w) (w' := w') (n := n) (i := i) (j := j) (bs := bs) (e := e) (t := t) h he hg)
  have HCL := Lib.hid (fun W (hI : RxI w A n c (8 * n) W) => And.intro (hI.box.cell (j := 0) rfl) (hI.box.cell (j := 1) rfl))
  obtain ⟨N, hN⟩ : ∃ N, N = 8 * n := ⟨_, rfl⟩
  have hN8 : N ≤ 524288 := by omega
  rw [← hN] at hw0 hI0 HG HM HOK HBAD HGOOD HCL hi ⊢
  have HI0 := Lib.hid hI0
  have HW0 := Lib.hid hw0
  have hc0 : w0.cell? ⟨w.heap.size, 0, none⟩ = some (.slice A n c) ∧ w0.cell? ⟨w.heap.size, 1, none⟩ = some (.int .i64 (N : Int)) := HCL.out w0 hI0
  have kk0 := hc0.1
  have kk1 := hc0.2
  rw [hw0] at kk0 kk1
  clear hw0 hI0 hx hN hc0
  have HC1 := HG.out w0 i 1 HI0.out (by omega) (by omega)
  by_cases h1 : N < i + 1
  · have e1 : rdV (bitD bs) N i 1 = 0 := if_pos h1
    have e2 : rdE N i 1 = 9 := if_pos h1
    rw [e1, e2] at HC1
    replace HC1 := Lib.hid HC1
    have HR : Hid (rdT (bitD bs) N i = .error 9) := rdT_a h1
    have HN0 : Hid ((9 : Int) ≠ 0) := by unfold Hid; decide
    clear h1 e1 e2
    go_enter Tryz.func181, Tryz.ntmps181
    go_wp2_with fail
    rw [← HW0.out]
    refine HC1.out.mono ?_
    rintro e w1 ⟨rfl, hb1⟩
    have HI1 := Lib.hid (HI0.out.call hb1)
    clear hb1 kk0 kk1
    have q0 := HI1.out.res.cell (j := 0) rfl
    have q1 := HI1.out.res.cell (j := 1) rfl
    have q2 := HI1.out.res.cell (j := 2) rfl
    have f0 := HI1.out.res.frozen 0
    have f1 := HI1.out.res.frozen 1
    have f2 := HI1.out.res.frozen 2
    go_wp2_with fail
    exact ret_cell3 rfl rfl rfl rfl (HI1.out.lay _ _ _).1 Tryz.underlying180 rfl (by kernel_rfl) (HBAD.out _ _ _ _ _ _ _ HR.out HN0.out rfl (HI1.out.lay _ _ _).2)
  · have e1 : rdV (bitD bs) N i 1 = valB (bitD bs) i 1 := if_neg h1
    have e2 : rdE N i 1 = 0 := if_neg h1
    rw [e1, e2] at HC1
    have hv2 := valB_lt (bitD bs) i 1
    by_cases h0 : valB (bitD bs) i 1 = 0
    · rw [h0] at HC1
      replace HC1 := Lib.hid HC1
      have hrt := rdT_b h1 h0
      have HC2 := fun W hI => HG.out W (i + 1) 8 hI (by omega) (by omega)
      have hv8 : rdV (bitD bs) N (i + 1) 8 < 256 := by
        unfold rdV
        split
        · omega
        · exact valB_lt (bitD bs) (i + 1) 8
      obtain ⟨v8, hvv⟩ : ∃ v, v = rdV (bitD bs) N (i + 1) 8 := ⟨_, rfl⟩
      obtain ⟨e8, hee⟩ : ∃ v, v = rdE N (i + 1) 8 := ⟨_, rfl⟩
      rw [← hvv, ← hee] at HC2 hrt
      rw [← hvv] at hv8
      have ei : ((i + 1 : Nat) : Int) = (i : Int) + 1 := by omega
      rw [ei] at HC2
      replace HC2 := Lib.hid HC2
      have HTV : Hid (tokV ⟨0, 0, UInt8.ofNat v8⟩ = #[.int .i64 0, .int .i64 0, .int .u8 (v8 : Int)]) := by
        unfold Hid tokV
        rw [show (UInt8.ofNat v8).toNat = v8 by simp; omega]
        rfl
      clear h1 e1 e2 h0 hv2 hvv hee ei
      go_enter Tryz.func181, Tryz.ntmps181
      go_wp2_with fail
      rw [← HW0.out]
      refine HC1.out.mono ?_
      rintro e w1 ⟨rfl, hb1⟩
      have HI1 := Lib.hid (HI0.out.call hb1)
      obtain ⟨x0, x1⟩ := HCL.out w1 HI1.out
      clear hb1 kk0 kk1
      go_wp2_with fail
      refine (HC2.out w1 HI1.out).mono ?_
      rintro e w2 ⟨rfl, hb2⟩
      have HI2 := Lib.hid (HI1.out.call hb2)
      clear hb2 x0 x1
      have q0 := HI2.out.res.cell (j := 0) rfl
      have q1 := HI2.out.res.cell (j := 1) rfl
      have q2 := HI2.out.res.cell (j := 2) rfl
      have f0 := HI2.out.res.frozen 0
      have f1 := HI2.out.res.frozen 1
      have f2 := HI2.out.res.frozen 2
      go_wp2_with fail
      by_cases he : e8 = 0
      · subst he
        rw [if_pos rfl] at hrt
        exact ret_cell3 rfl rfl rfl rfl (HI2.out.lay _ _ _).1 Tryz.underlying180 rfl (by kernel_rfl) (HGOOD.out _ _ _ _ hrt (by rw [HTV.out]; rfl) (HI2.out.lay _ _ _).2)
      · rw [if_neg he] at hrt
        exact ret_cell3 rfl rfl rfl rfl (HI2.out.lay _ _ _).1 Tryz.underlying180 rfl (by kernel_rfl) (HBAD.out _ _ _ _ _ _ _ hrt he rfl (HI2.out.lay _ _ _).2)
    · have h01 : valB (bitD bs) i 1 = 1 := by omega
      rw [h01] at HC1
      replace HC1 := Lib.hid HC1
      have HC3 := fun W hI => HM.out W (i + 1) 254 hI (by omega) (by decide)
      have hok := HOK.out (i + 1) 254
      have ht1 := fun he => rdT_c (g := bitD bs) h1 h0 he
      have ht2 := fun he he2 => rdT_d (g := bitD bs) h1 h0 he he2
      have ht3 := fun he he2 => rdT_e (g := bitD bs) h1 h0 he he2
      obtain ⟨a, ha⟩ : ∃ a, a = (rgR (bitD bs) N (i + 1)).1 := ⟨_, rfl⟩
      obtain ⟨j, hj⟩ : ∃ a, a = (rgR (bitD bs) N (i + 1)).2.1 := ⟨_, rfl⟩
      obtain ⟨er, her⟩ : ∃ a, a = rmE (bitD bs) N (i + 1) 254 := ⟨_, rfl⟩
      rw [← ha, ← hj, ← her] at HC3
      rw [← her, ← ha, ← hj] at hok
      rw [← her] at ht1
      rw [← her, ← hj] at ht2
      rw [← her, ← ha, ← hj] at ht3
      have ei : ((i + 1 : Nat) : Int) = (i : Int) + 1 := by omega
      rw [ei] at HC3
      replace HC3 := Lib.hid HC3
      clear h1 e1 e2 h0 hv2 h01 ha hj her ei
      by_cases he : er = 0
      · obtain ⟨ha254, hjN⟩ := hok he
        have HC4 := fun W hI => HM.out W j 4096 hI hjN (by decide)
        have hu2 := ht2 he
        have hu3 := ht3 he
        obtain ⟨d, hd⟩ : ∃ a, a = (rgR (bitD bs) N j).1 := ⟨_, rfl⟩
        obtain ⟨k, hk⟩ : ∃ a, a = (rgR (bitD bs) N j).2.1 := ⟨_, rfl⟩
        obtain ⟨er2, her2⟩ : ∃ a, a = rmE (bitD bs) N j 4096 := ⟨_, rfl⟩
        rw [← hd, ← hk, ← her2] at HC4
        rw [← her2] at hu2
        rw [← her2, ← hd, ← hk] at hu3
        replace HC4 := Lib.hid HC4
        have HU2 := Lib.hid hu2
        have HU3 := Lib.hid hu3
        subst he
        clear hok ht1 ht2 ht3 hd hk her2 hu2 hu3
        go_enter Tryz.func181, Tryz.ntmps181
        go_wp2_with fail
        rw [← HW0.out]
        refine HC1.out.mono ?_
        rintro e w1 ⟨rfl, hb1⟩
        have HI1 := Lib.hid (HI0.out.call hb1)
        obtain ⟨x0, x1⟩ := HCL.out w1 HI1.out
        clear hb1 kk0 kk1
        go_wp2_with fail
        refine (HC3.out w1 HI1.out).mono ?_
        rintro e w2 ⟨rfl, hb2⟩
        have HI2 := Lib.hid (HI1.out.call hb2)
        clear hb2 x0 x1
        obtain ⟨x0, x1⟩ := HCL.out w2 HI2.out
        go_wp2_with fail
        refine (HC4.out w2 HI2.out).mono ?_
        rintro e w3 ⟨rfl, hb3⟩
        have HI3 := Lib.hid (HI2.out.call hb3)
        clear hb3 x0 x1
        have q0 := HI3.out.res.cell (j := 0) rfl
        have q1 := HI3.out.res.cell (j := 1) rfl
        have q2 := HI3.out.res.cell (j := 2) rfl
        have f0 := HI3.out.res.frozen 0
        have f1 := HI3.out.res.frozen 1
        have f2 := HI3.out.res.frozen 2
        go_wp2_with fail
        by_cases he2 : er2 = 0
        · have HTV : Hid (tokV ⟨a + 1, d, 0⟩ = #[.int .i64 ((a : Int) + 1), .int .i64 (d : Int), .int .u8 0]) := rfl
          have hr := HU3.out he2
          subst he2
          exact ret_cell3 rfl rfl rfl rfl (HI3.out.lay _ _ _).1 Tryz.underlying180 rfl (by kernel_rfl) (HGOOD.out _ _ _ _ hr (by rw [HTV.out]; rfl) (HI3.out.lay _ _ _).2)
        · exact ret_cell3 rfl rfl rfl rfl (HI3.out.lay _ _ _).1 Tryz.underlying180 rfl (by kernel_rfl) (HBAD.out _ _ _ _ _ _ _ (HU2.out he2) he2 rfl (HI3.out.lay _ _ _).2)
      · have HR := Lib.hid (ht1 he)
        have HN0 := Lib.hid he
        have q9 : (er != 0) = true := by simpa using he
        clear ht1 ht2 ht3 hok he
        go_enter Tryz.func181, Tryz.ntmps181
        go_wp2_with fail
        rw [← HW0.out]
        refine HC1.out.mono ?_
        rintro e w1 ⟨rfl, hb1⟩
        have HI1 := Lib.hid (HI0.out.call hb1)
        obtain ⟨x0, x1⟩ := HCL.out w1 HI1.out
        clear hb1 kk0 kk1
        go_wp2_with fail
        refine (HC3.out w1 HI1.out).mono ?_
        rintro e w2 ⟨rfl, hb2⟩
        have HI2 := Lib.hid (HI1.out.call hb2)
        clear hb2 x0 x1
        have q0 := HI2.out.res.cell (j := 0) rfl
        have q1 := HI2.out.res.cell (j := 1) rfl
        have q2 := HI2.out.res.cell (j := 2) rfl
        have f0 := HI2.out.res.frozen 0
        have f1 := HI2.out.res.frozen 1
        have f2 := HI2.out.res.frozen 2
        go_wp2_with fail
        exact ret_cell3 rfl rfl rfl rfl (HI2.out.lay _ _ _).1 Tryz.underlying180 rfl (by kernel_rfl) (HBAD.out _ _ _ _ _ _ _ HR.out HN0.out rfl (HI2.out.lay _ _ _).2)
structure DcX (w : World) (A : Option Addr) (n c : Nat) (bs : List UInt8) (i m : Nat) (A3 : Option Addr) (m3 c3 : Nat) (l : List Tok) (W : World) : Prop where
  bx : rowV W w.heap.size 184 #[.slice A n c, .int .i64 ((8 * n : Nat) : Int)]
  own : OwnK W w.heap.size A3 m3 c3 l
  below : Below w.heap.size w W
  dec : DcD (bitD bs) (8 * n) i m l
  le : i ≤ 8 * n
  lim : ∀ t ∈ l, TokLim t
section
variable {w W W' : World} {A A3 : Option Addr} {n c i j m m3 c3 : Nat} {bs : List UInt8} {l : List Tok}
theorem DcX.grow (h : DcX w A n c bs i m A3 m3 c3 l W) (hb : Below W.heap.size W W') : DcX w A n c bs i m A3 m3 c3 l W' :=
  ⟨h.bx.below hb h.bx.lt, h.own.below hb, h.below.trans (hb.mono h.below.size), h.dec, h.le, h.lim⟩
end
theorem decode35_any (A : Option Addr) (n c : Nat) (bs : List UInt8) (w : World) (hx : Bytes w A n c bs) (hn : n ≤ 1000000) :
    Calls Tryz.prog 112 #[.slice A n c] w (DecP w bs) := by
  have hl := hx.1
  by_cases h6 : 65536 < n
  · have d0 : decide ((65536 : Int) < (n : Int)) = true := decide_eq_true (by omega)
    have d0' : decide (65536 < n) = true := decide_eq_true h6
    have HR : Hid (decT bs = .error 5) := by unfold Hid decT; rw [if_pos (by omega)]
    clear hx hl h6
    go_enter Tryz.func112, Tryz.ntmps112
    go_wp2_with fail
    go_ret2
    exact DecP.bad HR.out (by decide) rfl (Below.refl _ _)
  · have d0 : decide ((65536 : Int) < (n : Int)) = false := decide_eq_false (by omega)
    have d0' : decide (65536 < n) = false := decide_eq_false h6
    have hn6 : n ≤ 65536 := by omega
    have HDEC : Hid (decT bs = decF (bitD bs) (8 * n) 0 0) := by unfold Hid decT; rw [if_neg (by omega), hl]
    obtain ⟨w1, hw1⟩ : ∃ w1, w1 = w.alloc (.cells #[.slice A n c, .int .i64 (8 * (n : Int))] 184) := ⟨_, rfl⟩
    have hb1 : Below w.heap.size w w1 := by rw [hw1]; exact balloc (Below.refl _ _) _
    have hNN : ((8 * n : Nat) : Int) = 8 * (n : Int) := by omega
    have hs1 : rowV w1 w.heap.size 184 #[.slice A n c, .int .i64 ((8 * n : Nat) : Int)] := by rw [hw1, hNN]; exact rowV.new w _ _
    have HI0 : Hid (DcX w A n c bs 0 0 none 0 0 [] w1) := ⟨hs1, OwnS.nil _ _ _ _ _, hb1, DcD.start _ _, Nat.zero_le _, (fun t ht => by cases ht)⟩
    have HX := Lib.hid hx
    have HW1 := Lib.hid hw1
    have HNN := Lib.hid hNN
    clear hx hl h6 hw1 hb1 hs1 hNN
    go_enter Tryz.func112, Tryz.ntmps112
    go_wp2_with (refine wpList_store_new rfl 184 (.tmp 4) (.tmp 18) rfl #[.slice A n c, .int .i64 (8 * (n : Int))] 184 _ rfl rfl (by kernel_rfl) rfl (by simp [Value.oneCell']) ?_)
    rw [← HW1.out]
    go_wp2_with fail
    have HENX := Lib.hid (fun i W (hW : Bytes W A n c bs) hi => ends35_any A n c i bs W hW hn6 hi)
    have HRDX := Lib.hid (fun i W (hW : Bytes W A n c bs) hi => read35_any A n c i bs W hW hn6 hi)
    rw [HNN.out] at HENX HRDX
    go_loopw [5, 6, 7, 8, 9, 10] (fun vo vn vi _ _ _ wr => ∃ (i m : Nat) (A3 : Option Addr) (m3 c3 : Nat) (l : List Tok), vo = .slice A3 m3 c3 ∧ vn = .int .i64 (m : Int) ∧ vi = .int .i64 (i : Int) ∧ i ≤ 8 * n ∧ m3 ≤ m ∧ m ≤ 65536 ∧ Hid (DcX w A n c bs i m A3 m3 c3 l wr)) (fun _ vn _ _ _ _ _ => 65537 - (intOf vn).toNat)
    case atStart => exact ⟨0, 0, none, 0, 0, [], rfl, rfl, rfl, Nat.zero_le _, Nat.le_refl _, Nat.zero_le _, HI0⟩
    case round =>
      obtain ⟨i, m, A3, m3, c3, l, rfl, rfl, rfl, hi8, hm3, hm6, HD⟩ := hrel
      have HXr := Lib.hid (HX.out.below HD.out.below)
      have HEN := HENX.out i wr HXr.out hi8
      have k0 : wr.cell? ⟨w.heap.size, 0, none⟩ = some (.slice A n c) := HD.out.bx.cell rfl
      have k1 : wr.cell? ⟨w.heap.size, 1, none⟩ = some (.int .i64 (8 * (n : Int))) := by rw [← HNN.out]; exact HD.out.bx.cell rfl
      cases hE : endB (bitD bs) (8 * n) i with
      | true =>
        rw [hE] at HEN
        replace HEN := Lib.hid HEN
        have HR : Hid (decT bs = .ok l) := by show _ = _; rw [HDEC.out]; exact HD.out.dec.done hE
        clear hE
        go_wp2_with fail
        refine HEN.out.mono ?_
        rintro e w2 ⟨rfl, hb2⟩
        have HD2 := Lib.hid (HD.out.grow hb2)
        clear hb2
        go_wp2_with fail
        go_ret2
        exact DecP.good HR.out (Nat.le_trans hm3 hm6) rfl HD2.out.own HD2.out.lim HD2.out.below
      | false =>
        rw [hE] at HEN
        replace HEN := Lib.hid HEN
        have HEF := Lib.hid hE
        clear hE
        go_wp2_with fail
        refine HEN.out.mono ?_
        rintro e w2 ⟨rfl, hb2⟩
        have HD2 := Lib.hid (HD.out.grow hb2)
        clear hb2 HEN k0 k1
        have k0 : w2.cell? ⟨w.heap.size, 0, none⟩ = some (.slice A n c) := HD2.out.bx.cell rfl
        have k1 : w2.cell? ⟨w.heap.size, 1, none⟩ = some (.int .i64 (8 * (n : Int))) := by rw [← HNN.out]; exact HD2.out.bx.cell rfl
        have hnx := HRDX.out i w2 (HX.out.below HD2.out.below) hi8
        unfold ReadP at hnx
        cases hT : rdT (bitD bs) (8 * n) i with
        | error er =>
          simp only [hT] at hnx
          have HNX := Lib.hid hnx
          have HR : Hid (decT bs = .error er) := by show _ = _; rw [HDEC.out]; exact HD2.out.dec.err (decF_err HEF.out hT)
          clear hnx hT
          go_wp2_with fail
          refine HNX.out.mono ?_
          rintro e w3 ⟨x, y, z, q, he0, rfl, hg3⟩
          have hb3 : Below w.heap.size w w3 := HD2.out.below.trans (hg3.mono HD2.out.below.size)
          have HB4 : Hid (Below w.heap.size w (w3.alloc (.cells #[.int .i64 x, .int .i64 y, .int .u8 z] 180))) := balloc hb3 _
          have q0 : (er == 0) = false := by simpa using he0
          have q1 : (er != 0) = true := by simpa using he0
          have HE0 := Lib.hid he0
          clear hb3 hg3 he0 k0 k1
          go_wp2_with (refine wpList_store_new rfl 180 (.tmp 8) (.tmp 27) rfl #[.int .i64 x, .int .i64 y, .int .u8 z] 180 _ rfl rfl (by kernel_rfl) rfl (by simp [Value.oneCell']) ?_)
          go_ret2
          exact DecP.bad HR.out HE0.out rfl HB4.out
        | ok tj =>
          obtain ⟨t, j⟩ := tj
          simp only [hT] at hnx
          have HNX := Lib.hid hnx
          have HLM := Lib.hid (rdT_lim hT)
          have hjle := (rdT_le hT).2
          have HTT := Lib.hid hT
          clear hnx hT
          go_wp2_with fail
          refine HNX.out.mono ?_
          rintro e w3 ⟨rfl, hb3⟩
          have HD3 := Lib.hid (HD2.out.grow hb3)
          obtain ⟨w4, hw4⟩ : ∃ w4, w4 = w3.alloc (.cells (tokV t) 180) := ⟨_, rfl⟩
          have hb34 : Below w3.heap.size w3 w4 := by rw [hw4]; exact balloc (Below.refl _ _) _
          have r4 : rowV w4 w3.heap.size 180 (tokV t) := by rw [hw4]; exact rowV.new w3 _ _
          have HD4 := Lib.hid (HD3.out.grow hb34)
          have R4 := Lib.hid r4
          have z0 : w4.cell? ⟨w3.heap.size, 0, none⟩ = some (.int .i64 (t.len : Int)) := r4.cell rfl
          have z1 : w4.cell? ⟨w3.heap.size, 1, none⟩ = some (.int .i64 (t.dst : Int)) := r4.cell rfl
          have z2 : w4.cell? ⟨w3.heap.size, 2, none⟩ = some (.int .u8 (t.byt.toNat : Int)) := r4.cell rfl
          have hck := token35_any t m w4 HLM.out (by omega)
          obtain ⟨ck, hckd⟩ : ∃ ck, ck = chkT t m := ⟨_, rfl⟩
          rw [← hckd] at hck
          have HCK := Lib.hid hck
          have HCD := Lib.hid hckd
          have HBLK : Hid (∀ b, (Value.slice A3 m3 c3).ownBlock = some b → some b ≠ some w3.heap.size) := fun b hb e => by have := (HD3.out.own.blk hb).1; injection e with e; omega
          have HW4 := Lib.hid hw4
          rw [hw4] at z0 z1 z2
          clear hck hckd hb3 hb34 r4 hw4 HNX k0 k1
          go_wp2_with (refine wpList_store_new rfl 180 (.tmp 8) (.tmp 27) rfl (tokV t) 180 _ rfl rfl (tokV_info t) rfl (tokV_all t) ?_)
          rw [← HW4.out]
          unfold tokV at HCK
          refine HCK.out.mono ?_
          rintro e w5 ⟨rfl, hb5⟩
          have HD5 := Lib.hid (HD4.out.grow hb5)
          have hr5 := R4.out.below hb5 R4.out.lt
          have R5 := Lib.hid hr5
          clear hb5 z0 z1 z2 HCK hr5
          by_cases h0 : ck = 0
          · subst h0
            have HC0 : Hid (chkT t m = 0) := HCD.out.symm
            have z0 : w5.cell? ⟨w3.heap.size, 0, none⟩ = some (.int .i64 (t.len : Int)) := R5.out.cell rfl
            have z1 : w5.cell? ⟨w3.heap.size, 1, none⟩ = some (.int .i64 (t.dst : Int)) := R5.out.cell rfl
            have z2 : w5.cell? ⟨w3.heap.size, 2, none⟩ = some (.int .u8 (t.byt.toNat : Int)) := R5.out.cell rfl
            have m1 : Hid (m3 + 1 ≤ maxLen ∧ (m3 + 1) * 24 ≤ 140737488355328) := ⟨by simp [maxLen]; omega, by omega⟩
            have HB5 := Lib.hid HD5.out.below.size
            have CELLS : Hid (∀ W6, w5.grownBy W6 (Value.slice A3 m3 c3).ownBlock → rowV W6 w3.heap.size 180 (tokV t) ∧ rowV W6 w.heap.size 184 #[.slice A n c, .int .i64 ((8 * n : Nat) : Int)]) := fun W6 hg => ⟨R5.out.grown hg (fun e => by
                cases hb : (Value.slice A3 m3 c3).ownBlock with
                | none => rw [hb] at e; cases e
                | some b => rw [hb] at e; exact HBLK.out b hb e.symm), rowV.grown HD5.out.bx hg (fun e => by
                cases hb : (Value.slice A3 m3 c3).ownBlock with
                | none => rw [hb] at e; cases e
                | some b => rw [hb] at e; exact OwnS.ne_row HD5.out.own HD5.out.bx (by decide) b hb e.symm)⟩
            go_wp2_with (at_builtin; refine wpList_pushS (enc := tokL) rfl (.tmp 38) (.tmp 40) rfl uTks infoTk tokL_one tokZ_size (fun _ => rfl) (by decide) rfl HD5.out.own HB5.out t _ rfl rfl m1.out.1 m1.out.2 ?_; intro A6 c6 W6 ho6 hb6 hg6; have HO6 := Lib.hid (And.intro ho6 (And.intro hb6 hg6)); obtain ⟨hr6, -⟩ := CELLS.out W6 hg6; have y0 : W6.cell? ⟨w3.heap.size, 0, none⟩ = some (.int .i64 (t.len : Int)) := hr6.cell rfl; have y1 : W6.cell? ⟨w3.heap.size, 1, none⟩ = some (.int .i64 (t.dst : Int)) := hr6.cell rfl; have y2 : W6.cell? ⟨w3.heap.size, 2, none⟩ = some (.int .u8 (t.byt.toNat : Int)) := hr6.cell rfl; clear ho6 hb6 hg6 hr6)
            refine (size35_any t W6 HLM.out).mono ?_
            rintro e w7 ⟨rfl, hb7⟩
            have hck := chkT_ok HC0.out
            have ht1 := tsz_one t
            obtain ⟨hr6, hs6⟩ := CELLS.out W6 HO6.out.2.2
            have h6 := HD5.out.below.trans (HO6.out.2.1.mono (Nat.le_refl _))
            have hD7 : DcX w A n c bs j (m + tsz t) A6 (m3 + 1) c6 (l ++ [t]) w7 := ⟨hs6.below hb7 hs6.lt, OwnS.below HO6.out.1 hb7, h6.trans (hb7.mono h6.size), HD2.out.dec.next HEF.out HTT.out HC0.out, hjle, fun u hu => by
              rcases List.mem_append.1 hu with h | h
              · exact HD2.out.lim u h
              · rw [List.mem_singleton.1 h]; exact HLM.out⟩
            have HD7 := Lib.hid hD7
            obtain ⟨sz, hsz⟩ : ∃ sz, sz = tsz t := ⟨_, rfl⟩
            rw [← hsz] at hck ht1 HD7 ⊢
            clear hsz hb7 hr6 hs6 h6 hD7
            go_wp2_with fail
            go_roundw
            case rel => exact ⟨j, m + sz, A6, m3 + 1, c6, l ++ [t], rfl, by go_num, rfl, hjle, by omega, hck, HD7⟩
            case measure => (simp [intOf]) <;> omega
          · have q0 : (ck == 0) = false := by simpa using h0
            have q1 : (ck != 0) = true := by simpa using h0
            have HR : Hid (decT bs = .error ck) := by
              show _ = _
              rw [HDEC.out]
              refine HD2.out.dec.err ?_
              rw [decF_bad HEF.out HTT.out (by rw [← HCD.out]; exact h0), ← HCD.out]
            have HE0 := Lib.hid h0
            clear h0
            go_wp2_with fail
            go_ret2
            exact DecP.bad HR.out HE0.out rfl HD5.out.below
theorem ref36I_any (A : Option Addr) (n c : Nat) (bs : List UInt8) (w : World) (hx : Bytes w A n c bs) (hn : n ≤ 1000000) :
    Calls Tryz.prog 55 #[.slice A n c] w (RetBytes w (lzI bs).1 (lzI bs).2) := by
  have hd := decode35_any A n c bs w hx hn
  unfold DecP at hd
  cases h : decT bs with
  | error er =>
    simp only [h] at hd
    have HR : Hid (lzI bs = ([], er)) := by show _ = _; unfold lzI; rw [h]
    replace hd := Lib.hid hd
    clear h hx
    go_enter Tryz.func55, Tryz.ntmps55
    go_wp2_with fail
    refine hd.out.mono ?_
    rintro e w1 ⟨he0, rfl, hb1⟩
    have HB1 := Lib.hid hb1
    have q0 : (er != 0) = true := by simpa using he0
    clear hb1 he0
    go_wp2_with fail
    go_ret2
    rw [HR.out]
    exact RetBytes.err rfl HB1.out
  | ok l =>
    simp only [h] at hd
    have HR : Hid (lzI bs = expandT l) := by show _ = _; unfold lzI; rw [h]
    replace hd := Lib.hid hd
    rw [HR.out]
    clear h hx
    go_enter Tryz.func55, Tryz.ntmps55
    go_wp2_with fail
    refine hd.out.mono ?_
    rintro e w1 ⟨A2, m2, c2, hm2, rfl, ho, hl, hb1⟩
    have HC := Lib.hid (expand35_any A2 m2 c2 l w1 (OwnS.toks ho) hl (by omega))
    have HB1 := Lib.hid hb1
    clear hb1 ho hl
    go_wp2_with fail
    refine HC.out.mono ?_
    rintro e w2 ⟨A3, m3, c3, rfl, hy, hb2⟩
    have HF := Lib.hid (And.intro hy (HB1.out.trans (hb2.mono HB1.out.size)))
    clear hy hb2
    go_wp2_with fail
    go_ret2
    exact RetBytes.mk rfl HF.out.1 HF.out.2
end Go.Proofs.YtohadkmaemmfgaaGreatDoor

/- Oi. -/
import Derived.Test.YtckkmafppfcecaaGreatDoorRN40
set_option maxRecDepth 100000
set_option maxHeartbeats 4000000
namespace Go.Proofs.YtckkmafppfcecaaGreatDoor
open Go.RowKit Go.Proofs
set_option linter.unusedVariables false
set_option linter.unusedSimpArgs false
def rmE (g : Nat → Bool) (N i most : Nat) : Int := if (rgR g N i).2.2 = 0 ∧ most < (rgR g N i).1 then 2 else (rgR g N i).2.2
theorem rgR_err {g : Nat → Bool} {N i : Nat} {e : Int} (h : rdG g N i = .error e) : e ≠ 0 := by
  unfold rdG at h
  split at h
  · injection h with h; subst h; decide
  · split at h
    · injection h with h; subst h; decide
    · split at h
      · cases h
      · rename_i hr
        injection h with h
        unfold rdB at hr
        split at hr
        · injection hr with hr; omega
        · cases hr
theorem rdM_eq (g : Nat → Bool) (N i most : Nat) : rdM g N i most = if rmE g N i most = 0 then .ok ((rgR g N i).1, (rgR g N i).2.1) else .error (rmE g N i most) := by
  unfold rdM rmE rgR
  cases h : rdG g N i with
  | error e =>
    dsimp only
    have := rgR_err h
    have e1 : (if e = 0 ∧ most < 0 then (2 : Int) else e) = e := if_neg (fun hh => this hh.1)
    rw [e1, if_neg this]
  | ok p =>
    obtain ⟨n, j⟩ := p
    dsimp only
    by_cases hm : most < n
    · have e1 : (if (0 : Int) = 0 ∧ most < n then (2 : Int) else 0) = 2 := if_pos ⟨rfl, hm⟩
      rw [e1, if_pos hm, if_neg (by decide)]
    · have e1 : (if (0 : Int) = 0 ∧ most < n then (2 : Int) else 0) = 0 := if_neg (fun hh => hm hh.2)
      rw [e1, if_neg hm, if_pos rfl]
theorem rmE_ok {g : Nat → Bool} {N i most : Nat} (h : rmE g N i most = 0) : (rgR g N i).1 ≤ most ∧ (rgR g N i).2.1 ≤ N := by
  have h1 := rdM_eq g N i most
  rw [if_pos h] at h1
  have := rdM_le h1
  omega
theorem rdT_a {g : Nat → Bool} {N i : Nat} (h : N < i + 1) : rdT g N i = .error 9 := by
  unfold rdT rdB
  rw [if_pos h]
theorem rdT_b {g : Nat → Bool} {N i : Nat} (h1 : ¬ N < i + 1) (h0 : valB g i 1 = 0) : rdT g N i = if rdE N (i + 1) 8 = 0 then .ok (⟨0, 0, UInt8.ofNat (rdV g N (i + 1) 8)⟩, i + 9) else .error (rdE N (i + 1) 8) := by
  unfold rdT rdB rdE rdV
  rw [if_neg h1, h0]
  dsimp only
  by_cases h : N < i + 1 + 8
  · have e1 : (if N < i + 1 + 8 then (9 : Int) else 0) = 9 := if_pos h
    rw [e1, if_pos h, if_neg (by decide)]
  · have e1 : (if N < i + 1 + 8 then (9 : Int) else 0) = 0 := if_neg h
    rw [e1, if_neg h, if_pos rfl, if_neg h]
theorem rdT_k {g : Nat → Bool} {N i : Nat} (h1 : ¬ N < i + 1) (h0 : valB g i 1 ≠ 0) : rdT g N i = match rdM g N (i + 1) 254 with
    | .error e => .error e
    | .ok (n, j) => match rdM g N j 4096 with
      | .error e => .error e
      | .ok (d, k) => .ok (⟨n + 1, d, 0⟩, k) := by
  obtain ⟨m, hm⟩ : ∃ m, valB g i 1 = m + 1 := ⟨valB g i 1 - 1, by omega⟩
  unfold rdT rdB
  rw [if_neg h1, hm]
  rfl
theorem rdT_c {g : Nat → Bool} {N i : Nat} (h1 : ¬ N < i + 1) (h0 : valB g i 1 ≠ 0) (he : rmE g N (i + 1) 254 ≠ 0) : rdT g N i = .error (rmE g N (i + 1) 254) := by
  rw [rdT_k h1 h0, rdM_eq, if_neg he]
theorem rdT_d {g : Nat → Bool} {N i : Nat} (h1 : ¬ N < i + 1) (h0 : valB g i 1 ≠ 0) (he : rmE g N (i + 1) 254 = 0) (he2 : rmE g N (rgR g N (i + 1)).2.1 4096 ≠ 0) : rdT g N i = .error (rmE g N (rgR g N (i + 1)).2.1 4096) := by
  rw [rdT_k h1 h0, rdM_eq, if_pos he]
  dsimp only
  rw [rdM_eq, if_neg he2]
theorem rdT_e {g : Nat → Bool} {N i : Nat} (h1 : ¬ N < i + 1) (h0 : valB g i 1 ≠ 0) (he : rmE g N (i + 1) 254 = 0) (he2 : rmE g N (rgR g N (i + 1)).2.1 4096 = 0) : rdT g N i = .ok (⟨(rgR g N (i + 1)).1 + 1, (rgR g N (rgR g N (i + 1)).2.1).1, 0⟩, (rgR g N (rgR g N (i + 1)).2.1).2.1) := by
  rw [rdT_k h1 h0, rdM_eq, if_pos he]
  dsimp only
  rw [rdM_eq, if_pos he2]
def NextP (w : World) (g : Nat) (A : Option Addr) (n c i : Nat) (bs : List UInt8) (e : Ending) (w' : World) : Prop := match rdT (bitD bs) (8 * n) i with
  | .ok (t, j) => e = .returned (.tuple #[.agg (tokV t), .int .i64 0]) ∧ SR w' g A n c j ∧ w.grownBy w' (some g)
  | .error er => ∃ x y z, er ≠ 0 ∧ e = .returned (.tuple #[.agg #[.int .i64 x, .int .i64 y, .int .u8 z], .int .i64 er]) ∧ w.grownBy w' (some g)
theorem NextP.bad {w w' : World} {g : Nat} {A : Option Addr} {n c i : Nat} {bs : List UInt8} {e : Ending} {er x y z : Int} (h : rdT (bitD bs) (8 * n) i = .error er) (h0 : er ≠ 0) (he : e = .returned (.tuple #[.agg #[.int .i64 x, .int .i64 y, .int .u8 z], .int .i64 er])) (hg : w.grownBy w' (some g)) : NextP w g A n c i bs e w' := by
  unfold NextP
  rw [h]
  exact ⟨x, y, z, h0, he, hg⟩
theorem NextP.good {w w' : World} {g : Nat} {A : Option Addr} {n c i j : Nat} {bs : List UInt8} {e : Ending} {t : Tok} (h : rdT (bitD bs) (8 * n) i = .ok (t, j)) (he : e = .returned (.tuple #[.agg (tokV t), .int .i64 0])) (hs : SR w' g A n c j) (hg : w.grownBy w' (some g)) : NextP w g A n c i bs e w' := by
  unfold NextP
  rw [h]
  exact ⟨he, hs, hg⟩
structure NxI (w : World) (g : Nat) (A : Option Addr) (n c j : Nat) (W : World) : Prop where
  res : rowV W w.heap.size 223 #[.int .i64 0, .int .i64 0, .int .u8 0]
  sr : SR W g A n c j
  kept : w.grownBy W (some g)
section
variable {w W W' : World} {g : Nat} {A : Option Addr} {n c j j' : Nat}
theorem NxI.call (hg : g < w.heap.size) (h : NxI w g A n c j W) (hs : SR W' g A n c j') (hk : W.grownBy W' (some g)) : NxI w g A n c j' W' :=
  ⟨(hk.block _ h.res.lt (fun e => by injection e with e; omega)).trans h.res, hs, grown_trans h.kept hk⟩
theorem NxI.lay (hg : g < w.heap.size) (h : NxI w g A n c j W) (x y z : Value) :
    rowV (((W.setCell ⟨w.heap.size, 0, none⟩ x).setCell ⟨w.heap.size, 1, none⟩ y).setCell ⟨w.heap.size, 2, none⟩ z) w.heap.size 223 #[x, y, z] ∧ SR (((W.setCell ⟨w.heap.size, 0, none⟩ x).setCell ⟨w.heap.size, 1, none⟩ y).setCell ⟨w.heap.size, 2, none⟩ z) g A n c j ∧ w.grownBy (((W.setCell ⟨w.heap.size, 0, none⟩ x).setCell ⟨w.heap.size, 1, none⟩ y).setCell ⟨w.heap.size, 2, none⟩ z) (some g) := by
  have oth : ∀ q, q ≠ w.heap.size → (((W.setCell ⟨w.heap.size, 0, none⟩ x).setCell ⟨w.heap.size, 1, none⟩ y).setCell ⟨w.heap.size, 2, none⟩ z).heap[q]? = W.heap[q]? := fun q hq =>
    (Below.heap_setCell _ ⟨w.heap.size, 2, none⟩ _ q hq).trans ((Below.heap_setCell _ ⟨w.heap.size, 1, none⟩ _ q hq).trans (Below.heap_setCell _ ⟨w.heap.size, 0, none⟩ _ q hq))
  refine ⟨((h.res.set 0 x).set 1 y).set 2 z, (oth g (by omega)).trans h.sr, ⟨h.kept.os, h.kept.tape, h.kept.output, by simpa [World.setCell] using h.kept.size, fun k hk hn => (oth k (by omega)).trans (h.kept.block k hk hn)⟩⟩
end
theorem next_any (g : Nat) (A : Option Addr) (n c i : Nat) (bs : List UInt8) (w : World) (hs : SR w g A n c i) (hx : ∀ W, w.grownBy W (some g) → Bytes W A n c bs) (hn : n ≤ 65536) (hi : i ≤ 8 * n) :
    Calls Tryz.prog 198 #[.pointer (some ⟨g, 0, none⟩)] w (NextP w g A n c i bs) := by
  have hg := hs.lt
  obtain ⟨w0, hw0⟩ : ∃ w0, w0 = w.alloc (.cells #[.int .i64 0, .int .i64 0, .int .u8 0] 223) := ⟨_, rfl⟩
  have hb0 : Below w.heap.size w w0 := by rw [hw0]; exact balloc (Below.refl _ _) _
  have hI0 : NxI w g A n c i w0 := ⟨by rw [hw0]; exact rowV.new w _ _, (hb0.block g hg).trans hs, grown_below _ hb0⟩
  have HG := Lib.hid (fun W j cnt (hI : NxI w g A n c j W) hj hc => get_any g A n c j cnt bs W hI.sr (hx W hI.kept) hn hj hc)
  have HM := Lib.hid (fun W j most (hI : NxI w g A n c j W) hj hm => rgamma_any g A n c j most bs W hI.sr (hx W hI.kept) hn hj hm)
  have HOK := Lib.hid (fun j most h => rmE_ok (g := bitD bs) (N := 8 * n) (i := j) (most := most) h)
  have HI0 := Lib.hid hI0
  have HW0 := Lib.hid hw0
  have HBAD := Lib.hid (fun e w' er x y z h h0 he hg => NextP.bad (w := w) (w' := w') (g := g) (A := A) (n := n) (c := c) (i := i) (bs := bs) (e := e) (er := er) (x := x) (y := y) (z := z) h h0 he hg)
  have HGOOD := Lib.hid (fun e w' j t h he hs hg => NextP.good (w := w) (w' := w') (g := g) (A := A) (n := n) (c := c) (i := i) (j := j) (bs := bs) (e := e) (t := t) h he hs hg)
  clear hw0 hb0 hI0 hs hx
  have HC1 := HG.out w0 i 1 HI0.out hi (by omega)
  by_cases h1 : 8 * n < i + 1
  · have e1 : rdV (bitD bs) (8 * n) i 1 = 0 := if_pos h1
    have e2 : rdE (8 * n) i 1 = 9 := if_pos h1
    rw [e1, e2] at HC1
    replace HC1 := Lib.hid HC1
    have HR : Hid (rdT (bitD bs) (8 * n) i = .error 9) := rdT_a h1
    have HN0 : Hid ((9 : Int) ≠ 0) := by unfold Hid; decide
    clear h1 e1 e2
    go_enter Tryz.func198, Tryz.ntmps198
    go_wp2_with fail
    rw [← HW0.out]
    refine HC1.out.mono ?_
    rintro e w1 ⟨rfl, hs1, hk1⟩
    have HI1 := Lib.hid (HI0.out.call hg hs1 hk1)
    clear hs1 hk1
    have q0 := HI1.out.res.cell (j := 0) rfl
    have q1 := HI1.out.res.cell (j := 1) rfl
    have q2 := HI1.out.res.cell (j := 2) rfl
    have f0 := HI1.out.res.frozen 0
    have f1 := HI1.out.res.frozen 1
    have f2 := HI1.out.res.frozen 2
    go_wp2_with fail
    exact ret_cell rfl rfl rfl (HI1.out.lay hg _ _ _).1 Tryz.underlying223 rfl (by kernel_rfl) (HBAD.out _ _ _ _ _ _ HR.out HN0.out rfl (HI1.out.lay hg _ _ _).2.2)
  · have e1 : rdV (bitD bs) (8 * n) i 1 = valB (bitD bs) i 1 := if_neg h1
    have e2 : rdE (8 * n) i 1 = 0 := if_neg h1
    rw [e1, e2] at HC1
    have hv2 := valB_lt (bitD bs) i 1
    by_cases h0 : valB (bitD bs) i 1 = 0
    · rw [h0] at HC1
      replace HC1 := Lib.hid HC1
      have hrt := rdT_b h1 h0
      have HC2 := Lib.hid (fun W hI => HG.out W (i + 1) 8 hI (by omega) (Nat.le_refl 8))
      have hv8 : rdV (bitD bs) (8 * n) (i + 1) 8 < 256 := by
        unfold rdV
        split
        · omega
        · exact valB_lt (bitD bs) (i + 1) 8
      obtain ⟨v8, hvv⟩ : ∃ v, v = rdV (bitD bs) (8 * n) (i + 1) 8 := ⟨_, rfl⟩
      obtain ⟨e8, hee⟩ : ∃ v, v = rdE (8 * n) (i + 1) 8 := ⟨_, rfl⟩
      rw [← hvv, ← hee] at HC2 hrt
      rw [← hvv] at hv8
      have HTV : Hid (tokV ⟨0, 0, UInt8.ofNat v8⟩ = #[.int .i64 0, .int .i64 0, .int .u8 (v8 : Int)]) := by
        unfold Hid tokV
        rw [show (UInt8.ofNat v8).toNat = v8 by simp; omega]
        rfl
      clear h1 e1 e2 h0 hv2 hvv hee
      by_cases he : e8 = 0
      · subst he
        rw [if_pos rfl] at hrt
        have HR := Lib.hid hrt
        clear hrt
        go_enter Tryz.func198, Tryz.ntmps198
        go_wp2_with fail
        rw [← HW0.out]
        refine HC1.out.mono ?_
        rintro e w1 ⟨rfl, hs1, hk1⟩
        have HI1 := Lib.hid (HI0.out.call hg hs1 hk1)
        clear hs1 hk1
        go_wp2_with fail
        refine (HC2.out w1 HI1.out).mono ?_
        rintro e w2 ⟨rfl, hs2, hk2⟩
        have HI2 := Lib.hid (HI1.out.call hg hs2 hk2)
        clear hs2 hk2
        have q0 := HI2.out.res.cell (j := 0) rfl
        have q1 := HI2.out.res.cell (j := 1) rfl
        have q2 := HI2.out.res.cell (j := 2) rfl
        have f0 := HI2.out.res.frozen 0
        have f1 := HI2.out.res.frozen 1
        have f2 := HI2.out.res.frozen 2
        go_wp2_with fail
        exact ret_cell rfl rfl rfl (HI2.out.lay hg _ _ _).1 Tryz.underlying223 rfl (by kernel_rfl) (HGOOD.out _ _ _ _ HR.out (congrArg (fun t => Ending.returned (.tuple #[.agg t, .int .i64 0])) HTV.out.symm) (HI2.out.lay hg _ _ _).2.1 (HI2.out.lay hg _ _ _).2.2)
      · rw [if_neg he] at hrt
        have HR := Lib.hid hrt
        have HN0 := Lib.hid he
        clear hrt he
        go_enter Tryz.func198, Tryz.ntmps198
        go_wp2_with fail
        rw [← HW0.out]
        refine HC1.out.mono ?_
        rintro e w1 ⟨rfl, hs1, hk1⟩
        have HI1 := Lib.hid (HI0.out.call hg hs1 hk1)
        clear hs1 hk1
        go_wp2_with fail
        refine (HC2.out w1 HI1.out).mono ?_
        rintro e w2 ⟨rfl, hs2, hk2⟩
        have HI2 := Lib.hid (HI1.out.call hg hs2 hk2)
        clear hs2 hk2
        have q0 := HI2.out.res.cell (j := 0) rfl
        have q1 := HI2.out.res.cell (j := 1) rfl
        have q2 := HI2.out.res.cell (j := 2) rfl
        have f0 := HI2.out.res.frozen 0
        have f1 := HI2.out.res.frozen 1
        have f2 := HI2.out.res.frozen 2
        go_wp2_with fail
        exact ret_cell rfl rfl rfl (HI2.out.lay hg _ _ _).1 Tryz.underlying223 rfl (by kernel_rfl) (HBAD.out _ _ _ _ _ _ HR.out HN0.out rfl (HI2.out.lay hg _ _ _).2.2)
    · have h01 : valB (bitD bs) i 1 = 1 := by omega
      rw [h01] at HC1
      replace HC1 := Lib.hid HC1
      have HC3 := fun W hI => HM.out W (i + 1) 254 hI (by omega) (by decide)
      have hok := HOK.out (i + 1) 254
      have ht1 := fun he => rdT_c (g := bitD bs) h1 h0 he
      have ht2 := fun he he2 => rdT_d (g := bitD bs) h1 h0 he he2
      have ht3 := fun he he2 => rdT_e (g := bitD bs) h1 h0 he he2
      have hrm : ∀ j most, rmE (bitD bs) (8 * n) j most = if (rgR (bitD bs) (8 * n) j).2.2 = 0 ∧ most < (rgR (bitD bs) (8 * n) j).1 then 2 else (rgR (bitD bs) (8 * n) j).2.2 := fun _ _ => rfl
      rw [← hrm] at HC3
      obtain ⟨a, ha⟩ : ∃ a, a = (rgR (bitD bs) (8 * n) (i + 1)).1 := ⟨_, rfl⟩
      obtain ⟨j, hj⟩ : ∃ a, a = (rgR (bitD bs) (8 * n) (i + 1)).2.1 := ⟨_, rfl⟩
      obtain ⟨er, her⟩ : ∃ a, a = rmE (bitD bs) (8 * n) (i + 1) 254 := ⟨_, rfl⟩
      rw [← ha, ← hj, ← her] at HC3
      rw [← her, ← ha, ← hj] at hok
      rw [← her] at ht1
      rw [← her, ← hj] at ht2
      rw [← her, ← ha, ← hj] at ht3
      replace HC3 := Lib.hid HC3
      clear h1 e1 e2 h0 hv2 h01 ha hj her
      by_cases he : er = 0
      · obtain ⟨ha254, hjN⟩ := hok he
        have HC4 := fun W hI => HM.out W j 4096 hI hjN (by decide)
        rw [← hrm] at HC4
        have hu2 := ht2 he
        have hu3 := ht3 he
        have hok2 := HOK.out j 4096
        obtain ⟨d, hd⟩ : ∃ a, a = (rgR (bitD bs) (8 * n) j).1 := ⟨_, rfl⟩
        obtain ⟨k, hk⟩ : ∃ a, a = (rgR (bitD bs) (8 * n) j).2.1 := ⟨_, rfl⟩
        obtain ⟨er2, her2⟩ : ∃ a, a = rmE (bitD bs) (8 * n) j 4096 := ⟨_, rfl⟩
        rw [← hd, ← hk, ← her2] at HC4
        rw [← her2] at hu2
        rw [← her2, ← hd, ← hk] at hu3
        rw [← her2, ← hd, ← hk] at hok2
        replace HC4 := Lib.hid HC4
        subst he
        clear hok ht1 ht2 ht3 hd hk her2 hrm
        by_cases he2 : er2 = 0
        · have HR := Lib.hid (hu3 he2)
          have HTV : Hid (tokV ⟨a + 1, d, 0⟩ = #[.int .i64 ((a : Int) + 1), .int .i64 (d : Int), .int .u8 0]) := rfl
          subst he2
          clear hu2 hu3 hok2
          go_enter Tryz.func198, Tryz.ntmps198
          go_wp2_with fail
          rw [← HW0.out]
          refine HC1.out.mono ?_
          rintro e w1 ⟨rfl, hs1, hk1⟩
          have HI1 := Lib.hid (HI0.out.call hg hs1 hk1)
          clear hs1 hk1
          go_wp2_with fail
          refine (HC3.out w1 HI1.out).mono ?_
          rintro e w2 ⟨rfl, hs2, hk2⟩
          have HI2 := Lib.hid (HI1.out.call hg hs2 hk2)
          clear hs2 hk2
          go_wp2_with fail
          refine (HC4.out w2 HI2.out).mono ?_
          rintro e w3 ⟨rfl, hs3, hk3⟩
          have HI3 := Lib.hid (HI2.out.call hg hs3 hk3)
          clear hs3 hk3
          have q0 := HI3.out.res.cell (j := 0) rfl
          have q1 := HI3.out.res.cell (j := 1) rfl
          have q2 := HI3.out.res.cell (j := 2) rfl
          have f0 := HI3.out.res.frozen 0
          have f1 := HI3.out.res.frozen 1
          have f2 := HI3.out.res.frozen 2
          go_wp2_with fail
          exact ret_cell rfl rfl rfl (HI3.out.lay hg _ _ _).1 Tryz.underlying223 rfl (by kernel_rfl) (HGOOD.out _ _ _ _ HR.out (congrArg (fun t => Ending.returned (.tuple #[.agg t, .int .i64 0])) HTV.out.symm) (HI3.out.lay hg _ _ _).2.1 (HI3.out.lay hg _ _ _).2.2)
        · have HR := Lib.hid (hu2 he2)
          have HN0 := Lib.hid he2
          clear hu2 hu3 hok2 he2
          go_enter Tryz.func198, Tryz.ntmps198
          go_wp2_with fail
          rw [← HW0.out]
          refine HC1.out.mono ?_
          rintro e w1 ⟨rfl, hs1, hk1⟩
          have HI1 := Lib.hid (HI0.out.call hg hs1 hk1)
          clear hs1 hk1
          go_wp2_with fail
          refine (HC3.out w1 HI1.out).mono ?_
          rintro e w2 ⟨rfl, hs2, hk2⟩
          have HI2 := Lib.hid (HI1.out.call hg hs2 hk2)
          clear hs2 hk2
          go_wp2_with fail
          refine (HC4.out w2 HI2.out).mono ?_
          rintro e w3 ⟨rfl, hs3, hk3⟩
          have HI3 := Lib.hid (HI2.out.call hg hs3 hk3)
          clear hs3 hk3
          have q0 := HI3.out.res.cell (j := 0) rfl
          have q1 := HI3.out.res.cell (j := 1) rfl
          have q2 := HI3.out.res.cell (j := 2) rfl
          have f0 := HI3.out.res.frozen 0
          have f1 := HI3.out.res.frozen 1
          have f2 := HI3.out.res.frozen 2
          go_wp2_with fail
          exact ret_cell rfl rfl rfl (HI3.out.lay hg _ _ _).1 Tryz.underlying223 rfl (by kernel_rfl) (HBAD.out _ _ _ _ _ _ HR.out HN0.out rfl (HI3.out.lay hg _ _ _).2.2)
      · have HR := Lib.hid (ht1 he)
        have HN0 := Lib.hid he
        have q9 : (er == 0) = false := by simpa using he
        clear ht1 ht2 ht3 hok he hrm
        go_enter Tryz.func198, Tryz.ntmps198
        go_wp2_with fail
        rw [← HW0.out]
        refine HC1.out.mono ?_
        rintro e w1 ⟨rfl, hs1, hk1⟩
        have HI1 := Lib.hid (HI0.out.call hg hs1 hk1)
        clear hs1 hk1
        go_wp2_with fail
        refine (HC3.out w1 HI1.out).mono ?_
        rintro e w2 ⟨rfl, hs2, hk2⟩
        have HI2 := Lib.hid (HI1.out.call hg hs2 hk2)
        clear hs2 hk2
        have q0 := HI2.out.res.cell (j := 0) rfl
        have q1 := HI2.out.res.cell (j := 1) rfl
        have q2 := HI2.out.res.cell (j := 2) rfl
        have f0 := HI2.out.res.frozen 0
        have f1 := HI2.out.res.frozen 1
        have f2 := HI2.out.res.frozen 2
        go_wp2_with fail
        exact ret_cell rfl rfl rfl (HI2.out.lay hg _ _ _).1 Tryz.underlying223 rfl (by kernel_rfl) (HBAD.out _ _ _ _ _ _ HR.out HN0.out rfl (HI2.out.lay hg _ _ _).2.2)
end Go.Proofs.YtckkmafppfcecaaGreatDoor

/- Nj Nk Nl Nm Nn No Oe Of Og. -/
import Derived.Test.YtohadkmaemmfgaaGreatDoorRI17
import Derived.Test.YtohadkmaemmfgaaGreatDoorRI22
import Derived.Test.YtohadkmaemmfgaaGreatDoorRI16
import Derived.BigQuiet
set_option maxRecDepth 100000
set_option maxHeartbeats 4000000
namespace Go.Proofs.YtohadkmaemmfgaaGreatDoor
open Go.RowKit Go.Proofs
set_option linter.unusedVariables false
set_option linter.unusedSimpArgs false
theorem own_set {W : World} {B : Nat} {A : Option Addr} {n c : Nat} {xs : List UInt8} (h : Own encB W B 5 A n c xs) {q : Nat} (hq : q < n) : ∃ g, A = some ⟨g, 0, none⟩ ∧ B ≤ g ∧ (∃ cur, W.heap[g]? = some (.cells cur 5 (0, 0))) ∧ W.cell? ⟨g, q, none⟩ = some (.int .u8 ((bA xs q).toNat : Int)) ∧ W.frozen? ⟨g, q, none⟩ = false ∧ ∀ y : UInt8, Own encB (W.setCell ⟨g, q, none⟩ (.int .u8 (y.toNat : Int))) B 5 A n c (xs.set q y) := by
  have hn := h.length
  obtain ⟨g, e1, e2, hr⟩ := RowB.of_own h (by omega)
  refine ⟨g, e1, e2, ?_, hr.cell hq, hr.frozen q, fun y => ?_⟩
  · rcases h.2 with ⟨h1, h2⟩ | ⟨g', cap, cur, h1, h2, h3, h4⟩
    · omega
    · injection h1 with h1 _ _
      rw [e1] at h1
      injection h1 with h1
      injection h1 with h1 _ _
      subst h1
      exact ⟨cur, h3⟩
  · obtain ⟨h0, h1⟩ := h
    refine ⟨by rw [List.map_set, List.length_set]; exact h0, ?_⟩
    rcases h1 with ⟨h1, h2⟩ | ⟨g', cap, cur, h1, h2, h3, h4, h5, h6, h7⟩
    · exact absurd h2 (by omega)
    · have hg : g' = g := by
        injection h1 with h1 _ _
        rw [e1] at h1
        injection h1 with h1
        injection h1 with h1 _ _
        exact h1.symm
      subst hg
      refine .inr ⟨g', cap, cur.setIfInBounds q (.int .u8 (y.toNat : Int)), h1, h2, ?_, h4, h5, by simpa using h6, ?_⟩
      · simp [World.setCell, Array.getElem?_modify, h3]
      · rw [Array.toList_setIfInBounds, List.take_set, h7, List.map_set]
        rfl
structure StR (B : Nat) (W : World) (g : Nat) (xs : List UInt8) (L : Nat) (A : Option Addr) (m c : Nat) : Prop where
  row : rowV W g 186 #[.slice A m c, .int .i64 (L : Int), .int .i64 0]
  own : Own encB W B 5 A m c xs
  ge : B ≤ g
  siz : B ≤ W.heap.size
structure SKeep (B g : Nat) (W W' : World) : Prop where
  below : Below B W W'
  same : ∀ j o, W.heap[j]? = some o → j ≠ g → (∀ cur, o ≠ .cells cur 5 (0, 0)) → W'.heap[j]? = some o
theorem SKeep.refl (B g : Nat) (W : World) : SKeep B g W W := ⟨Below.refl _ _, fun _ _ h _ _ => h⟩
theorem SKeep.trans {B g : Nat} {X Y Z : World} (h : SKeep B g X Y) (k : SKeep B g Y Z) : SKeep B g X Z := ⟨h.below.trans k.below, fun j o hj hn ho => k.same j o (h.same j o hj hn ho) hn ho⟩
theorem SKeep.drew (B g : Nat) (W : World) (q : Nat) : SKeep B g W (W.drewN q) := ⟨(Drawn.drewN W q).below _, fun _ _ h _ _ => h⟩
section
variable {B g L m c : Nat} {W W6 : World} {xs : List UInt8} {A : Option Addr}
theorem StR.drew (h : StR B W g xs L A m c) (q : Nat) : StR B (W.drewN q) g xs L A m c := ⟨h.row, h.own, h.ge, h.siz⟩
theorem StR.ne (h : StR B W g xs L A m c) {j : Nat} (hj : ∃ cur, W.heap[j]? = some (.cells cur 5 (0, 0))) : g ≠ j := fun e => by
  obtain ⟨cur, hc⟩ := hj
  subst e
  have hr : W.heap[g]? = _ := h.row
  rw [hr] at hc
  injection hc with hc
  injection hc with _ hc
  exact absurd hc (by decide)
theorem StR.byte (h : StR B W g xs L A m c) {q : Nat} (hq : q < m) (y : UInt8) : ∃ ga, A = some ⟨ga, 0, none⟩ ∧ W.cell? ⟨ga, q, none⟩ = some (.int .u8 ((bA xs q).toNat : Int)) ∧ W.frozen? ⟨ga, q, none⟩ = false ∧ StR B (W.setCell ⟨ga, q, none⟩ (.int .u8 (y.toNat : Int))) g (xs.set q y) L A m c ∧ SKeep B g W (W.setCell ⟨ga, q, none⟩ (.int .u8 (y.toNat : Int))) := by
  obtain ⟨ga, e1, e2, e3, e4, e5, e6⟩ := own_set h.own hq
  have hne := h.ne e3
  refine ⟨ga, e1, e4, e5, ⟨(Below.heap_setCell W ⟨ga, q, none⟩ _ g hne).trans h.row, e6 y, h.ge, by simpa [World.setCell] using h.siz⟩, Below.setCell (p := ⟨ga, q, none⟩) (Below.refl _ _) e2 _, fun j o hj hn hno => ?_⟩
  refine (Below.heap_setCell W ⟨ga, q, none⟩ _ j (fun e => ?_)).trans hj
  have e' : j = ga := e
  obtain ⟨cur, hc⟩ := e3
  rw [← e', hj] at hc
  injection hc with hc
  exact hno cur hc
theorem StR.cnt (h : StR B W g xs L A m c) (L' : Nat) : (W.cell? ⟨g, 1, none⟩ = some (.int .i64 (L : Int)) ∧ W.frozen? ⟨g, 1, none⟩ = false) ∧ StR B (W.setCell ⟨g, 1, none⟩ (.int .i64 (L' : Int))) g xs L' A m c ∧ SKeep B g W (W.setCell ⟨g, 1, none⟩ (.int .i64 (L' : Int))) := by
  refine ⟨⟨h.row.cell rfl, h.row.frozen 1⟩, ⟨h.row.set 1 _, own_keepT h.own fun j cur hB hj => (Below.heap_setCell W ⟨g, 1, none⟩ _ j (fun e => h.ne ⟨cur, hj⟩ (show g = j from e.symm))).trans hj, h.ge, by simpa [World.setCell] using h.siz⟩, Below.setCell (p := ⟨g, 1, none⟩) (Below.refl _ _) h.ge _, fun j o hj hn hno => (Below.heap_setCell W ⟨g, 1, none⟩ _ j hn).trans hj⟩
end
def StB (B : Nat) (W : World) (g : Nat) (l : List Bool) : Prop := ∃ A m c, StR B W g (pack l) l.length A m c
section
variable {B g L m c : Nat} {W W' : World} {xs : List UInt8} {A : Option Addr} {l : List Bool}
theorem StR.grow (h : StR B W g xs L A m c) (hb : Below W.heap.size W W') : StR B W' g xs L A m c := ⟨h.row.below hb h.row.lt, h.own.below hb, h.ge, Nat.le_trans h.siz hb.size⟩
theorem StB.grow (h : StB B W g l) (hb : Below W.heap.size W W') : StB B W' g l := by
  obtain ⟨A, m, c, h⟩ := h
  exact ⟨A, m, c, h.grow hb⟩
theorem StB.lt (h : StB B W g l) : g < W.heap.size ∧ B ≤ W.heap.size ∧ B ≤ g := by
  obtain ⟨A, m, c, h⟩ := h
  exact ⟨h.row.lt, h.siz, h.ge⟩
theorem SKeep.tok (h : SKeep B g W W') {b : Nat} {t : Tok} (hr : rowV W b 180 (tokV t)) (hne : b ≠ g) : rowV W' b 180 (tokV t) := h.same b _ hr hne fun cur e => by injection e with _ e; exact absurd e (by decide)
end
def Toks (w : World) (A : Option Addr) (n c : Nat) (l : List Tok) : Prop := l.length = n ∧ n ≤ c ∧ (0 < n → ∃ b off, A = some ⟨b, off, none⟩ ∧ b < w.heap.size ∧ ∀ i, i < n → w.cell? ⟨b, off + i * 3, none⟩ = some (.int .i64 ((tG l i).len : Int)) ∧ w.cell? ⟨b, off + i * 3 + 1, none⟩ = some (.int .i64 ((tG l i).dst : Int)) ∧ w.cell? ⟨b, off + i * 3 + 2, none⟩ = some (.int .u8 ((tG l i).byt.toNat : Int)))
theorem Toks.below {w w' : World} {A : Option Addr} {n c : Nat} {l : List Tok} (h : Toks w A n c l) {B : Nat} (hb : Below B w w') (hB : w.heap.size ≤ B) : Toks w' A n c l := ⟨h.1, h.2.1, fun hn => by
  obtain ⟨b, off, rfl, hlt, hc⟩ := h.2.2 hn
  have hs := hb.size
  exact ⟨b, off, rfl, by omega, fun i hi => ⟨(hb.cell (p := ⟨b, off + i * 3, none⟩) (Nat.lt_of_lt_of_le hlt hB)).trans (hc i hi).1, (hb.cell (p := ⟨b, off + i * 3 + 1, none⟩) (Nat.lt_of_lt_of_le hlt hB)).trans (hc i hi).2.1, (hb.cell (p := ⟨b, off + i * 3 + 2, none⟩) (Nat.lt_of_lt_of_le hlt hB)).trans (hc i hi).2.2⟩⟩⟩
theorem OwnS.toks {w : World} {B n c : Nat} {A : Option Addr} {l : List Tok} (h : OwnK w B A n c l) : Toks w A n c l := by
  refine ⟨h.length (fun _ => rfl) (by decide), h.cap, fun hn => ?_⟩
  obtain ⟨g, hA, -, hgg, hc⟩ := h.get (fun _ => rfl) (by decide) ⟨0, 0, 0⟩ hn
  refine ⟨g, 0, hA, hgg, fun i hi => ⟨?_, ?_, ?_⟩⟩
  · have := hc i 0 (.int .i64 ((tG l i).len : Int)) hi rfl
    rw [Nat.zero_add]; rwa [Nat.add_zero] at this
  · rw [Nat.zero_add]; exact hc i 1 (.int .i64 ((tG l i).dst : Int)) hi rfl
  · rw [Nat.zero_add]; exact hc i 2 (.int .u8 ((tG l i).byt.toNat : Int)) hi rfl
theorem lchk_any (t : Tok) (before : Nat) (w : World) (ht : TokLim t) (hbf : before ≤ 1000000) : Calls Tryz.prog 159 #[.agg (tokV t), .int .i64 (before : Int)] w fun e w' => e = .returned (.int .i64 (chkT t before)) ∧ Below w.heap.size w w' := by
  obtain ⟨w1, hw1⟩ : ∃ w1, w1 = w.alloc (.cells (tokV t) 180) := ⟨_, rfl⟩
  have hb1 : Below w.heap.size w w1 := by rw [hw1]; exact balloc (Below.refl _ _) _
  have r1 : rowV w1 w.heap.size 180 (tokV t) := by rw [hw1]; exact rowV.new w _ _
  obtain ⟨k0, k1, k2⟩ := tok_cells t w
  have HR := right_any t w1 ht
  have HB1 := Lib.hid hb1
  have R1 := Lib.hid r1
  have HW1 := Lib.hid hw1
  have hc : chkT t before = if rightT t = false then 3 else if before < t.dst then 2 else if 65536 < before + tsz t then 5 else 0 := rfl
  have HZ := Lib.hid (fun W => lsize_any t W ht)
  obtain ⟨t1, t2⟩ := ht
  have hts : tsz t ≤ 1000001 := by unfold tsz; omega
  obtain ⟨sz, hsz⟩ : ∃ sz, sz = tsz t := ⟨_, rfl⟩
  rw [← hsz] at HZ hc hts
  clear hb1 r1 hw1 hsz
  cases hrt : rightT t with
  | false =>
    rw [hrt, if_pos rfl] at hc
    rw [hrt] at HR
    replace HR := Lib.hid HR
    have HC := Lib.hid hc
    clear hc hrt
    unfold tokV at *
    go_enter Tryz.func159, Tryz.ntmps159
    go_wp2_with fail
    rw [← HW1.out]
    refine HR.out.mono ?_
    rintro e w2 ⟨rfl, hb2⟩
    have HB2 := Lib.hid (HB1.out.trans (hb2.mono HB1.out.size))
    clear hb2
    go_wp2_with fail
    go_ret
    rw [HC.out]
    exact ⟨rfl, HB2.out⟩
  | true =>
    rw [hrt, if_neg (by decide)] at hc
    rw [hrt] at HR
    replace HR := Lib.hid HR
    by_cases h1 : before < t.dst
    · rw [if_pos h1] at hc
      have HC := Lib.hid hc
      have d1 : decide ((before : Int) < (t.dst : Int)) = true := decide_eq_true (by omega)
      have d1' : decide (before < t.dst) = true := decide_eq_true h1
      clear hc hrt h1
      unfold tokV at *
      go_enter Tryz.func159, Tryz.ntmps159
      go_wp2_with fail
      rw [← HW1.out]
      refine HR.out.mono ?_
      rintro e w2 ⟨rfl, hb2⟩
      have HB2 := Lib.hid (HB1.out.trans (hb2.mono HB1.out.size))
      have y1 : w2.cell? ⟨w.heap.size, 1, none⟩ = some (.int .i64 (t.dst : Int)) := (R1.out.below hb2 R1.out.lt).cell rfl
      clear hb2
      go_wp2_with fail
      go_ret
      rw [HC.out]
      exact ⟨rfl, HB2.out⟩
    · rw [if_neg h1] at hc
      have d1 : decide ((before : Int) < (t.dst : Int)) = false := decide_eq_false (by omega)
      have d1' : decide (before < t.dst) = false := decide_eq_false h1
      have fin : ∀ (bb : Bool) (v : Int), decide ((65536 : Int) < (before : Int) + (sz : Int)) = bb → chkT t before = v → v = (if bb then 5 else 0) → Calls Tryz.prog 159 #[.agg (tokV t), .int .i64 (before : Int)] w fun e w' => e = .returned (.int .i64 (chkT t before)) ∧ Below w.heap.size w w' := by
        intro bb v d2 hv hvb
        rw [hv]
        clear hc hrt h1 hv
        cases bb with
        | true =>
          obtain rfl : v = 5 := hvb
          unfold tokV at *
          go_enter Tryz.func159, Tryz.ntmps159
          go_wp2_with fail
          rw [← HW1.out]
          refine HR.out.mono ?_
          rintro e w2 ⟨rfl, hb2⟩
          have HB2 := Lib.hid (HB1.out.trans (hb2.mono HB1.out.size))
          have y0 : w2.cell? ⟨w.heap.size, 0, none⟩ = some (.int .i64 (t.len : Int)) := (R1.out.below hb2 R1.out.lt).cell rfl
          have y1 : w2.cell? ⟨w.heap.size, 1, none⟩ = some (.int .i64 (t.dst : Int)) := (R1.out.below hb2 R1.out.lt).cell rfl
          have y2 : w2.cell? ⟨w.heap.size, 2, none⟩ = some (.int .u8 (t.byt.toNat : Int)) := (R1.out.below hb2 R1.out.lt).cell rfl
          clear hb2
          go_wp2_with fail
          refine (HZ.out w2).mono ?_
          rintro e w3 ⟨rfl, hb3⟩
          have HB3 := Lib.hid (HB2.out.trans (hb3.mono HB2.out.size))
          clear hb3
          go_wp2_with fail
          go_ret
          exact ⟨rfl, HB3.out⟩
        | false =>
          obtain rfl : v = 0 := hvb
          unfold tokV at *
          go_enter Tryz.func159, Tryz.ntmps159
          go_wp2_with fail
          rw [← HW1.out]
          refine HR.out.mono ?_
          rintro e w2 ⟨rfl, hb2⟩
          have HB2 := Lib.hid (HB1.out.trans (hb2.mono HB1.out.size))
          have y0 : w2.cell? ⟨w.heap.size, 0, none⟩ = some (.int .i64 (t.len : Int)) := (R1.out.below hb2 R1.out.lt).cell rfl
          have y1 : w2.cell? ⟨w.heap.size, 1, none⟩ = some (.int .i64 (t.dst : Int)) := (R1.out.below hb2 R1.out.lt).cell rfl
          have y2 : w2.cell? ⟨w.heap.size, 2, none⟩ = some (.int .u8 (t.byt.toNat : Int)) := (R1.out.below hb2 R1.out.lt).cell rfl
          clear hb2
          go_wp2_with fail
          refine (HZ.out w2).mono ?_
          rintro e w3 ⟨rfl, hb3⟩
          have HB3 := Lib.hid (HB2.out.trans (hb3.mono HB2.out.size))
          clear hb3
          go_wp2_with fail
          go_ret
          exact ⟨rfl, HB3.out⟩
      by_cases h2 : 65536 < before + sz
      · rw [if_pos h2] at hc
        exact fin true 5 (decide_eq_true (by omega)) hc rfl
      · rw [if_neg h2] at hc
        exact fin false 0 (decide_eq_false (by omega)) hc rfl
theorem tdrop {l : List Tok} {k : Nat} (h : k < l.length) : l.drop k = tG l k :: l.drop (k + 1) := by
  rw [List.drop_eq_getElem_cons h]; unfold tG; rw [List.getD_eq_getElem?_getD, List.getElem?_eq_getElem h]; rfl
theorem lcheck_any (A : Option Addr) (n c : Nat) (l : List Tok) (w : World) (hx : Toks w A n c l) (hl : ∀ t ∈ l, TokLim t) (hn : n ≤ 1000000000) : Calls Tryz.prog 154 #[.slice A n c] w fun e w' => e = .returned (.int .i64 (chkL l)) ∧ Below w.heap.size w w' := by
  have hln := hx.1
  by_cases h6 : 65536 < n
  · have HC : Hid (chkL l = 6) := by show _ = _; unfold chkL; rw [hln, if_pos h6]
    have d0 : decide ((65536 : Int) < (n : Int)) = true := decide_eq_true (by omega)
    have d0' : decide (65536 < n) = true := decide_eq_true h6
    clear h6 hx
    go_enter Tryz.func154, Tryz.ntmps154
    go_wp2_with fail
    go_ret
    rw [HC.out]
    exact ⟨rfl, Below.refl _ _⟩
  · have HC : Hid (chkL l = chkF l 0) := by show _ = _; unfold chkL; rw [hln, if_neg h6]
    have d0 : decide ((65536 : Int) < (n : Int)) = false := decide_eq_false (by omega)
    have d0' : decide (65536 < n) = false := decide_eq_false h6
    have HX := Lib.hid hx
    have HL := Lib.hid hl
    rw [HC.out]
    clear h6 hx hl HC
    go_enter Tryz.func154, Tryz.ntmps154
    go_wp2_with fail
    go_loopw [3, 5, 6, 12] (fun nn _ _ i wr => ∃ k m : Nat, k ≤ n ∧ i = .int .i64 (k : Int) ∧ nn = .int .i64 (m : Int) ∧ m ≤ 65536 ∧ Hid (chkF (l.drop k) m = chkF l 0 ∧ Below w.heap.size w wr)) (fun _ _ _ i _ => n - (intOf i).toNat)
    case atStart => exact ⟨0, 0, Nat.zero_le _, rfl, rfl, Nat.zero_le _, Lib.hid ⟨rfl, Below.refl _ _⟩⟩
    case round =>
      obtain ⟨k, m, hk, rfl, rfl, hm, HI⟩ := hrel
      by_cases hlt : k < n
      · have d1 : decide ((k : Int) < (n : Int)) = true := decide_eq_true (by omega)
        have d1' : decide (k < n) = true := decide_eq_true hlt
        obtain ⟨b, off, rfl, hbl, hcc⟩ := (HX.out.below HI.out.2 (Nat.le_refl _)).2.2 (by omega)
        obtain ⟨x0, x1, x2⟩ := hcc k hlt
        have hkl : k < l.length := by omega
        have hlim := HL.out _ (tG_mem hkl)
        have hd := HI.out.1
        rw [tdrop hkl, chkF] at hd
        obtain ⟨t, ht⟩ : ∃ t, t = tG l k := ⟨_, rfl⟩
        rw [← ht] at x0 x1 x2 hlim hd
        obtain ⟨wa, hwa⟩ : ∃ wa, wa = wr.alloc (.cells (tokV t) 180) := ⟨_, rfl⟩
        have hba : Below wr.heap.size wr wa := by rw [hwa]; exact balloc (Below.refl _ _) _
        have ra : rowV wa wr.heap.size 180 (tokV t) := by rw [hwa]; exact rowV.new wr _ _
        have z0 : wa.cell? ⟨wr.heap.size, 0, none⟩ = some (.int .i64 (t.len : Int)) := ra.cell rfl
        have z1 : wa.cell? ⟨wr.heap.size, 1, none⟩ = some (.int .i64 (t.dst : Int)) := ra.cell rfl
        have z2 : wa.cell? ⟨wr.heap.size, 2, none⟩ = some (.int .u8 (t.byt.toNat : Int)) := ra.cell rfl
        rw [hwa] at z0 z1 z2
        have HK := Lib.hid (lchk_any t m wa hlim (by omega))
        have HZ := Lib.hid (fun W => lsize_any t W hlim)
        have hts : tsz t ≤ 1000001 := by have := hlim.1; unfold tsz; omega
        have RA := Lib.hid ra
        have HBA := Lib.hid (HI.out.2.trans (hba.mono HI.out.2.size))
        have HWA := Lib.hid hwa
        by_cases hc0 : chkT t m = 0
        · rw [if_pos hc0] at hd
          have hm2 : m + tsz t ≤ 65536 := by
            unfold chkT at hc0
            split at hc0
            · cases hc0
            · split at hc0
              · cases hc0
              · split at hc0
                · cases hc0
                · omega
          rw [hc0] at HK
          have HD := Lib.hid hd
          obtain ⟨sz, hsz⟩ : ∃ sz, sz = tsz t := ⟨_, rfl⟩
          rw [← hsz] at HZ HD hm2 hts
          clear hd hc0 hsz ra hba hwa ht hlim hcc
          go_wp2_with (refine wpList_store_new rfl 180 (.tmp 5) (.tmp 15) rfl (tokV t) 180 _ rfl rfl (tokV_info t) rfl (tokV_all t) ?_)
          rw [← HWA.out]
          refine HK.out.mono ?_
          rintro e w3 ⟨rfl, hb3⟩
          have R3 := RA.out.below hb3 RA.out.lt
          have v0 : w3.cell? ⟨wr.heap.size, 0, none⟩ = some (.int .i64 (t.len : Int)) := R3.cell rfl
          have v1 : w3.cell? ⟨wr.heap.size, 1, none⟩ = some (.int .i64 (t.dst : Int)) := R3.cell rfl
          have v2 : w3.cell? ⟨wr.heap.size, 2, none⟩ = some (.int .u8 (t.byt.toNat : Int)) := R3.cell rfl
          have HB3 := Lib.hid (HBA.out.trans (hb3.mono HBA.out.size))
          clear hb3 R3 z0 z1 z2
          go_wp2_with fail
          refine (HZ.out w3).mono ?_
          rintro e w4 ⟨rfl, hb4⟩
          have HB4 := Lib.hid (HB3.out.trans (hb4.mono HB3.out.size))
          clear hb4
          go_wp2_with fail
          go_roundw
          case rel => exact ⟨k + 1, m + sz, by omega, by go_num, by go_num, hm2, Lib.hid ⟨HD.out, HB4.out⟩⟩
          case measure => (simp [intOf]) <;> omega
        · rw [if_neg hc0] at hd
          have q0 : (chkT t m == 0) = false := by simpa using hc0
          obtain ⟨er, her⟩ : ∃ er, er = chkT t m := ⟨_, rfl⟩
          rw [← her] at HK hd q0 hc0
          have HD := Lib.hid hd
          clear hd ra hba hwa ht hlim hcc her hts
          go_wp2_with (refine wpList_store_new rfl 180 (.tmp 5) (.tmp 15) rfl (tokV t) 180 _ rfl rfl (tokV_info t) rfl (tokV_all t) ?_)
          rw [← HWA.out]
          refine HK.out.mono ?_
          rintro e w3 ⟨rfl, hb3⟩
          have HB3 := Lib.hid (HBA.out.trans (hb3.mono HBA.out.size))
          clear hb3 z0 z1 z2
          go_wp2_with fail
          go_ret
          rw [← HD.out]
          exact ⟨rfl, HB3.out⟩
      · obtain rfl : n = k := by omega
        have d1 : decide ((n : Int) < (n : Int)) = false := by simp
        have HD : Hid (chkF l 0 = 0) := by show _ = _; rw [← HI.out.1, List.drop_of_length_le (by omega)]; rfl
        go_wp2_with fail
        go_ret
        rw [HD.out]
        exact ⟨rfl, HI.out.2⟩

end Go.Proofs.YtohadkmaemmfgaaGreatDoor
namespace Go.Proofs.YtohadkmaemmfgaaGreatDoor
open Go.RowKit Go.Proofs
set_option linter.unusedVariables false
set_option linter.unusedSimpArgs false
attribute [local go_sem] Oper.semAt_some
theorem bchk_any (A : Option Addr) (n c : Nat) (w : World) (hn : n ≤ 65536) :
    Calls Tryz.prog 266 #[.agg #[.slice A n c, .int .i64 ((8 * n : Nat) : Int)]] w fun e w' => e = .returned (.int .i64 0) ∧ Below w.heap.size w w' := by
  obtain ⟨N, hN⟩ : ∃ N, N = 8 * n := ⟨_, rfl⟩
  rw [← hN]
  have hN2 : N ≤ 524288 := by omega
  have t1 : ((N : Int) + 7).tdiv 8 = (n : Int) := by rw [Int.tdiv_eq_ediv_of_nonneg (by omega)]; omega
  have t2 : (N : Int).tmod 8 = 0 := by rw [Int.tmod_eq_emod_of_nonneg (by omega)]; omega
  have t3 : (N : Int) % 8 = 0 := by omega
  have t4 : ((N : Int) + 7) / 8 = (n : Int) := by omega
  have d0 : decide ((N : Int) < 0) = false := decide_eq_false (by omega)
  have d1 : decide ((524288 : Int) < (N : Int)) = false := decide_eq_false (by omega)
  have d1' : decide (524288 < N) = false := decide_eq_false (by omega)
  have q0 : ((n : Int) == (n : Int)) = true := beq_self_eq_true _
  obtain ⟨w1, hw1⟩ : ∃ w1, w1 = w.alloc (.cells #[.slice A n c, .int .i64 (N : Int)] 184) := ⟨_, rfl⟩
  have r1 : rowV w1 w.heap.size 184 #[.slice A n c, .int .i64 (N : Int)] := by rw [hw1]; exact rowV.new w _ _
  have hb : Below w.heap.size w w1 := by rw [hw1]; exact balloc (Below.refl _ _) _
  have c0 := r1.cell (j := 0) rfl
  have c1 := r1.cell (j := 1) rfl
  rw [hw1] at c0 c1
  have HB := Lib.hid hb
  have HW := Lib.hid hw1
  clear r1 hb hw1 hN
  go_enter Tryz.func266, Tryz.ntmps266
  go_wp2_with fail
  go_quiet (fail)
  go_wp2_with fail
  go_ret
  rw [← HW.out]
  exact ⟨rfl, HB.out.trans ((Drawn.drewN _ _).below _)⟩
def TapeR (W : World) (b : Nat) (A : Option Addr) (n c : Nat) : Prop := rowV W b 290 #[.slice A n c, .int .i64 ((8 * n : Nat) : Int)]
theorem and_bit : ∀ (y : Fin 256) (r : Fin 8), (bits BinOp.and IntKind.u8 (y.val : Int) (128 / 2 ^ r.val) != 0) = y.val.testBit (7 - r.val) := by decide +kernel
theorem one_any (b : Nat) (A : Option Addr) (n c i : Nat) (bs : List UInt8) (w : World) (ht : TapeR w b A n c) (hx : Bytes w A n c bs) (hn : n ≤ 65536) (hi : i < 8 * n) :
    Calls Tryz.prog 297 #[.pointer (some ⟨b, 0, none⟩), .int .i64 (i : Int)] w fun e w' => e = .returned (.bool (bitD bs i)) ∧ Drawn w w' := by
  have c0 := ht.cell (j := 0) rfl
  have c1 := ht.cell (j := 1) rfl
  obtain ⟨bb, off, rfl, -, hc⟩ := hx.2.2 (by omega)
  have hcap := hx.2.1
  obtain ⟨q, hq⟩ : ∃ q, q = i / 8 := ⟨_, rfl⟩
  obtain ⟨r, hr⟩ : ∃ r, r = i % 8 := ⟨_, rfl⟩
  have hqn : q < n := by omega
  have hr8 : r < 8 := by omega
  have y0 : w.cell? ⟨bb, off + q, none⟩ = some (.int .u8 ((bA bs q).toNat : Int)) := hc q hqn
  have t1 : (i : Int).tdiv 8 = (q : Int) := by rw [Int.tdiv_eq_ediv_of_nonneg (by omega)]; omega
  have t2 : (i : Int).tmod 8 = (r : Int) := by rw [Int.tmod_eq_emod_of_nonneg (by omega)]; omega
  have t3 : (i : Int) / 8 = (q : Int) := by omega
  have t4 : (i : Int) % 8 = (r : Int) := by omega
  have HB : Hid (bitD bs i = (bA bs q).toNat.testBit (7 - r)) := by unfold Hid bitD; rw [hq, hr]
  have hylt := (bA bs q).toNat_lt
  obtain ⟨y, hy⟩ : ∃ y, y = (bA bs q).toNat := ⟨_, rfl⟩
  rw [← hy] at y0 HB hylt
  rw [HB.out]
  clear hc hq hr hy hx ht hi
  go_enter Tryz.func297, Tryz.ntmps297
  go_wp2
  go_quiet (fail)
  rw [and_bit ⟨y, hylt⟩ ⟨r, hr8⟩]
  go_wp2
  go_ret
  exact ⟨rfl, Drawn.drewN _ _⟩
theorem places_any (b : Nat) (i j : Int) (w : World) :
    Calls Tryz.prog 267 #[.pointer (some ⟨b, 0, none⟩), .int .i64 i, .int .i64 j] w fun e w' => e = .returned (.func (.func 296) #[] #[.pointer (some ⟨w.heap.size + 1, 0, none⟩), .pointer (some ⟨w.heap.size + 2, 0, none⟩), .pointer (some ⟨w.heap.size, 0, none⟩)]) ∧ w' = ((w.alloc (.cells #[.pointer (some ⟨b, 0, none⟩)] 288)).alloc (.cells #[.int .i64 i] 3)).alloc (.cells #[.int .i64 j] 3) := by
  go_enter Tryz.func267, Tryz.ntmps267
  go_wp2_with fail
  go_ret
  exact ⟨rfl, rfl⟩
def plKp (n0 b1 b2 b3 tb : Nat) (X Y : World) : Prop := Y.heap[b1]? = X.heap[b1]? ∧ Y.heap[b2]? = X.heap[b2]? ∧ Y.heap[b3]? = X.heap[b3]? ∧ Y.heap[tb]? = X.heap[tb]? ∧ Below n0 X Y
def PlI (w0 : World) (A : Option Addr) (n c i j b1 b2 b3 tb : Nat) (W : World) : Prop :=
  Boxed W b1 3 (.int .i64 (i : Int)) ∧ Boxed W b2 3 (.int .i64 (j : Int)) ∧ Boxed W b3 288 (.pointer (some ⟨tb, 0, none⟩)) ∧ TapeR W tb A n c ∧ Below w0.heap.size w0 W
section
variable {w0 W W' : World} {A : Option Addr} {n c i j b1 b2 b3 tb : Nat}
theorem PlI.kp (h : PlI w0 A n c i j b1 b2 b3 tb W) (hk : plKp w0.heap.size b1 b2 b3 tb W W') : PlI w0 A n c i j b1 b2 b3 tb W' :=
  ⟨hk.1.trans h.1, hk.2.1.trans h.2.1, hk.2.2.1.trans h.2.2.1, hk.2.2.2.1.trans h.2.2.2.1, h.2.2.2.2.trans hk.2.2.2.2⟩
theorem PlI.drawn (h : PlI w0 A n c i j b1 b2 b3 tb W) (hd : Drawn W W') : PlI w0 A n c i j b1 b2 b3 tb W' := by
  have hb := fun k => hd.below k
  exact h.kp ⟨(hb _).block _ (Nat.lt_succ_self _), (hb _).block _ (Nat.lt_succ_self _), (hb _).block _ (Nat.lt_succ_self _), (hb _).block _ (Nat.lt_succ_self _), hb _⟩
end
def bitRow (bs : List UInt8) (i k : Nat) : Array Value := #[.bool (bitD bs (i + k))]
theorem places1_gives (w0 : World) (A : Option Addr) (n c i j : Nat) (bs : List UInt8) (hx : Bytes w0 A n c bs) (hn : n ≤ 65536) (hij : i ≤ j) (hj : j ≤ 8 * n) (b1 b2 b3 tb : Nat) :
    Gives Tryz.prog 296 #[.pointer (some ⟨b1, 0, none⟩), .pointer (some ⟨b2, 0, none⟩), .pointer (some ⟨b3, 0, none⟩)] (bitRow bs i) (j - i) (fun X Y => Drawn X Y) (plKp w0.heap.size b1 b2 b3 tb)
      (PlI w0 A n c i j b1 b2 b3 tb) := by
  intro l J Jx W hI hJ hJx hY h0
  have HY := Lib.hid hY; clear hY
  have HX := Lib.hid hx
  have HI := Lib.hid hI
  have q1 := hI.1.cell
  refine callsIn_of_wp Tryz.func296 rfl trivial ?_ rfl
  simp only [Tryz.ntmps296, List.size_toArray, List.length_cons, List.length_nil, Nat.reduceAdd, Nat.reduceSub, Array.replicate_succ, Array.replicate_zero, List.push_toArray, List.append_toArray, List.nil_append, List.cons_append]
  clear hx hI
  gi_wp2
  gi_loopw [5] (fun iv wr => ∃ k : Nat, iv = .int .i64 ((i + k : Nat) : Int) ∧ k ≤ j - i ∧ J k wr ∧ Hid (PlI w0 A n c i j b1 b2 b3 tb wr)) (fun iv _ => j - (intOf iv).toNat)
  case atStart => exact ⟨0, rfl, Nat.zero_le _, h0, HI⟩
  case round =>
    obtain ⟨k, rfl, hk, hJk, HIk⟩ := hrel
    clear q1 h0 HI
    have q2 := HIk.out.2.1.cell
    have q3 := HIk.out.2.2.1.cell
    obtain ⟨p, hp⟩ : ∃ p, p = i + k := ⟨_, rfl⟩
    rw [← hp]
    have HP := Lib.hid hp
    have hpk : i ≤ p ∧ p ≤ j ∧ k = p - i := by omega
    clear hp
    by_cases hlt : p < j
    · have d0 : decide ((p : Int) < (j : Int)) = true := decide_eq_true (by omega)
      have d0' : decide (p < j) = true := decide_eq_true hlt
      have HC := Lib.hid (one_any tb A n c p bs wr HIk.out.2.2.2.1 (HX.out.below HIk.out.2.2.2.2) hn (by omega))
      have hkl : k < j - i := by omega
      gi_wp2
      refine ⟨trivial, ?_⟩
      refine (callsIn_wide.2 HC.out).mono ?_
      rintro e w1 ⟨rfl, hdr1⟩
      have hJ1 := hJ _ _ _ hJk hdr1
      have HI1 := Lib.hid (HIk.out.drawn hdr1)
      have hy0 := HY.out k w1 hkl hJ1
      unfold bitRow at hy0
      rw [← HP.out] at hy0
      obtain ⟨bv, hbv⟩ : ∃ bv, bv = bitD bs p := ⟨_, rfl⟩
      rw [← hbv] at hy0 ⊢
      clear hdr1 hJk hJ1 hbv q2 q3
      obtain ⟨fn, tmps, assign, body, hy, hR⟩ := hy0
      gi_wp2
      refine hR.mono ?_
      rintro e W3 (⟨rfl, hJ3, hk3⟩ | ⟨rfl, hJx3⟩)
      · have HI3 := Lib.hid (HI1.out.kp hk3)
        clear hR hy hk3
        gi_wp2
        go_roundw
        case rel => exact ⟨k + 1, by rw [← Nat.add_assoc, ← HP.out]; go_num, by omega, hJ3, HI3⟩
        case measure => (simp [intOf]) <;> omega
      · clear hR hy
        gi_wp2
        go_end0
        exact ⟨⟨_, rfl⟩, .inr ⟨k + 1, by omega, hJx3⟩⟩
    · have d0 : decide ((p : Int) < (j : Int)) = false := decide_eq_false (by omega)
      have d0' : decide (p < j) = false := decide_eq_false hlt
      gi_wp2
      refine ⟨trivial, ?_⟩
      gi_wp2
      refine ⟨fun f h => (by cases h), ?_⟩
      gi_wp2
      go_end0
      have hkl : k = j - i := by omega
      exact ⟨⟨_, rfl⟩, .inl (hkl ▸ hJk)⟩
end Go.Proofs.YtohadkmaemmfgaaGreatDoor
namespace Go.Proofs.YtohadkmaemmfgaaGreatDoor
open Go.RowKit Go.Proofs
set_option linter.unusedVariables false
set_option linter.unusedSimpArgs false
attribute [local go_sem] Oper.semAt_some
def rdV (g : Nat → Bool) (N i c : Nat) : Nat := if N < i + c then 0 else valB g i c
def rdE (N i c : Nat) : Int := if N < i + c then 9 else 0
theorem drawn_keeps {X Y : World} (B : Nat) (h : Drawn X Y) : KeepsFrom B X Y := by
  obtain ⟨k, rfl⟩ := h
  exact ⟨Nat.le_refl _, fun j o _ ho _ => ho⟩
structure RdI (tt : TypeId) (kd : IntKind) (w : World) (A : Option Addr) (n c i j S : Nat) (x : Nat) (W : World) : Prop where
  pl : PlI w A n c i j (S + 3) (S + 4) (S + 2) S W
  num : Boxed W (S + 1) tt (.int kd ((x : Nat) : Int))
  size : S + 5 ≤ W.heap.size
section
variable {tt : TypeId} {kd : IntKind} {w W W' : World} {A : Option Addr} {n c i j S x : Nat}
theorem RdI.kept {row : Option Nat} (hS : w.heap.size ≤ S) (h : RdI tt kd w A n c i j S x W) (hg : W.grownBy W' row) (hrow : ∀ r, row = some r → S + 5 ≤ r) : RdI tt kd w A n c i j S x W' := by
  have hsz := h.size
  have same : ∀ q, q < S + 5 → W'.heap[q]? = W.heap[q]? := fun q hq => hg.block q (by omega) (fun e => by have := hrow q e.symm; omega)
  exact ⟨h.pl.kp ⟨same _ (by omega), same _ (by omega), same _ (by omega), same _ (by omega), (Below.refl w.heap.size W).grown hg h.pl.2.2.2.2.size (fun r e => by have := hrow r e; omega)⟩, (same _ (by omega)).trans h.num, Nat.le_trans hsz hg.size⟩
theorem RdI.drawn (h : RdI tt kd w A n c i j S x W) (hd : Drawn W W') : RdI tt kd w A n c i j S x W' := by
  have hb := hd.below (W.heap.size + 1)
  exact ⟨h.pl.drawn hd, (hb.block _ (by have := h.size; omega)).trans h.num, Nat.le_trans h.size hb.size⟩
theorem RdI.put (hS : w.heap.size ≤ S) (h : RdI tt kd w A n c i j S x W) (x' : Nat) : RdI tt kd w A n c i j S x' (W.setCell ⟨S + 1, 0, none⟩ (.int kd ((x' : Nat) : Int))) ∧ KeepsFrom (S + 5) W (W.setCell ⟨S + 1, 0, none⟩ (.int kd ((x' : Nat) : Int))) ∧ plKp w.heap.size (S + 3) (S + 4) (S + 2) S W (W.setCell ⟨S + 1, 0, none⟩ (.int kd ((x' : Nat) : Int))) := by
  have oth : ∀ q, q ≠ S + 1 → (W.setCell ⟨S + 1, 0, none⟩ (.int kd ((x' : Nat) : Int))).heap[q]? = W.heap[q]? := fun q hq => Below.heap_setCell _ ⟨S + 1, 0, none⟩ _ q hq
  have hsz : (W.setCell ⟨S + 1, 0, none⟩ (.int kd ((x' : Nat) : Int))).heap.size = W.heap.size := by simp [World.setCell]
  have hkp : plKp w.heap.size (S + 3) (S + 4) (S + 2) S W (W.setCell ⟨S + 1, 0, none⟩ (.int kd ((x' : Nat) : Int))) := ⟨oth _ (by omega), oth _ (by omega), oth _ (by omega), oth _ (by omega), (Below.refl w.heap.size W).setCell (p := ⟨S + 1, 0, none⟩) (by show w.heap.size ≤ S + 1; omega) _⟩
  have h0 : rowV W (S + 1) tt #[.int kd ((x : Nat) : Int)] := h.num
  exact ⟨⟨h.pl.kp hkp, h0.set 0 _, by rw [hsz]; exact h.size⟩, ⟨by rw [hsz]; exact Nat.le_refl _, fun q o hq ho _ => (oth q (by omega)).trans ho⟩, hkp⟩
end
theorem rd_start {tt : TypeId} {kd : IntKind} {w w2 w3 : World} {A : Option Addr} {n c i j : Nat} (hb : Below w.heap.size w w2)
    (hw3 : w3 = ((((w2.alloc (.cells #[.slice A n c, .int .i64 ((8 * n : Nat) : Int)] 290)).alloc (.cells #[.int kd 0] tt)).alloc (.cells #[.pointer (some ⟨w2.heap.size, 0, none⟩)] 288)).alloc (.cells #[.int .i64 (i : Int)] 3)).alloc (.cells #[.int .i64 (j : Int)] 3)) :
    RdI tt kd w A n c i j w2.heap.size 0 w3 ∧ w3.heap.size = w2.heap.size + 5 := by
  obtain ⟨x1, h1⟩ : ∃ x, x = w2.alloc (.cells #[.slice A n c, .int .i64 ((8 * n : Nat) : Int)] 290) := ⟨_, rfl⟩
  obtain ⟨x2, h2⟩ : ∃ x, x = x1.alloc (.cells #[.int kd 0] tt) := ⟨_, rfl⟩
  obtain ⟨x3, h3⟩ : ∃ x, x = x2.alloc (.cells #[.pointer (some ⟨w2.heap.size, 0, none⟩)] 288) := ⟨_, rfl⟩
  obtain ⟨x4, h4⟩ : ∃ x, x = x3.alloc (.cells #[.int .i64 (i : Int)] 3) := ⟨_, rfl⟩
  rw [← h1, ← h2, ← h3, ← h4] at hw3
  have s1 : x1.heap.size = w2.heap.size + 1 := by rw [h1, World.size_alloc]
  have s2 : x2.heap.size = w2.heap.size + 2 := by rw [h2, World.size_alloc, s1]
  have s3 : x3.heap.size = w2.heap.size + 3 := by rw [h3, World.size_alloc, s2]
  have s4 : x4.heap.size = w2.heap.size + 4 := by rw [h4, World.size_alloc, s3]
  have s5 : w3.heap.size = w2.heap.size + 5 := by rw [hw3, World.size_alloc, s4]
  have g1 : Below w2.heap.size w2 x1 := by rw [h1]; exact balloc (Below.refl _ _) _
  have g2 : Below x1.heap.size x1 x2 := by rw [h2]; exact balloc (Below.refl _ _) _
  have g3 : Below x2.heap.size x2 x3 := by rw [h3]; exact balloc (Below.refl _ _) _
  have g4 : Below x3.heap.size x3 x4 := by rw [h4]; exact balloc (Below.refl _ _) _
  have g5 : Below x4.heap.size x4 w3 := by rw [hw3]; exact balloc (Below.refl _ _) _
  have r1 : rowV x1 w2.heap.size 290 #[.slice A n c, .int .i64 ((8 * n : Nat) : Int)] := by rw [h1]; exact rowV.new w2 _ _
  have r2 : rowV x2 (w2.heap.size + 1) tt #[.int kd 0] := by have := rowV.new x1 tt #[.int kd 0]; rw [s1] at this; rw [h2]; exact this
  have r3 : rowV x3 (w2.heap.size + 2) 288 #[.pointer (some ⟨w2.heap.size, 0, none⟩)] := by have := rowV.new x2 288 #[.pointer (some ⟨w2.heap.size, 0, none⟩)]; rw [s2] at this; rw [h3]; exact this
  have r4 : rowV x4 (w2.heap.size + 3) 3 #[.int .i64 (i : Int)] := by have := rowV.new x3 3 #[.int .i64 (i : Int)]; rw [s3] at this; rw [h4]; exact this
  have r5 : rowV w3 (w2.heap.size + 4) 3 #[.int .i64 (j : Int)] := by have := rowV.new x4 3 #[.int .i64 (j : Int)]; rw [s4] at this; rw [hw3]; exact this
  exact ⟨⟨⟨r4.below g5 (by omega), r5, (r3.below g4 (by omega)).below g5 (by omega), (((r1.below g2 (by omega)).below g3 (by omega)).below g4 (by omega)).below g5 (by omega), (((hb.trans (g1.mono hb.size)).trans (g2.mono (by have := hb.size; omega))).trans (g3.mono (by have := hb.size; omega))).trans ((g4.mono (by have := hb.size; omega)).trans (g5.mono (by have := hb.size; omega)))⟩, ((r2.below g3 (by omega)).below g4 (by omega)).below g5 (by omega), by omega⟩, s5⟩
theorem read_any (A : Option Addr) (n c i cnt : Nat) (bs : List UInt8) (w : World) (hx : Bytes w A n c bs) (hn : n ≤ 65536) (hc : cnt ≤ 32) (hi : i ≤ 1000000) :
    Calls Tryz.prog 222 #[.agg #[.slice A n c, .int .i64 ((8 * n : Nat) : Int)], .int .i64 (i : Int), .int .i64 (cnt : Int)] w fun e w' => e = .returned (.tuple #[.int .u32 ((rdV (bitD bs) (8 * n) i cnt : Nat) : Int), .int .i64 (rdE (8 * n) i cnt)]) ∧ Below w.heap.size w w' := by
  obtain ⟨w0, hw0⟩ : ∃ w0, w0 = w.alloc (.cells #[.slice A n c, .int .i64 ((8 * n : Nat) : Int)] 184) := ⟨_, rfl⟩
  have r0 : rowV w0 w.heap.size 184 #[.slice A n c, .int .i64 ((8 * n : Nat) : Int)] := by rw [hw0]; exact rowV.new w _ _
  have hb0 : Below w.heap.size w w0 := by rw [hw0]; exact balloc (Below.refl _ _) _
  have HCH := Lib.hid (bchk_any A n c w0 hn)
  have HX := Lib.hid hx
  have HN8 : Hid (8 * n ≤ 524288) := by unfold Hid; omega
  obtain ⟨N, hN⟩ : ∃ N, N = 8 * n := ⟨_, rfl⟩
  rw [← hN] at hw0 r0 HCH HN8 ⊢
  have hN8 := HN8.out
  have HN := Lib.hid hN
  have HW0 := Lib.hid hw0
  have HB0 := Lib.hid hb0
  have R0 := Lib.hid r0
  have e0 : decide ((cnt : Int) < 0) = false := decide_eq_false (by omega)
  have e1 : decide ((32 : Int) < (cnt : Int)) = false := decide_eq_false (by omega)
  have e1' : decide (32 < cnt) = false := decide_eq_false (by omega)
  have e2 : decide ((i : Int) < 0) = false := decide_eq_false (by omega)
  clear hN hw0 hb0 r0 hx
  by_cases hlt : N < i + cnt
  · have d0 : decide ((N : Int) - (cnt : Int) < (i : Int)) = true := decide_eq_true (by omega)
    have HR : Hid (rdV (bitD bs) N i cnt = 0 ∧ rdE N i cnt = 9) := ⟨if_pos hlt, if_pos hlt⟩
    rw [HR.out.1, HR.out.2]
    have k0 : w0.cell? ⟨w.heap.size, 0, none⟩ = some (.slice A n c) := R0.out.cell rfl
    have k1 : w0.cell? ⟨w.heap.size, 1, none⟩ = some (.int .i64 (N : Int)) := R0.out.cell rfl
    rw [HW0.out] at k0 k1
    clear hlt
    refine calls_of_marks Tryz.func222 rfl ?_
    simp only [Tryz.ntmps222, List.size_toArray, List.length_cons, List.length_nil, Nat.reduceAdd, Nat.reduceSub, Array.replicate_succ, Array.replicate_zero, List.push_toArray, List.append_toArray, List.nil_append, List.cons_append]
    go_wp2_with fail
    rw [← HW0.out]
    refine HCH.out.mono ?_
    rintro e w1 ⟨rfl, hb1⟩
    have r1 := R0.out.below hb1 R0.out.lt
    have k2 := r1.cell (j := 1) rfl
    have HB1 := Lib.hid (HB0.out.trans (hb1.mono HB0.out.size))
    clear r1 hb1 k0 k1
    go_wp2_with fail
    refine markPost_ret (v := .tuple #[.int .u32 0, .int .i64 9]) (fun W => by simp [results, Tryz.results222, go_sem]) rfl ?_
    exact ⟨rfl, HB1.out⟩
  · have d0 : decide ((N : Int) - (cnt : Int) < (i : Int)) = false := decide_eq_false (by omega)
    have HR : Hid (rdV (bitD bs) N i cnt = valB (bitD bs) i cnt ∧ rdE N i cnt = 0) := ⟨if_neg hlt, if_neg hlt⟩
    rw [HR.out.1, HR.out.2]
    have k0 : w0.cell? ⟨w.heap.size, 0, none⟩ = some (.slice A n c) := R0.out.cell rfl
    have k1 : w0.cell? ⟨w.heap.size, 1, none⟩ = some (.int .i64 (N : Int)) := R0.out.cell rfl
    rw [HW0.out] at k0 k1
    refine calls_of_marks Tryz.func222 rfl ?_
    simp only [Tryz.ntmps222, List.size_toArray, List.length_cons, List.length_nil, Nat.reduceAdd, Nat.reduceSub, Array.replicate_succ, Array.replicate_zero, List.push_toArray, List.append_toArray, List.nil_append, List.cons_append]
    go_wp2_with fail
    rw [← HW0.out]
    refine HCH.out.mono ?_
    rintro e w1 ⟨rfl, hb1⟩
    have r1 := R0.out.below hb1 R0.out.lt
    have k2 := r1.cell (j := 0) rfl
    have k3 := r1.cell (j := 1) rfl
    have HB1 := Lib.hid (HB0.out.trans (hb1.mono HB0.out.size))
    clear r1 hb1 k0 k1
    go_wp2_with fail
    obtain ⟨w3, hw3⟩ : ∃ w3, w3 = (w1.alloc (.cells #[.slice A n c, .int .i64 (N : Int)] 290)).alloc (.cells #[.int .u32 0] 243) := ⟨_, rfl⟩
    have s3 : w3.heap.size = w1.heap.size + 2 := by rw [hw3, World.size_alloc, World.size_alloc]
    obtain ⟨w5, hw5⟩ : ∃ w5, w5 = ((w3.alloc (.cells #[.pointer (some ⟨w1.heap.size, 0, none⟩)] 288)).alloc (.cells #[.int .i64 (i : Int)] 3)).alloc (.cells #[.int .i64 ((i : Int) + (cnt : Int))] 3) := ⟨_, rfl⟩
    have HO := places_any w1.heap.size (i : Int) ((i : Int) + (cnt : Int)) w3
    rw [← hw5, s3] at HO
    obtain ⟨hI0, hs5⟩ := rd_start (tt := 243) (kd := .u32) (w := w) (w2 := w1) (w3 := w5) (A := A) (n := n) (c := c) (i := i) (j := i + cnt) HB1.out (by rw [hw5, hw3, HN.out]; rfl)
    have hG := places1_gives w A n c i (i + cnt) bs HX.out hn (by omega) (by rw [← HN.out]; omega) (w1.heap.size + 3) (w1.heap.size + 4) (w1.heap.size + 2) w1.heap.size
    rw [show i + cnt - i = cnt by omega] at hG
    have hSw := HB1.out.size
    have Hs5 := Lib.hid hs5
    have HI0 := Lib.hid hI0
    rw [← hw3]
    refine HO.mono ?_
    rintro e wq ⟨rfl, hq⟩
    obtain rfl := hq.symm
    clear HO hw3 s3 hw5 hI0 hs5 hlt k2 k3
    go_wp2_with fail
    refine wp_rangeFunc_one (G := fun u t => (t.setIfInBounds 45 u).setIfInBounds 11 u) (u := fun k => .bool (bitD bs (i + k))) rfl (Go.Proofs.enters_of Tryz.func296 (by kernel_rfl) rfl) hG
      (fun o1 o2 => by
        have hbb := balloc (balloc (Below.refl w5.heap.size w5) o1) o2
        exact HI0.out.pl.kp ⟨hbb.block _ (by rw [Hs5.out]; omega), hbb.block _ (by rw [Hs5.out]; omega), hbb.block _ (by rw [Hs5.out]; omega), hbb.block _ (by rw [Hs5.out]; omega), hbb.mono (by rw [Hs5.out]; omega)⟩)
      (fun X Y hab => drawn_keeps _ hab)
      (fun h1 h2 => ⟨h2.1.trans h1.1, h2.2.1.trans h1.2.1, h2.2.2.1.trans h1.2.2.1, h2.2.2.2.1.trans h1.2.2.2.1, h1.2.2.2.2.trans h2.2.2.2.2⟩)
      (fun W l o o' hl hlo ho => ⟨World.putObj_heap_other (by rw [Hs5.out] at hl; omega), World.putObj_heap_other (by rw [Hs5.out] at hl; omega), World.putObj_heap_other (by rw [Hs5.out] at hl; omega), World.putObj_heap_other (by rw [Hs5.out] at hl; omega), (Below.refl w.heap.size W).grown (grownBy_putObj' W l o') (by have := (Array.getElem?_eq_some_iff.1 hlo).1; rw [Hs5.out] at hl; omega) (fun k e => by cases e; rw [Hs5.out] at hl; omega)⟩)
      (fun k => RdI 243 .u32 w A n c i (i + cnt) w1.heap.size (valB (bitD bs) i k)) (fun _ _ _ => False) ?hI (fun _ _ _ _ _ h _ _ => h.elim) (fun k X Y h hab => h.drawn hab) (fun _ _ _ _ h _ => h.elim) HI0.out ?assign ?body ?done (fun _ _ _ _ _ _ h _ => h.elim)
    case hI => exact fun s W W' row h hg hr => h.kept hSw hg (fun r e => by have := (hr r e).1; rw [Hs5.out] at this; exact this)
    case assign =>
      intro l k W K hK
      simp only [List.setIfInBounds_toArray, List.set_cons_succ, List.set_cons_zero] at hK ⊢
      gi_wp2
      exact hK
    case done =>
      intro D W hD hI hdef
      rw [Hs5.out] at hD
      have q1 := hI.num.cell
      have HI := Lib.hid hI
      clear hI
      go_wp2_with fail
      refine markPost_mark hdef (v := .tuple #[.int .u32 ((valB (bitD bs) i cnt : Nat) : Int), .int .i64 0]) (fun W => by simp [results, Tryz.results222, go_sem]) rfl ?_
      exact ⟨rfl, HI.out.pl.2.2.2.2.grown (grownBy_putObj' W D _) HI.out.pl.2.2.2.2.size (fun k e => by cases e; omega)⟩
    case body =>
      intro l k W hk hl hI
      have q1 := hI.num.cell
      have f1 := hI.num.frozen
      have hv := valB_lt (bitD bs) i k
      have hp : 2 ^ (k + 1) ≤ 2 ^ 32 := Nat.pow_le_pow_right (by decide) (by omega)
      have e32 : (2 : Nat) ^ 32 = 4294967296 := by decide
      have ep : (2 : Nat) ^ (k + 1) = 2 ^ k * 2 := Nat.pow_succ 2 k
      have hv2 : valB (bitD bs) i k * 2 + 1 < 4294967296 := by omega
      have hnx : valB (bitD bs) i (k + 1) = valB (bitD bs) i k * 2 + b01 (bitD bs (i + k)) := by rw [valB]; omega
      have HNX := Lib.hid hnx
      have HI := Lib.hid hI
      obtain ⟨v, hvv⟩ : ∃ v, v = valB (bitD bs) i k := ⟨_, rfl⟩
      obtain ⟨bv, hbv⟩ : ∃ b, b = bitD bs (i + k) := ⟨_, rfl⟩
      rw [← hvv] at HI HNX q1 hv2
      rw [← hbv] at HNX ⊢
      simp only [List.setIfInBounds_toArray, List.set_cons_succ, List.set_cons_zero]
      clear hI hv hp e32 ep hnx hvv hbv
      cases bv with
      | true =>
        have h1 := HI.out.put hSw (v * 2)
        have h2 := h1.1.put hSw (v * 2 + 1)
        have HP : Hid (RdI 243 .u32 w A n c i (i + cnt) w1.heap.size (valB (bitD bs) i (k + 1)) ((W.setCell ⟨w1.heap.size + 1, 0, none⟩ (.int .u32 ((v : Int) * 2))).setCell ⟨w1.heap.size + 1, 0, none⟩ (.int .u32 ((v : Int) * 2 + 1))) ∧ KeepsFrom (w1.heap.size + 5) W ((W.setCell ⟨w1.heap.size + 1, 0, none⟩ (.int .u32 ((v : Int) * 2))).setCell ⟨w1.heap.size + 1, 0, none⟩ (.int .u32 ((v : Int) * 2 + 1))) ∧ plKp w.heap.size (w1.heap.size + 3) (w1.heap.size + 4) (w1.heap.size + 2) w1.heap.size W ((W.setCell ⟨w1.heap.size + 1, 0, none⟩ (.int .u32 ((v : Int) * 2))).setCell ⟨w1.heap.size + 1, 0, none⟩ (.int .u32 ((v : Int) * 2 + 1)))) := by
          have e2 : (((v * 2 : Nat) : Int)) = (v : Int) * 2 := by omega
          have e3 : (((v * 2 + 1 : Nat) : Int)) = (v : Int) * 2 + 1 := by omega
          rw [e2] at h1 h2
          rw [e3] at h2
          refine ⟨by rw [HNX.out]; exact h2.1, h1.2.1.trans h2.2.1, ⟨h2.2.2.1.trans h1.2.2.1, h2.2.2.2.1.trans h1.2.2.2.1, h2.2.2.2.2.1.trans h1.2.2.2.2.1, h2.2.2.2.2.2.1.trans h1.2.2.2.2.2.1, h1.2.2.2.2.2.2.trans h2.2.2.2.2.2.2⟩⟩
        clear h1 h2
        gi_wp2
        rw [Hs5.out]
        exact ⟨HP.out.2.1, HP.out.2.2, HP.out.1⟩
      | false =>
        have h1 := HI.out.put hSw (v * 2)
        have HP : Hid (RdI 243 .u32 w A n c i (i + cnt) w1.heap.size (valB (bitD bs) i (k + 1)) (W.setCell ⟨w1.heap.size + 1, 0, none⟩ (.int .u32 ((v : Int) * 2))) ∧ KeepsFrom (w1.heap.size + 5) W (W.setCell ⟨w1.heap.size + 1, 0, none⟩ (.int .u32 ((v : Int) * 2))) ∧ plKp w.heap.size (w1.heap.size + 3) (w1.heap.size + 4) (w1.heap.size + 2) w1.heap.size W (W.setCell ⟨w1.heap.size + 1, 0, none⟩ (.int .u32 ((v : Int) * 2)))) := by
          have e2 : (((v * 2 : Nat) : Int)) = (v : Int) * 2 := by omega
          rw [e2] at h1
          refine ⟨by rw [HNX.out]; exact h1.1, h1.2.1, h1.2.2⟩
        clear h1
        gi_wp2
        rw [Hs5.out]
        exact ⟨HP.out.2.1, HP.out.2.2, HP.out.1⟩
end Go.Proofs.YtohadkmaemmfgaaGreatDoor
namespace Go.Proofs.YtohadkmaemmfgaaGreatDoor
open Go.RowKit Go.Proofs
set_option linter.unusedVariables false
set_option linter.unusedSimpArgs false
attribute [local go_sem] Oper.semAt_some
def rgR (g : Nat → Bool) (N i : Nat) : Nat × Nat × Int := match rdG g N i with | .ok (n, j) => (n, j, 0) | .error e => (0, 0, e)
theorem zB_full {g : Nat → Bool} {N : Nat} : ∀ (k i : Nat), i + k = N → (∀ j, j < k → g (i + j) = false) → zB g N i = k
  | 0, i, h, _ => by rw [zB, dif_neg (by omega)]
  | k + 1, i, h, hf => by
    have h0 := hf 0 (by omega)
    rw [Nat.add_zero] at h0
    rw [zB, dif_pos ⟨by omega, h0⟩, zB_full k (i + 1) (by omega) fun j hj => by have := hf (j + 1) (by omega); rwa [show i + 1 + j = i + (j + 1) by omega]]
theorem rg_torn {g : Nat → Bool} {N i : Nat} (h : N ≤ i + zB g N i) : rgR g N i = (0, 0, 9) := by unfold rgR rdG; rw [if_pos h]
theorem rg_many {g : Nat → Bool} {N i : Nat} (h : ¬ N ≤ i + zB g N i) (h2 : 30 < zB g N i) : rgR g N i = (0, 0, 2) := by unfold rgR rdG; rw [if_neg h, if_pos h2]
theorem rg_read {g : Nat → Bool} {N i : Nat} (h : ¬ N ≤ i + zB g N i) (h2 : ¬ 30 < zB g N i) : rgR g N i = if N < i + zB g N i + (zB g N i + 1) then (0, 0, 9) else (valB g (i + zB g N i) (zB g N i + 1), i + 2 * zB g N i + 1, 0) := by
  unfold rgR rdG rdB
  rw [if_neg h, if_neg h2]
  by_cases h3 : N < i + zB g N i + (zB g N i + 1)
  · rw [if_pos h3, if_pos h3]
  · rw [if_neg h3, if_neg h3]
structure RgI (w : World) (A : Option Addr) (n c i N S : Nat) (g : Nat → Bool) (k : Nat) (W : World) : Prop where
  rd : RdI 3 .i64 w A n c i N S k W
  zeros : ∀ j, j < k → g (i + j) = false
  row : rowV W w.heap.size 184 #[.slice A n c, .int .i64 (N : Int)]
  lt : w.heap.size < S
section
variable {w W W' : World} {A : Option Addr} {n c i N S k : Nat} {g : Nat → Bool}
theorem RgI.kept {row : Option Nat} (hS : w.heap.size ≤ S) (h : RgI w A n c i N S g k W) (hg : W.grownBy W' row) (hrow : ∀ r, row = some r → S + 5 ≤ r) : RgI w A n c i N S g k W' :=
  ⟨h.rd.kept hS hg hrow, h.zeros, (hg.block _ h.row.lt (fun e => by have := hrow _ e.symm; have := h.lt; omega)).trans h.row, h.lt⟩
theorem RgI.drawn (h : RgI w A n c i N S g k W) (hd : Drawn W W') : RgI w A n c i N S g k W' := ⟨h.rd.drawn hd, h.zeros, ((hd.below _).block _ h.row.lt).trans h.row, h.lt⟩
theorem RgI.put (hS : w.heap.size ≤ S) (h : RgI w A n c i N S g k W) (hb : g (i + k) = false) : RgI w A n c i N S g (k + 1) (W.setCell ⟨S + 1, 0, none⟩ (.int .i64 ((k + 1 : Nat) : Int))) ∧ KeepsFrom (S + 5) W (W.setCell ⟨S + 1, 0, none⟩ (.int .i64 ((k + 1 : Nat) : Int))) ∧ plKp w.heap.size (S + 3) (S + 4) (S + 2) S W (W.setCell ⟨S + 1, 0, none⟩ (.int .i64 ((k + 1 : Nat) : Int))) := by
  obtain ⟨h1, h2, h3⟩ := h.rd.put hS (k + 1)
  refine ⟨⟨h1, fun j hj => ?_, (Below.heap_setCell _ ⟨S + 1, 0, none⟩ _ _ (by show w.heap.size ≠ S + 1; omega)).trans h.row, h.lt⟩, h2, h3⟩
  rcases Nat.lt_or_ge j k with e | e
  · exact h.zeros j e
  · obtain rfl : j = k := by omega
    exact hb
end
theorem readGamma_any (A : Option Addr) (n c i : Nat) (bs : List UInt8) (w : World) (hx : Bytes w A n c bs) (hn : n ≤ 65536) (hi : i ≤ 8 * n) :
    Calls Tryz.prog 268 #[.agg #[.slice A n c, .int .i64 ((8 * n : Nat) : Int)], .int .i64 (i : Int)] w fun e w' => e = .returned (.tuple #[.int .i64 (((rgR (bitD bs) (8 * n) i).1 : Nat) : Int), .int .i64 (((rgR (bitD bs) (8 * n) i).2.1 : Nat) : Int), .int .i64 (rgR (bitD bs) (8 * n) i).2.2]) ∧ Below w.heap.size w w' := by
  obtain ⟨w0, hw0⟩ : ∃ w0, w0 = w.alloc (.cells #[.slice A n c, .int .i64 ((8 * n : Nat) : Int)] 184) := ⟨_, rfl⟩
  have r0 : rowV w0 w.heap.size 184 #[.slice A n c, .int .i64 ((8 * n : Nat) : Int)] := by rw [hw0]; exact rowV.new w _ _
  have hb0 : Below w.heap.size w w0 := by rw [hw0]; exact balloc (Below.refl _ _) _
  have HCH := Lib.hid (bchk_any A n c w0 hn)
  have HX := Lib.hid hx
  have HRD := Lib.hid (fun i cnt W hW hc hi => read_any A n c i cnt bs W hW hn hc hi)
  have HN8 : Hid (8 * n ≤ 524288) := by unfold Hid; omega
  obtain ⟨N, hN⟩ : ∃ N, N = 8 * n := ⟨_, rfl⟩
  rw [← hN] at hw0 r0 HCH HN8 HRD hi ⊢
  have hN8 := HN8.out
  have HN := Lib.hid hN
  have HW0 := Lib.hid hw0
  have HB0 := Lib.hid hb0
  have R0 := Lib.hid r0
  have e2 : decide ((i : Int) < 0) = false := decide_eq_false (by omega)
  clear hN hw0 hb0 r0 hx
  have k0 : w0.cell? ⟨w.heap.size, 0, none⟩ = some (.slice A n c) := R0.out.cell rfl
  have k1 : w0.cell? ⟨w.heap.size, 1, none⟩ = some (.int .i64 (N : Int)) := R0.out.cell rfl
  rw [HW0.out] at k0 k1
  refine calls_of_marks Tryz.func268 rfl ?_
  simp only [Tryz.ntmps268, List.size_toArray, List.length_cons, List.length_nil, Nat.reduceAdd, Nat.reduceSub, Array.replicate_succ, Array.replicate_zero, List.push_toArray, List.append_toArray, List.nil_append, List.cons_append]
  go_wp2_with fail
  rw [← HW0.out]
  refine HCH.out.mono ?_
  rintro e w1 ⟨rfl, hb1⟩
  have hr1 := R0.out.below hb1 R0.out.lt
  have k2 := hr1.cell (j := 0) rfl
  have k3 := hr1.cell (j := 1) rfl
  have R1 := Lib.hid hr1
  have HB1 := Lib.hid (HB0.out.trans (hb1.mono HB0.out.size))
  clear hr1 hb1 k0 k1
  have hb3 : Below w1.heap.size w1 ((w1.alloc (.cells #[.slice A n c, .int .i64 (N : Int)] 290)).alloc (.cells #[.int .i64 0] 3)) := balloc (balloc (Below.refl _ _) _) _
  have k4 : ((w1.alloc (.cells #[.slice A n c, .int .i64 (N : Int)] 290)).alloc (.cells #[.int .i64 0] 3)).cell? ⟨w.heap.size, 1, none⟩ = some (.int .i64 (N : Int)) := (hb3.cell (p := ⟨w.heap.size, 1, none⟩) R1.out.lt).trans k3
  clear hb3
  go_wp2_with fail
  obtain ⟨w3, hw3⟩ : ∃ w3, w3 = (w1.alloc (.cells #[.slice A n c, .int .i64 (N : Int)] 290)).alloc (.cells #[.int .i64 0] 3) := ⟨_, rfl⟩
  have s3 : w3.heap.size = w1.heap.size + 2 := by rw [hw3, World.size_alloc, World.size_alloc]
  obtain ⟨w5, hw5⟩ : ∃ w5, w5 = ((w3.alloc (.cells #[.pointer (some ⟨w1.heap.size, 0, none⟩)] 288)).alloc (.cells #[.int .i64 (i : Int)] 3)).alloc (.cells #[.int .i64 (N : Int)] 3) := ⟨_, rfl⟩
  have HO := places_any w1.heap.size (i : Int) (N : Int) w3
  rw [← hw5, s3] at HO
  obtain ⟨hI0, hs5⟩ := rd_start (tt := 3) (kd := .i64) (w := w) (w2 := w1) (w3 := w5) (A := A) (n := n) (c := c) (i := i) (j := N) HB1.out (by rw [hw5, hw3, HN.out])
  have hG := places1_gives w A n c i N bs HX.out hn hi (by rw [← HN.out]; omega) (w1.heap.size + 3) (w1.heap.size + 4) (w1.heap.size + 2) w1.heap.size
  have hSw := HB1.out.size
  have Hs5 := Lib.hid hs5
  have HI0 := Lib.hid hI0
  rw [← hw3]
  refine HO.mono ?_
  rintro e wq ⟨rfl, hq⟩
  obtain rfl := hq.symm
  have hSlt : w.heap.size < w1.heap.size := R1.out.lt
  have HX5 : Hid (Below w1.heap.size w1 w5) := by
    unfold Hid
    rw [hw5, hw3]
    exact balloc (balloc (balloc (balloc (balloc (Below.refl _ _) _) _) _) _) _
  clear HO hw3 s3 hw5 hI0 hs5 k2 k3 k4
  go_wp2_with fail
  have HRS : Hid (rowV w5 w.heap.size 184 #[.slice A n c, .int .i64 (N : Int)]) := by
    have hbb : Below w1.heap.size w1 w5 := by
      have := HX5.out
      exact this
    exact R1.out.below hbb R1.out.lt
  refine wp_rangeFunc_one (G := fun u t => (t.setIfInBounds 28 u).setIfInBounds 10 u) (u := fun k => .bool (bitD bs (i + k))) rfl (Go.Proofs.enters_of Tryz.func296 (by kernel_rfl) rfl) hG
    (fun o1 o2 => by
      have hbb := balloc (balloc (Below.refl w5.heap.size w5) o1) o2
      exact HI0.out.pl.kp ⟨hbb.block _ (by rw [Hs5.out]; omega), hbb.block _ (by rw [Hs5.out]; omega), hbb.block _ (by rw [Hs5.out]; omega), hbb.block _ (by rw [Hs5.out]; omega), hbb.mono (by rw [Hs5.out]; omega)⟩)
    (fun X Y hab => drawn_keeps _ hab)
    (fun h1 h2 => ⟨h2.1.trans h1.1, h2.2.1.trans h1.2.1, h2.2.2.1.trans h1.2.2.1, h2.2.2.2.1.trans h1.2.2.2.1, h1.2.2.2.2.trans h2.2.2.2.2⟩)
    (fun W l o o' hl hlo ho => ⟨World.putObj_heap_other (by rw [Hs5.out] at hl; omega), World.putObj_heap_other (by rw [Hs5.out] at hl; omega), World.putObj_heap_other (by rw [Hs5.out] at hl; omega), World.putObj_heap_other (by rw [Hs5.out] at hl; omega), (Below.refl w.heap.size W).grown (grownBy_putObj' W l o') (by have := (Array.getElem?_eq_some_iff.1 hlo).1; rw [Hs5.out] at hl; omega) (fun k e => by cases e; rw [Hs5.out] at hl; omega)⟩)
    (fun k => RgI w A n c i N w1.heap.size (bitD bs) k) (fun cd k W => cd = Code.exit 0 ∧ ∃ z, z < N - i ∧ bitD bs (i + z) = true ∧ RgI w A n c i N w1.heap.size (bitD bs) z W) ?hI ?hIx (fun k X Y h hab => h.drawn hab) (fun cd k X Y h hab => ⟨h.1, h.2.imp fun z hz => ⟨hz.1, hz.2.1, hz.2.2.drawn hab⟩⟩) ⟨HI0.out, fun j hj => absurd hj (Nat.not_lt_zero _), HRS.out, hSlt⟩ ?assign ?body ?done ?stop
  case hI => exact fun s W W' row h hg hr => h.kept hSw hg (fun r e => by have := (hr r e).1; rw [Hs5.out] at this; exact this)
  case hIx => exact fun cd s W W' row h hg hr => ⟨h.1, h.2.imp fun z hz => ⟨hz.1, hz.2.1, hz.2.2.kept hSw hg (fun r e => by have := (hr r e).1; rw [Hs5.out] at this; exact this)⟩⟩
  case assign =>
    intro l k W K hK
    simp only [List.setIfInBounds_toArray, List.set_cons_succ, List.set_cons_zero] at hK ⊢
    gi_wp2
    exact hK
  case body =>
    intro l k W hk hl hI
    have q1 := hI.rd.num.cell
    have f1 := hI.rd.num.frozen
    have HI := Lib.hid hI
    obtain ⟨bv, hbv⟩ : ∃ b, b = bitD bs (i + k) := ⟨_, rfl⟩
    rw [← hbv]
    have HBV := Lib.hid hbv
    simp only [List.setIfInBounds_toArray, List.set_cons_succ, List.set_cons_zero]
    clear hI hbv
    cases bv with
    | true =>
      gi_wp2
      exact ⟨KeepsFrom.refl _ _, rfl, k, hk, HBV.out.symm, HI.out⟩
    | false =>
      have hk9 : k ≤ 1000000 := by omega
      have h1 := HI.out.put hSw HBV.out.symm
      have e2 : (((k + 1 : Nat) : Int)) = (k : Int) + 1 := by omega
      rw [e2] at h1
      have H1 := Lib.hid h1
      clear h1 e2
      gi_wp2
      rw [Hs5.out]
      exact ⟨H1.out.2.1, H1.out.2.2, H1.out.1⟩
  case done =>
    intro D W hD hI hdef
    rw [Hs5.out] at hD
    have hz : zB (bitD bs) N i = N - i := zB_full (N - i) i (by omega) hI.zeros
    have HR : Hid (rgR (bitD bs) N i = (0, 0, 9)) := rg_torn (by omega)
    have q1 := hI.rd.num.cell
    have q2 := hI.row.cell (j := 1) rfl
    obtain ⟨z, hzz⟩ : ∃ z, z = N - i := ⟨_, rfl⟩
    rw [← hzz] at q1
    have HI := Lib.hid hI
    have d1 : decide ((N : Int) - (z : Int) ≤ (i : Int)) = true := decide_eq_true (by omega)
    have hzN : z ≤ 524288 := by omega
    clear hI hz hzz
    go_wp2_with fail
    refine markPost_mark hdef (v := .tuple #[.int .i64 0, .int .i64 0, .int .i64 9]) (fun W => by simp [results, Tryz.results268, go_sem]) rfl ?_
    rw [HR.out]
    exact ⟨rfl, HI.out.rd.pl.2.2.2.2.grown (grownBy_putObj' W D _) HI.out.rd.pl.2.2.2.2.size (fun k e => by cases e; omega)⟩
  case stop =>
    intro D cd k W hD hk hx hdef
    rw [Hs5.out] at hD
    obtain ⟨rfl, z, hz, hbit, hI⟩ := hx
    have hzb : zB (bitD bs) N i = z := zB_run z i (by omega) hI.zeros hbit
    have hnt : ¬ N ≤ i + zB (bitD bs) N i := by omega
    have q1 := hI.rd.num.cell
    have q2 := hI.row.cell (j := 0) rfl
    have q3 := hI.row.cell (j := 1) rfl
    have d1 : decide ((N : Int) - (z : Int) ≤ (i : Int)) = false := decide_eq_false (by omega)
    have HI := Lib.hid hI
    have hzN : z ≤ 524288 := by omega
    have HB9 : Hid (Below w.heap.size w W) := HI.out.rd.pl.2.2.2.2
    clear hI hbit
    by_cases h30 : 30 < z
    · have d2 : decide ((30 : Int) < (z : Int)) = true := decide_eq_true (by omega)
      have d2' : decide (30 < z) = true := decide_eq_true h30
      have HR : Hid (rgR (bitD bs) N i = (0, 0, 2)) := rg_many hnt (by rw [hzb]; exact h30)
      clear hzb hnt h30 hz
      go_wp2_with fail
      refine markPost_mark hdef (v := .tuple #[.int .i64 0, .int .i64 0, .int .i64 2]) (fun W => by simp [results, Tryz.results268, go_sem]) rfl ?_
      rw [HR.out]
      exact ⟨rfl, HB9.out.grown (grownBy_putObj' W D _) HB9.out.size (fun k e => by cases e; omega)⟩
    · have d2 : decide ((30 : Int) < (z : Int)) = false := decide_eq_false (by omega)
      have d2' : decide (30 < z) = false := decide_eq_false h30
      have HR : Hid _ := Lib.hid (rg_read hnt (by rw [hzb]; exact h30))
      rw [hzb] at HR
      have HC := HRD.out (i + z) (z + 1) W (HX.out.below HB9.out) (by omega) (by omega)
      have hvl := valB_lt (bitD bs) (i + z) (z + 1)
      have hpw : 2 ^ (z + 1) ≤ 2 ^ 31 := Nat.pow_le_pow_right (by decide) (by omega)
      have e31 : (2 : Nat) ^ 31 = 2147483648 := by decide
      have hz30 : z ≤ 30 := by omega
      have hDW : D < W.heap.size := (Array.getElem?_eq_some_iff.1 hdef).1
      have hsz5 := HI.out.rd.size
      by_cases hlt : N < i + z + (z + 1)
      · rw [if_pos hlt] at HR
        have HC2 : Hid (rdV (bitD bs) N (i + z) (z + 1) = 0 ∧ rdE N (i + z) (z + 1) = 9) := ⟨if_pos hlt, if_pos hlt⟩
        rw [HC2.out.1, HC2.out.2] at HC
        replace HC := Lib.hid HC
        clear hzb hnt h30 hz hlt hvl hpw e31
        go_wp2_with fail
        refine HC.out.mono ?_
        rintro e w6 ⟨rfl, hb6⟩
        have hdef6 := (hb6.block _ hDW).trans hdef
        have HB6 := Lib.hid (HB9.out.trans (hb6.mono HB9.out.size))
        have hs6 := hb6.size
        clear hb6
        go_wp2_with fail
        refine markPost_mark hdef6 (v := .tuple #[.int .i64 0, .int .i64 0, .int .i64 9]) (fun W => by simp [results, Tryz.results268, go_sem]) rfl ?_
        rw [HR.out]
        exact ⟨rfl, HB6.out.grown (grownBy_putObj' w6 D _) HB6.out.size (fun k e => by cases e; omega)⟩
      · rw [if_neg hlt] at HR
        have HC2 : Hid (rdV (bitD bs) N (i + z) (z + 1) = valB (bitD bs) (i + z) (z + 1) ∧ rdE N (i + z) (z + 1) = 0) := ⟨if_neg hlt, if_neg hlt⟩
        rw [HC2.out.1, HC2.out.2] at HC
        obtain ⟨v, hv⟩ : ∃ v, v = valB (bitD bs) (i + z) (z + 1) := ⟨_, rfl⟩
        rw [← hv] at HC HR hvl
        have hv31 : v < 2147483648 := by omega
        replace HC := Lib.hid HC
        clear hzb hnt h30 hz hlt hvl hpw e31 hv
        go_wp2_with fail
        refine HC.out.mono ?_
        rintro e w6 ⟨rfl, hb6⟩
        have hdef6 := (hb6.block _ hDW).trans hdef
        have HB6 := Lib.hid (HB9.out.trans (hb6.mono HB9.out.size))
        have hs6 := hb6.size
        have q9 : w6.cell? ⟨w1.heap.size + 1, 0, none⟩ = some (.int .i64 (z : Int)) := (hb6.cell (p := ⟨w1.heap.size + 1, 0, none⟩) (by show w1.heap.size + 1 < _; omega)).trans q1
        clear hb6 q1 q2 q3
        go_wp2_with fail
        go_quiet (fail)
        go_wp2_with fail
        refine markPost_mark (w := w6.drewN nq) hdef6 (v := .tuple #[.int .i64 (v : Int), .int .i64 ((i : Int) + 2 * (z : Int) + 1), .int .i64 0]) (fun W => by simp [results, Tryz.results268, go_sem]) rfl ?_
        rw [HR.out]
        exact ⟨by go_num, (HB6.out.trans ((Drawn.drewN w6 nq).below _)).grown (grownBy_putObj' _ D _) (HB6.out.trans ((Drawn.drewN w6 nq).below _)).size (fun k e => by cases e; omega)⟩
end Go.Proofs.YtohadkmaemmfgaaGreatDoor

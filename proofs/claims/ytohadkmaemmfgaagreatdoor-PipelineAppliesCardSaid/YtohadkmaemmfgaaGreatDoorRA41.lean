/- Ug Uv Uy Qa Qb Qc. -/
import Derived.Test.YtohadkmaemmfgaaGreatDoorRA40
import Derived.Test.YtohadkmaemmfgaaGreatDoorRA39
import Derived.Test.YtohadkmaemmfgaaGreatDoorRA24
import Derived.BigQuiet
import Derived.Test.YtohadkmaemmfgaaGreatDoorRA05
import Derived.Deep.RegionHeld3
import Derived.Test.YtohadkmaemmfgaaGreatDoorRA03
set_option maxRecDepth 100000
set_option maxHeartbeats 4000000
namespace Go.Proofs.YtohadkmaemmfgaaGreatDoor
open Go.RowKit Go.Proofs
set_option linter.unusedVariables false
set_option linter.unusedSimpArgs false
attribute [local go_sem] Oper.semAt_some
theorem and_one01 : ∀ (y : Fin 256) (r : Fin 8), bits BinOp.and IntKind.i64 ((y.val : Int) / 2 ^ (7 - r.val)) 1 = ((b01 (y.val.testBit (7 - r.val)) : Nat) : Int) := by decide +kernel
end Go.Proofs.YtohadkmaemmfgaaGreatDoor
namespace Go.Proofs.YtohadkmaemmfgaaGreatDoor
open Go.RowKit Go.Proofs
set_option linter.unusedVariables false
set_option linter.unusedSimpArgs false
attribute [local go_sem] Oper.semAt_some
theorem getL01_any (A : Option Addr) (n c i N : Nat) (bs : List UInt8) (w : World) (hx : Bytes w A n c bs) (hn : n ≤ 65536) (hi : i < 8 * n) :
    Calls Tryz.prog 273 #[.agg #[.slice A n c, .int .i64 (N : Int)], .int .i64 (i : Int)] w fun e w' => e = .returned (.int .i64 ((b01 (bitD bs i) : Nat) : Int)) ∧ Below w.heap.size w w' := by
  obtain ⟨bb, off, rfl, -, hc⟩ := hx.2.2 (by omega)
  have hcap := hx.2.1
  obtain ⟨q, hq⟩ : ∃ q, q = i / 8 := ⟨_, rfl⟩
  obtain ⟨r, hr⟩ : ∃ r, r = i % 8 := ⟨_, rfl⟩
  have hqn : q < n := by omega
  have hr8 : r < 8 := by omega
  obtain ⟨w1, hw1⟩ : ∃ w1, w1 = w.alloc (.cells #[.slice (some ⟨bb, off, none⟩) n c, .int .i64 (N : Int)] 184) := ⟨_, rfl⟩
  have r1 : rowV w1 w.heap.size 184 #[.slice (some ⟨bb, off, none⟩) n c, .int .i64 (N : Int)] := by rw [hw1]; exact rowV.new w _ _
  have hb : Below w.heap.size w w1 := by rw [hw1]; exact balloc (Below.refl _ _) _
  have y0 : w1.cell? ⟨bb, off + q, none⟩ = some (.int .u8 ((bA bs q).toNat : Int)) := (hx.below hb).cell hqn
  have c0 := r1.cell (j := 0) rfl
  have t1 : (i : Int).tdiv 8 = (q : Int) := by rw [Int.tdiv_eq_ediv_of_nonneg (by omega)]; omega
  have t2 : (i : Int).tmod 8 = (r : Int) := by rw [Int.tmod_eq_emod_of_nonneg (by omega)]; omega
  have t3 : (i : Int) / 8 = (q : Int) := by omega
  have t4 : (i : Int) % 8 = (r : Int) := by omega
  have HB : Hid (bitD bs i = (bA bs q).toNat.testBit (7 - r)) := by unfold Hid bitD; rw [hq, hr]
  have hylt := (bA bs q).toNat_lt
  obtain ⟨y, hy⟩ : ∃ y, y = (bA bs q).toNat := ⟨_, rfl⟩
  rw [← hy] at y0 HB hylt
  rw [HB.out]
  rw [hw1] at c0 y0
  have HBB := Lib.hid hb
  have HW := Lib.hid hw1
  clear hc hq hr hy hx hi hw1 hb r1
  go_enter Tryz.func273, Tryz.ntmps273
  go_wp2_with fail
  rw [and_one01 ⟨y, hylt⟩ ⟨r, hr8⟩]
  go_ret
  rw [← HW.out]
  exact ⟨rfl, HBB.out⟩
theorem chkL01_any (A : Option Addr) (n c : Nat) (l : List Bool) (w : World) (hx : Bytes w A n c (pack l)) (hL : l.length ≤ 524288) :
    Calls Tryz.prog 272 #[.agg #[.slice A n c, .int .i64 (l.length : Int)]] w fun e w' => e = .returned (.int .i64 0) ∧ Below w.heap.size w w' := by
  have hn := hx.1
  rw [pack_length] at hn
  have HGL := Lib.hid (fun j (hj : l.length ≤ j) => (bitD_pack l j).trans (gL_hi hj))
  have HGT := Lib.hid (fun j W hW hj => getL01_any A n c j l.length (pack l) W hW (by omega) hj)
  obtain ⟨N, hN⟩ : ∃ N, N = l.length := ⟨_, rfl⟩
  rw [← hN] at hL hn HGL HGT ⊢
  have t1 : ((N : Int) + 7).tdiv 8 = (n : Int) := by rw [Int.tdiv_eq_ediv_of_nonneg (by omega)]; omega
  have t4 : ((N : Int) + 7) / 8 = (n : Int) := by omega
  have d0 : decide ((N : Int) < 0) = false := decide_eq_false (by omega)
  have d1 : decide ((524288 : Int) < (N : Int)) = false := decide_eq_false (by omega)
  have d1' : decide (524288 < N) = false := decide_eq_false (by omega)
  have q0 : ((n : Int) == (n : Int)) = true := beq_self_eq_true _
  obtain ⟨w1, hw1⟩ : ∃ w1, w1 = w.alloc (.cells #[.slice A n c, .int .i64 (N : Int)] 184) := ⟨_, rfl⟩
  have r1 : rowV w1 w.heap.size 184 #[.slice A n c, .int .i64 (N : Int)] := by rw [hw1]; exact rowV.new w _ _
  have hb : Below w.heap.size w w1 := by rw [hw1]; exact balloc (Below.refl _ _) _
  have c0 := r1.cell (j := 0) rfl
  have c1 := r1.cell (j := 1) rfl
  rw [hw1] at c0 c1
  have HB := Lib.hid hb
  have HW := Lib.hid hw1
  have R1 := Lib.hid r1
  have HX := Lib.hid hx
  have hnN : N ≤ 8 * n ∧ n ≤ 65536 := by omega
  clear r1 hb hw1 hN hx hn
  go_enter Tryz.func272, Tryz.ntmps272
  go_wp2_with fail
  rw [← HW.out]
  go_loopw [3] (fun vi wr => ∃ j : Nat, N ≤ j ∧ j ≤ 8 * n ∧ vi = .int .i64 (j : Int) ∧ Hid (Below w1.heap.size w1 wr)) (fun vi _ => 8 * n - (intOf vi).toNat)
  case atStart => exact ⟨N, Nat.le_refl _, hnN.1, rfl, Lib.hid (Below.refl _ _)⟩
  case round =>
    clear c0 c1
    obtain ⟨j, hj1, hj2, rfl, HJ⟩ := hrel
    have hr := R1.out.below HJ.out R1.out.lt
    have c0 := hr.cell (j := 0) rfl
    have c1 := hr.cell (j := 1) rfl
    by_cases hlt : j < 8 * n
    · have d2 : decide ((j : Int) < 8 * (n : Int)) = true := decide_eq_true (by omega)
      have d2' : decide (j < 8 * n) = true := decide_eq_true hlt
      have HG := HGT.out j wr (HX.out.below (HB.out.trans (HJ.out.mono HB.out.size))) hlt
      rw [HGL.out j hj1] at HG
      replace HG := Lib.hid HG
      clear hr
      go_wp2_with fail
      refine HG.out.mono ?_
      rintro e w2 ⟨rfl, hb2⟩
      have HB2 := Lib.hid (HJ.out.trans (hb2.mono HJ.out.size))
      clear hb2
      go_wp2_with fail
      go_roundw
      case rel => exact ⟨j + 1, by omega, by omega, by go_num, HB2⟩
      case measure => (simp [intOf]) <;> omega
    · have d2 : decide ((j : Int) < 8 * (n : Int)) = false := decide_eq_false (by omega)
      have d2' : decide (j < 8 * n) = false := decide_eq_false hlt
      clear hr
      go_wp2_with fail
      go_ret
      exact ⟨rfl, HB.out.trans (HJ.out.mono HB.out.size)⟩
structure StQ (B : Nat) (W : World) (g : Nat) (xs : List UInt8) (L : Nat) (A : Option Addr) (m c : Nat) : Prop where
  row : rowV W g 184 #[.slice A m c, .int .i64 (L : Int)]
  own : Own encB W B 5 A m c xs
  ge : B ≤ g
  siz : B ≤ W.heap.size
section
variable {B g L m c : Nat} {W W6 : World} {xs : List UInt8} {A : Option Addr}
theorem StQ.drew (h : StQ B W g xs L A m c) (q : Nat) : StQ B (W.drewN q) g xs L A m c := ⟨h.row, h.own, h.ge, h.siz⟩
theorem StQ.ne (h : StQ B W g xs L A m c) {j : Nat} (hj : ∃ cur, W.heap[j]? = some (.cells cur 5 (0, 0))) : g ≠ j := fun e => by
  obtain ⟨cur, hc⟩ := hj
  subst e
  have hr : W.heap[g]? = _ := h.row
  rw [hr] at hc
  injection hc with hc
  injection hc with _ hc
  exact absurd hc (by decide)
theorem StQ.app (h : StQ B W g xs L A m c) {A6 : Option Addr} {m6 c6 : Nat} {ys : List UInt8} (ho : Own encB W6 B 5 A6 m6 c6 ys) (hg : W.grownBy W6 (Value.slice A m c).ownBlock) :
    (W6.cell? ⟨g, 0, none⟩ = some (.slice A m c) ∧ W6.frozen? ⟨g, 0, none⟩ = false) ∧ StQ B (W6.setCell ⟨g, 0, none⟩ (.slice A6 m6 c6)) g ys L A6 m6 c6 ∧ SKeep B g W (W6.setCell ⟨g, 0, none⟩ (.slice A6 m6 c6)) := by
  have hne : some g ≠ (Value.slice A m c).ownBlock := fun e => h.ne (blk_type h.own e.symm).2 rfl
  have hr6 : rowV W6 g 184 #[.slice A m c, .int .i64 (L : Int)] := (hg.block g h.row.lt hne).trans h.row
  have hbel : Below B W W6 := (Below.refl B W).grown hg h.siz (fun r e => (blk_type h.own e).1)
  refine ⟨⟨hr6.cell rfl, hr6.frozen 0⟩, ⟨hr6.set 0 _, own_keepT ho fun j cur hB hj => (Below.heap_setCell W6 ⟨g, 0, none⟩ _ j (fun e => ?_)).trans hj, h.ge, by have := hbel.size; simpa [World.setCell] using Nat.le_trans h.siz this⟩, Below.setCell (p := ⟨g, 0, none⟩) hbel h.ge _, fun j o hj hn hno => ?_⟩
  · have e' : j = g := e
    rw [e'] at hj
    have hr : W6.heap[g]? = _ := hr6
    rw [hr] at hj
    injection hj with hj
    injection hj with _ hj
    exact absurd hj (by decide)
  · refine (Below.heap_setCell W6 ⟨g, 0, none⟩ _ j hn).trans ((hg.block j (Array.getElem?_eq_some_iff.1 hj).1 (fun e => ?_)).trans hj)
    obtain ⟨cur, hc⟩ := (blk_type h.own e.symm).2
    rw [hj] at hc
    injection hc with hc
    exact hno cur hc
theorem StQ.byte (h : StQ B W g xs L A m c) {q : Nat} (hq : q < m) (y : UInt8) : ∃ ga, A = some ⟨ga, 0, none⟩ ∧ W.cell? ⟨ga, q, none⟩ = some (.int .u8 ((bA xs q).toNat : Int)) ∧ W.frozen? ⟨ga, q, none⟩ = false ∧ StQ B (W.setCell ⟨ga, q, none⟩ (.int .u8 (y.toNat : Int))) g (xs.set q y) L A m c ∧ SKeep B g W (W.setCell ⟨ga, q, none⟩ (.int .u8 (y.toNat : Int))) := by
  obtain ⟨ga, e1, e2, e3, e4, e5, e6⟩ := own_set h.own hq
  have hne := h.ne e3
  refine ⟨ga, e1, e4, e5, ⟨(Below.heap_setCell W ⟨ga, q, none⟩ _ g hne).trans h.row, e6 y, h.ge, by simpa [World.setCell] using h.siz⟩, Below.setCell (p := ⟨ga, q, none⟩) (Below.refl _ _) e2 _, fun j o hj hn hno => ?_⟩
  refine (Below.heap_setCell W ⟨ga, q, none⟩ _ j (fun e => ?_)).trans hj
  have e' : j = ga := e
  obtain ⟨cur, hc⟩ := e3
  rw [← e', hj] at hc
  injection hc with hc
  exact hno cur hc
theorem StQ.cnt (h : StQ B W g xs L A m c) (L' : Nat) : (W.cell? ⟨g, 1, none⟩ = some (.int .i64 (L : Int)) ∧ W.frozen? ⟨g, 1, none⟩ = false) ∧ StQ B (W.setCell ⟨g, 1, none⟩ (.int .i64 (L' : Int))) g xs L' A m c ∧ SKeep B g W (W.setCell ⟨g, 1, none⟩ (.int .i64 (L' : Int))) := by
  refine ⟨⟨h.row.cell rfl, h.row.frozen 1⟩, ⟨h.row.set 1 _, own_keepT h.own fun j cur hB hj => (Below.heap_setCell W ⟨g, 1, none⟩ _ j (fun e => h.ne ⟨cur, hj⟩ (show g = j from e.symm))).trans hj, h.ge, by simpa [World.setCell] using h.siz⟩, Below.setCell (p := ⟨g, 1, none⟩) (Below.refl _ _) h.ge _, fun j o hj hn hno => (Below.heap_setCell W ⟨g, 1, none⟩ _ j hn).trans hj⟩
end
def KeepU (w w' : World) : Prop := ∀ (j : Nat) (o : Obj), w.heap[j]? = some o → (∀ cur, o ≠ .cells cur 5 (0, 0)) → w'.heap[j]? = some o
theorem KeepU.trans {a b d : World} (h : KeepU a b) (k : KeepU b d) : KeepU a d := fun j o hj ho => k j o (h j o hj ho) ho
theorem KeepU.row {w w' : World} (h : KeepU w w') {g : Nat} {t : TypeId} {cs : Array Value} (hr : rowV w g t cs) (ht : t ≠ 5) : rowV w' g t cs := h g _ hr fun cur e => by
  injection e with _ e
  exact ht e
theorem fld_split {n k : Nat} (h : n < 2 ^ (k + 1)) : fldB 0 k ++ fldB n (k + 1) = fldB n (2 * k + 1) := by
  refine List.ext_getElem (by simp [fldB]; omega) fun i h1 h2 => ?_
  rw [List.getElem_append]
  split
  · rename_i h3
    rw [fldB_length] at h3
    simp only [fldB, List.getElem_map, List.getElem_range, Nat.zero_testBit]
    rw [Nat.testBit_lt_two_pow (Nat.lt_of_lt_of_le h (Nat.pow_le_pow_right (by decide) (by omega)))]
  · rename_i h3
    rw [fldB_length] at h3
    simp only [fldB, List.getElem_map, List.getElem_range]
    rw [List.length_map, List.length_range]
    congr 1; omega
structure BxI (w : World) (A : Option Addr) (m c L : Nat) (W : World) : Prop where
  box : rowV W w.heap.size 184 #[.slice A m c, .int .i64 (L : Int)]
  res : rowV W (w.heap.size + 1) 184 #[.slice none 0 0, .int .i64 0]
  below : Below w.heap.size w W
section
variable {w W W' : World} {A : Option Addr} {m c L : Nat}
theorem BxI.start (w : World) (A : Option Addr) (m c L : Nat) : BxI w A m c L ((w.alloc (.cells #[.slice A m c, .int .i64 (L : Int)] 184)).alloc (.cells #[.slice none 0 0, .int .i64 0] 184)) := by
  have h1 : rowV (w.alloc (.cells #[.slice A m c, .int .i64 (L : Int)] 184)) w.heap.size 184 #[.slice A m c, .int .i64 (L : Int)] := rowV.new w _ _
  have h2 := rowV.new (w.alloc (.cells #[.slice A m c, .int .i64 (L : Int)] 184)) 184 #[.slice none 0 0, .int .i64 0]
  rw [World.size_alloc] at h2
  have hb1 : Below w.heap.size w (w.alloc (.cells #[.slice A m c, .int .i64 (L : Int)] 184)) := balloc (Below.refl _ _) _
  have hb2 := balloc (Below.refl _ (w.alloc (.cells #[.slice A m c, .int .i64 (L : Int)] 184))) (.cells #[.slice none 0 0, .int .i64 0] 184)
  exact ⟨h1.below hb2 h1.lt, h2, hb1.trans (hb2.mono hb1.size)⟩
theorem BxI.call (h : BxI w A m c L W) (hb : Below W.heap.size W W') : BxI w A m c L W' := ⟨h.box.below hb h.box.lt, h.res.below hb h.res.lt, h.below.trans (hb.mono h.below.size)⟩
theorem BxI.lay (h : BxI w A m c L W) (x y : Value) :
    rowV ((W.setCell ⟨w.heap.size + 1, 0, none⟩ x).setCell ⟨w.heap.size + 1, 1, none⟩ y) (w.heap.size + 1) 184 #[x, y] ∧ Below w.heap.size w ((W.setCell ⟨w.heap.size + 1, 0, none⟩ x).setCell ⟨w.heap.size + 1, 1, none⟩ y) :=
  ⟨(h.res.set 0 x).set 1 y, (h.below.setCell (p := ⟨w.heap.size + 1, 0, none⟩) (Nat.le_succ _) x).setCell (p := ⟨w.heap.size + 1, 1, none⟩) (Nat.le_succ _) y⟩
theorem BxI.cells (h : BxI w A m c L W) : (W.cell? ⟨w.heap.size, 0, none⟩ = some (.slice A m c) ∧ W.cell? ⟨w.heap.size, 1, none⟩ = some (.int .i64 (L : Int))) ∧ (W.cell? ⟨w.heap.size + 1, 0, none⟩ = some (.slice none 0 0) ∧ W.cell? ⟨w.heap.size + 1, 1, none⟩ = some (.int .i64 0)) ∧ W.frozen? ⟨w.heap.size + 1, 0, none⟩ = false ∧ W.frozen? ⟨w.heap.size + 1, 1, none⟩ = false :=
  ⟨⟨h.box.cell rfl, h.box.cell rfl⟩, ⟨h.res.cell rfl, h.res.cell rfl⟩, h.res.frozen 0, h.res.frozen 1⟩
theorem BxI.drewN (h : BxI w A m c L W) (q : Nat) : BxI w A m c L (W.drewN q) := ⟨h.box, h.res, bdrew h.below q⟩
theorem BxI.own {B n' c' : Nat} {A' : Option Addr} {xs : List UInt8} (ho : Own encB W B 5 A' n' c' xs) (h : BxI w A m c L W) (x y : Value) : Own encB ((W.setCell ⟨w.heap.size + 1, 0, none⟩ x).setCell ⟨w.heap.size + 1, 1, none⟩ y) B 5 A' n' c' xs :=
  own_keepT ho fun j cur _ hj => by
    have hne : j ≠ w.heap.size + 1 := fun e => by
      subst e
      have hr : W.heap[w.heap.size + 1]? = _ := h.res
      rw [hr] at hj
      injection hj with hj
      injection hj with _ hj
      exact absurd hj (by decide)
    exact (Below.heap_setCell _ ⟨w.heap.size + 1, 1, none⟩ _ j hne).trans ((Below.heap_setCell _ ⟨w.heap.size + 1, 0, none⟩ _ j hne).trans hj)
end
theorem newB_add (l : List Bool) (b : Bool) : IntKind.u8.wrap (((bA (padL l) (l.length / 8)).toNat : Int) + ((b01 b * 2 ^ (7 - l.length % 8) : Nat) : Int)) = (((UInt8.ofNat (newB l b)).toNat : Nat) : Int) := by
  have h1 := pkB_lt (gL l) (l.length / 8)
  have h2 := newB_lt l b
  rw [padL_at, UInt8.toNat_ofNat', Nat.mod_eq_of_lt h1, UInt8.toNat_ofNat', Nat.mod_eq_of_lt h2, show ((pkB (gL l) (l.length / 8) : Nat) : Int) + ((b01 b * 2 ^ (7 - l.length % 8) : Nat) : Int) = ((newB l b : Nat) : Int) by unfold newB; push_cast; rfl, wrap8 h2, UInt8.toNat_ofNat', Nat.mod_eq_of_lt h2]
end Go.Proofs.YtohadkmaemmfgaaGreatDoor
namespace Go.Proofs.YtohadkmaemmfgaaGreatDoor
open Go.RowKit Go.Proofs
set_option linter.unusedVariables false
set_option linter.unusedSimpArgs false
attribute [local go_sem] Oper.semAt_some
theorem i64n (n : Nat) (h : n ≤ 1000000000) : IntKind.i64.wrap (n : Int) = (n : Int) := by rw [IntKind.wrap_i64]; omega
theorem add01_any (B : Nat) (A : Option Addr) (m c : Nat) (k : List Bool) (b : Bool) (w : World) (hown : Own encB w B 5 A m c (pack k)) (hB : B ≤ w.heap.size) (hkl : k.length ≤ 10000000) :
    Calls Tryz.prog 277 #[.agg #[.slice A m c, .int .i64 (k.length : Int)], .int .i64 ((b01 b : Nat) : Int)] w fun e w' => ∃ A2 m2 c2, e = .returned (.agg #[.slice A2 m2 c2, .int .i64 (((k ++ [b]).length : Nat) : Int)]) ∧ Own encB w' B 5 A2 m2 c2 (pack (k ++ [b])) ∧ Below B w w' ∧ KeepU w w' := by
  obtain ⟨w1, hw1⟩ : ∃ w1, w1 = (w.alloc (.cells #[.slice A m c, .int .i64 (k.length : Int)] 184)).alloc (.cells #[.slice none 0 0, .int .i64 0] 184) := ⟨_, rfl⟩
  have hI : BxI w A m c k.length w1 := by rw [hw1]; exact BxI.start w A m c k.length
  obtain ⟨g, hg⟩ : ∃ g, g = w.heap.size := ⟨_, rfl⟩
  have hst : StQ B w1 g (pack k) k.length A m c := ⟨by rw [hg]; exact hI.box, hown.below hI.below, by omega, Nat.le_trans hB hI.below.size⟩
  have hres : rowV w1 (g + 1) 184 #[.slice none 0 0, .int .i64 0] := by rw [hg]; exact hI.res
  have HK1 : Hid (Below B w w1 ∧ ∀ j o, w.heap[j]? = some o → j ≠ g ∧ j ≠ g + 1 ∧ w1.heap[j]? = some o) := ⟨hI.below.mono hB, fun j o ho => by
    have hj := (Array.getElem?_eq_some_iff.1 ho).1
    exact ⟨by omega, by omega, (hI.below.block j hj).trans ho⟩⟩
  have hml : (pack k).length = m := hst.own.length
  rw [pack_length] at hml
  obtain ⟨L, hL⟩ : ∃ L, L = k.length := ⟨_, rfl⟩
  obtain ⟨q, hq⟩ : ∃ q, q = L / 8 := ⟨_, rfl⟩
  obtain ⟨r, hr⟩ : ∃ r, r = L % 8 := ⟨_, rfl⟩
  obtain ⟨s, hs⟩ : ∃ s, s = 7 - r := ⟨_, rfl⟩
  have HPK : Hid ((r = 0 → padL k = pack k ++ [0]) ∧ (¬ r = 0 → padL k = pack k)) := ⟨fun h => by unfold padL; rw [← hL, ← hr, if_pos h], fun h => by unfold padL; rw [← hL, ← hr, if_neg h]⟩
  have hr8 : r < 8 := by omega
  have wa : wrap64 (q : Int) = (q : Int) := w64n q (by omega)
  have wb : wrap64 (r : Int) = (r : Int) := w64n r (by omega)
  have wc : wrap64 (s : Int) = (s : Int) := w64n s (by rw [hs]; exact Nat.le_trans (Nat.sub_le 7 r) (by decide))
  have t3 : (7 : Int) - (r : Int) = (s : Int) := by rw [hs, Int.ofNat_sub (Nat.le_of_lt_succ hr8)]; rfl
  have hqm : L / 8 = q ∧ L % 8 = r ∧ q ≤ 10000000 := ⟨hq.symm, hr.symm, by rw [hq]; exact Nat.le_trans (Nat.div_le_self L 8) (by rw [hL]; exact hkl)⟩
  have t1 : (L : Int).tdiv 8 = (q : Int) := by rw [Int.tdiv_eq_ediv_of_nonneg (Int.natCast_nonneg _), ← hqm.1]; rfl
  have t2 : (L : Int).tmod 8 = (r : Int) := by rw [Int.tmod_eq_emod_of_nonneg (Int.natCast_nonneg _), ← hqm.2.1]; rfl
  have t4 : (L : Int) % 8 = (r : Int) := by rw [← hqm.2.1]; rfl
  have t5 : (L : Int) / 8 = (q : Int) := by rw [← hqm.1]; rfl
  have hadd := newB_add k b
  have hpm := pack_more k b
  obtain ⟨bv, hbv⟩ : ∃ bv, bv = b01 b := ⟨_, rfl⟩
  have hbv1 : bv ≤ 1 := by rw [hbv]; exact b01_le _
  have we : wrap64 (bv : Int) = (bv : Int) := w64n bv (Nat.le_trans hbv1 (by decide))
  have HNL : Hid ((((k ++ [b]).length : Nat) : Int) = (L : Int) + 1) := by show _ = _; rw [List.length_append, List.length_singleton, ← hL]; omega
  rw [HNL.out]
  rw [← hbv, ← hL, ← hr, ← hq, ← hs] at hadd
  rw [← hL, ← hq] at hpm
  rw [← hL] at hst hml hw1 ⊢
  rw [← hbv]
  obtain ⟨x, hx⟩ : ∃ x, x = bA (padL k) q := ⟨_, rfl⟩
  obtain ⟨y, hy⟩ : ∃ y, y = UInt8.ofNat (newB k b) := ⟨_, rfl⟩
  rw [← hx, ← hy] at hadd
  rw [← hy] at hpm
  obtain ⟨z, hz5, epw, hwz, wz, hadz⟩ : ∃ z : Nat, z ≤ 255 ∧ (bv : Int) * 2 ^ s = (z : Int) ∧ IntKind.u8.wrap (z : Int) = (z : Int) ∧ wrap64 (z : Int) = (z : Int) ∧ IntKind.u8.wrap ((x.toNat : Int) + (z : Int)) = ((y.toNat : Nat) : Int) := by
    have hpow : bv * 2 ^ s < 256 := by
      have : (2 : Nat) ^ s ≤ 2 ^ 7 := Nat.pow_le_pow_right (by decide) (by rw [hs]; exact Nat.sub_le 7 r)
      rcases Nat.le_one_iff_eq_zero_or_eq_one.1 hbv1 with e | e
      · rw [e, Nat.zero_mul]; decide
      · rw [e, Nat.one_mul]; exact Nat.lt_of_le_of_lt this (by decide)
    exact ⟨bv * 2 ^ s, Nat.le_of_lt_succ hpow, by push_cast; rfl, by rw [wrap8 hpow, UInt8.toNat_ofNat', Nat.mod_eq_of_lt hpow], w64n _ (Nat.le_trans (Nat.le_of_lt hpow) (by decide)), hadd⟩
  clear hadd
  have PW2 : Hid (IntKind.i64.wrap ((bv : Int) * 2 ^ s) = (z : Int) ∧ IntKind.i64.wrap (7 - (r : Int)) = (s : Int) ∧ IntKind.i64.wrap (z : Int) = (z : Int) ∧ IntKind.i64.wrap (s : Int) = (s : Int)) := ⟨by rw [epw]; exact i64n z (Nat.le_trans hz5 (by decide)), by rw [t3]; exact i64n s (by rw [hs]; exact Nat.le_trans (Nat.sub_le 7 r) (by decide)), i64n z (Nat.le_trans hz5 (by decide)), i64n s (by rw [hs]; exact Nat.le_trans (Nat.sub_le 7 r) (by decide))⟩
  have HPM := Lib.hid hpm
  have HQB : Hid (q ≤ 10000000) := hqm.2.2
  have M1 : Hid (m + 1 ≤ maxLen ∧ (m + 1) * 1 ≤ 140737488355328) := mq2 hml (by rw [hL]; exact hkl)
  have MQ0 : Hid (r = 0 → m + 1 = q + 1) := mq0 hml hq hr
  have MQ1 : Hid (¬ r = 0 → m = q + 1) := mq1 hml hq hr
  have PW : Hid (((wrap64 (q : Int) = (q : Int) ∧ wrap64 (r : Int) = (r : Int) ∧ wrap64 (s : Int) = (s : Int)) ∧ (wrap64 (z : Int) = (z : Int) ∧ wrap64 (bv : Int) = (bv : Int)) ∧ (7 : Int) - (r : Int) = (s : Int) ∧ (L : Int).tdiv 8 = (q : Int) ∧ (L : Int) / 8 = (q : Int)) ∧ (bv : Int) * 2 ^ s = (z : Int) ∧ IntKind.u8.wrap (z : Int) = (z : Int) ∧ IntKind.u8.wrap ((x.toNat : Int) + (z : Int)) = ((y.toNat : Nat) : Int)) := ⟨⟨⟨wa, wb, wc⟩, ⟨wz, we⟩, t3, t1, t5⟩, epw, hwz, hadz⟩
  have BND : Hid (q ≤ 10000000 ∧ r ≤ 7 ∧ s ≤ 7 ∧ z ≤ 255 ∧ bv ≤ 1 ∧ L ≤ 10000000) := ⟨hqm.2.2, Nat.le_of_lt_succ hr8, by rw [hs]; exact Nat.sub_le 7 r, hz5, hbv1, by rw [hL]; exact hkl⟩
  have HW1 := Lib.hid hw1
  have HX := Lib.hid hx
  have HL := Lib.hid hL
  have HG := Lib.hid hg
  have HRES := Lib.hid hres
  have HSTR := Lib.hid hst
  clear epw hadz hwz wz we
  have TAIL : Hid (∀ (W7 : World) (A7 : Option Addr) (m7 c7 : Nat), StQ B W7 g (padL k) L A7 m7 c7 → rowV W7 (g + 1) 184 #[.slice none 0 0, .int .i64 0] → SKeep B g w1 W7 → m7 = q + 1 → ∃ ga, A7 = some ⟨ga, 0, none⟩ ∧ ∀ nq,
      ((W7.drewN nq).frozen? ⟨ga, q, none⟩ = false ∧ (W7.drewN nq).cell? ⟨ga, q, none⟩ = some (.int .u8 (x.toNat : Int))) ∧
      (((W7.drewN nq).setCell ⟨ga, q, none⟩ (.int .u8 (y.toNat : Int))).cell? ⟨g, 1, none⟩ = some (.int .i64 (L : Int)) ∧ ((W7.drewN nq).setCell ⟨ga, q, none⟩ (.int .u8 (y.toNat : Int))).frozen? ⟨g, 1, none⟩ = false) ∧
      ∃ Z, Z = ((W7.drewN nq).setCell ⟨ga, q, none⟩ (.int .u8 (y.toNat : Int))).setCell ⟨g, 1, none⟩ (.int .i64 ((L : Int) + 1)) ∧
        (Z.cell? ⟨g, 0, none⟩ = some (.slice A7 m7 c7) ∧ Z.cell? ⟨g, 1, none⟩ = some (.int .i64 ((L : Int) + 1)) ∧ Z.cell? ⟨g + 1, 0, none⟩ = some (.slice none 0 0) ∧ Z.cell? ⟨g + 1, 1, none⟩ = some (.int .i64 0) ∧ Z.frozen? ⟨g + 1, 0, none⟩ = false ∧ Z.frozen? ⟨g + 1, 1, none⟩ = false) ∧
        rowV ((Z.setCell ⟨g + 1, 0, none⟩ (.slice A7 m7 c7)).setCell ⟨g + 1, 1, none⟩ (.int .i64 ((L : Int) + 1))) (g + 1) 184 #[.slice A7 m7 c7, .int .i64 ((L : Int) + 1)] ∧
        Own encB ((Z.setCell ⟨g + 1, 0, none⟩ (.slice A7 m7 c7)).setCell ⟨g + 1, 1, none⟩ (.int .i64 ((L : Int) + 1))) B 5 A7 m7 c7 (pack (k ++ [b])) ∧
        Below B w ((Z.setCell ⟨g + 1, 0, none⟩ (.slice A7 m7 c7)).setCell ⟨g + 1, 1, none⟩ (.int .i64 ((L : Int) + 1))) ∧
        KeepU w ((Z.setCell ⟨g + 1, 0, none⟩ (.slice A7 m7 c7)).setCell ⟨g + 1, 1, none⟩ (.int .i64 ((L : Int) + 1)))) := fun W7 A7 m7 c7 hst7 hr7 hk7 hm7 => by
    obtain ⟨ga, hA7, -, -, -, -⟩ := hst7.byte (q := q) (by rw [hm7]; exact Nat.lt_succ_self q) y
    refine ⟨ga, hA7, fun nq => ?_⟩
    obtain ⟨ga', e7, v1, v2, v3, v4⟩ := (hst7.drew nq).byte (q := q) (by rw [hm7]; exact Nat.lt_succ_self q) y
    rw [hA7] at e7
    injection e7 with e7
    injection e7 with e7 _ _
    subst e7
    obtain ⟨v5, v6, v7⟩ := v3.cnt (L + 1)
    rw [HPM.out] at v6
    rw [show ((L + 1 : Nat) : Int) = (L : Int) + 1 from rfl] at v6 v7
    rw [← HX.out] at v1
    refine ⟨⟨v2, v1⟩, v5, _, rfl, ?_⟩
    have hkk := (hk7.trans (SKeep.drew B g W7 nq)).trans (v4.trans v7)
    have hr9 : rowV ((((W7.drewN nq).setCell ⟨ga, q, none⟩ (.int .u8 (y.toNat : Int))).setCell ⟨g, 1, none⟩ (.int .i64 ((L : Int) + 1)))) (g + 1) 184 #[.slice none 0 0, .int .i64 0] :=
      ((SKeep.drew B g W7 nq).trans (v4.trans v7)).same _ _ hr7 (Nat.succ_ne_self g) (fun cur e => by injection e with _ e; exact absurd e (by decide))
    generalize ((W7.drewN nq).setCell ⟨ga, q, none⟩ (.int .u8 (y.toNat : Int))).setCell ⟨g, 1, none⟩ (.int .i64 ((L : Int) + 1)) = Z at v6 hkk hr9 ⊢
    have hbig : (((L + 1 : Nat)) : Int) = (L : Int) + 1 := rfl
    have hrowZ := v6.row
    rw [hbig] at hrowZ
    have hge : B ≤ g + 1 := Nat.le_succ_of_le v6.ge
    refine ⟨⟨hrowZ.cell rfl, hrowZ.cell rfl, hr9.cell rfl, hr9.cell rfl, hr9.frozen 0, hr9.frozen 1⟩, (hr9.set 0 _).set 1 _, ?_, ?_, fun j o ho hno => ?_⟩
    · refine own_keepT v6.own fun j cur _ hj => ?_
      have hne : j ≠ g + 1 := fun e => by
        subst e
        have hr : Z.heap[g + 1]? = _ := hr9
        rw [hr] at hj
        injection hj with hj
        injection hj with _ hj
        exact absurd hj (by decide)
      exact (Below.heap_setCell _ ⟨g + 1, 1, none⟩ _ j hne).trans ((Below.heap_setCell _ ⟨g + 1, 0, none⟩ _ j hne).trans hj)
    · exact Below.setCell (p := ⟨g + 1, 1, none⟩) (Below.setCell (p := ⟨g + 1, 0, none⟩) (HK1.out.1.trans hkk.below) hge _) hge _
    · obtain ⟨h1, h2, h3⟩ := HK1.out.2 j o ho
      exact (Below.heap_setCell _ ⟨g + 1, 1, none⟩ _ j h2).trans ((Below.heap_setCell _ ⟨g + 1, 0, none⟩ _ j h2).trans (hkk.same j o h3 h1 hno))
  have HSZ : Hid (w.heap.size + 1 + 1 = w1.heap.size) := by show _ = _; rw [hw1, World.size_alloc, World.size_alloc]
  clear hs wa wb wc t3 t1 t5 hbv1 hqm hml hq hr hpm hown hkl hI hx hL hy hbv hres
  have hst0 := hst.row.cell (j := 0) rfl
  have hst1 := hst.row.cell (j := 1) rfl
  rw [hw1] at hst0 hst1
  subst hg
  clear hw1 hst
  by_cases h8 : r = 0
  · have q0 : ((r : Int) == 0) = true := by simp [h8]
    have HPAD : Hid (padL k = pack k ++ [0]) := HPK.out.1 h8
    have HMQ : Hid (m + 1 = q + 1) := MQ0.out h8
    clear h8
    go_enter Tryz.func277, Tryz.ntmps277
    go_wp2_with (at_builtin; rw [← HW1.out]; refine wpList_pushk (enc := encB) rfl (.tmp 10) (.tmp 11) rfl uB infoB encB_one rfl rfl HSTR.out.own HSTR.out.siz 0 _ rfl (congrArg (fun b => Value.slice (some ⟨b, 0, none⟩) 1 1) HSZ.out) M1.out.1 M1.out.2 ?_; intro A6 c6 W6 ho6 hk6; obtain ⟨⟨x0, x1⟩, hst6, hsk6⟩ := HSTR.out.app ho6 hk6)
    obtain ⟨W7, hW7⟩ : ∃ W7, W7 = W6.setCell ⟨w.heap.size, 0, none⟩ (.slice A6 (m + 1) c6) := ⟨_, rfl⟩
    rw [← hW7] at hst6 hsk6 ⊢
    obtain ⟨m7, hm7⟩ : ∃ m7, m7 = m + 1 := ⟨_, rfl⟩
    rw [← HPAD.out, ← hm7] at hst6
    have hmq : m7 = q + 1 := by rw [hm7]; exact HMQ.out
    have hr7 : rowV W7 (w.heap.size + 1) 184 #[.slice none 0 0, .int .i64 0] := hsk6.same _ _ HRES.out (Nat.succ_ne_self _) (fun cur e => by injection e with _ e; exact absurd e (by decide))
    obtain ⟨ga, rfl, hall⟩ := TAIL.out W7 A6 m7 c6 hst6 hr7 hsk6 hmq
    have HALL := Lib.hid hall
    have y0 : W7.cell? ⟨w.heap.size, 0, none⟩ = some (.slice (some ⟨ga, 0, none⟩) m7 c6) := hst6.row.cell rfl
    have y1 : W7.cell? ⟨w.heap.size, 1, none⟩ = some (.int .i64 (L : Int)) := hst6.row.cell rfl
    have dq : decide ((q : Int) < (m7 : Int)) = true := decide_eq_true (by omega)
    have z1 := (hall 0).1.2
    have z1' : W7.cell? ⟨ga, q, none⟩ = some (.int .u8 (x.toNat : Int)) := z1
    have hq1 : q < m7 := by omega
    have hq2 : (q : Int) < (m7 : Int) := by omega
    clear hall z1 hst6 hsk6 hr7 hW7 hm7 hmq ho6 hk6 x0 x1 hst0 hst1 TAIL
    obtain ⟨⟨⟨wa, wb, wc⟩, -, t3, t1, t5⟩, -, -, -⟩ := PW.out
    obtain ⟨b1, b2, b3, -, -, b6⟩ := BND.out
    have i2 := PW2.out.2.1
    have i4 := PW2.out.2.2.2
    refine wp_region_quiet_tail 16 (by kernel_rfl) (by kernel_rfl) ?_
    simp only [List.take_succ_cons, List.take_zero, List.drop_succ_cons, List.drop_zero]
    iterate 12 (go_big_quiet_step (fail))
    clear wa wb wc t3 t1 t5 b1 b2 b6 i2 i4
    obtain ⟨⟨-, ⟨wz, we⟩, -, -, -⟩, epw, hwz, hadd⟩ := PW.out
    obtain ⟨b1, -, -, b4, b5, b6⟩ := BND.out
    have i1 := PW2.out.1
    have i3 := PW2.out.2.2.1
    repeat (go_big_quiet_step (fail))
    refine wpQuiet_nil ?_
    intro _ hw'
    obtain ⟨nr, hw''⟩ := hw'
    subst hw''
    obtain ⟨⟨f1, f2⟩, ⟨f3, f4⟩, Z, hZ, ⟨g1, g2, g3, g4, g5, g6⟩, hF⟩ := HALL.out nr
    have HF := Lib.hid hF
    rw [hZ] at g1 g2 g3 g4 g5 g6
    have HZ := Lib.hid hZ
    clear hF hZ y0 y1 z1' wz we epw hwz i1 i3
    go_wp2_with fail
    rw [← HZ.out]
    exact ret_one rfl rfl HF.out.1 Tryz.underlying184 rfl (by kernel_rfl) ⟨_, _, _, rfl, HF.out.2⟩
  · have q0 : ((r : Int) == 0) = false := by simp [h8]
    have hpad := HPK.out.2 h8
    have HMQ : Hid (m = q + 1) := MQ1.out h8
    have HSTR2 : Hid (StQ B w1 w.heap.size (padL k) L A m c) := by show StQ _ _ _ _ _ _ _ _; rw [hpad]; exact HSTR.out
    clear h8 hpad
    go_enter Tryz.func277, Tryz.ntmps277
    go_wp2_with fail
    rw [← HW1.out]
    obtain ⟨ga, hA, hall⟩ := TAIL.out w1 A m c HSTR2.out HRES.out (SKeep.refl _ _ _) HMQ.out
    subst hA
    have HALL := Lib.hid hall
    have y0 : w1.cell? ⟨w.heap.size, 0, none⟩ = some (.slice (some ⟨ga, 0, none⟩) m c) := HSTR2.out.row.cell rfl
    have y1 : w1.cell? ⟨w.heap.size, 1, none⟩ = some (.int .i64 (L : Int)) := HSTR2.out.row.cell rfl
    have dq : decide ((q : Int) < (m : Int)) = true := decide_eq_true (by have := HMQ.out; omega)
    have z1 := (hall 0).1.2
    have z1' : w1.cell? ⟨ga, q, none⟩ = some (.int .u8 (x.toNat : Int)) := z1
    have hq1 : q < m := by have := HMQ.out; omega
    have hq2 : (q : Int) < (m : Int) := by omega
    clear hall z1 hst0 hst1 TAIL
    obtain ⟨⟨⟨wa, wb, wc⟩, -, t3, t1, t5⟩, -, -, -⟩ := PW.out
    obtain ⟨b1, b2, b3, -, -, b6⟩ := BND.out
    have i2 := PW2.out.2.1
    have i4 := PW2.out.2.2.2
    refine wp_region_quiet_tail 16 (by kernel_rfl) (by kernel_rfl) ?_
    simp only [List.take_succ_cons, List.take_zero, List.drop_succ_cons, List.drop_zero]
    iterate 12 (go_big_quiet_step (fail))
    clear wa wb wc t3 t1 t5 b1 b2 b6 i2 i4
    obtain ⟨⟨-, ⟨wz, we⟩, -, -, -⟩, epw, hwz, hadd⟩ := PW.out
    obtain ⟨b1, -, -, b4, b5, b6⟩ := BND.out
    have i1 := PW2.out.1
    have i3 := PW2.out.2.2.1
    repeat (go_big_quiet_step (fail))
    refine wpQuiet_nil ?_
    intro _ hw'
    obtain ⟨nr, hw''⟩ := hw'
    subst hw''
    obtain ⟨⟨f1, f2⟩, ⟨f3, f4⟩, Z, hZ, ⟨g1, g2, g3, g4, g5, g6⟩, hF⟩ := HALL.out nr
    have HF := Lib.hid hF
    rw [hZ] at g1 g2 g3 g4 g5 g6
    have HZ := Lib.hid hZ
    clear hF hZ y0 y1 z1' wz we epw hwz i1 i3
    go_wp2_with fail
    rw [← HZ.out]
    exact ret_one rfl rfl HF.out.1 Tryz.underlying184 rfl (by kernel_rfl) ⟨_, _, _, rfl, HF.out.2⟩
end Go.Proofs.YtohadkmaemmfgaaGreatDoor
namespace Go.Proofs.YtohadkmaemmfgaaGreatDoor
open Go.RowKit Go.Proofs
set_option linter.unusedVariables false
set_option linter.unusedSimpArgs false
attribute [local go_sem] Oper.semAt_some
theorem own_emptyBR {w : World} {g B : Nat} (h : rowV w g 5 #[]) (hB : B ≤ g) : Own encB w B 5 (some ⟨g, 0, none⟩) 0 0 [] := ⟨rfl, .inr ⟨g, 0, #[], rfl, hB, h, Nat.le_refl _, by decide, rfl, rfl⟩⟩
theorem step_appB {P : Program} {w : World} {B : Nat} {e t : TypeId} {A : Option Addr} {n c : Nat} {xs : List UInt8} {ops : Array Oper} {o : Oper} {a : Act} {K : Act → World → Prop} {Q : Exit → Act → World → Prop} {E : Prop}
    (hgd : o.guard = none) (s x : Operand) (ho : o.op = .call { callee := .builtin .append, args := #[s, x], argTypes := #[t, t] })
    (ht : P.underlying t = some (.slice e)) (hi : (P.info? e).map (fun i => (i.zero, i.size, i.bytes)) = some (some (encB 0), 1, 1))
    (hs : a.eval s = .slice A n c) (hown : Own encB w B e A n c xs) (hB : B ≤ w.heap.size) (A' : Option Addr) (m c' : Nat) (ys : List UInt8) (hm : ys.length = m) (hsrc : Cells w A' m (fun i => encB (ys.getD i 0)))
    (hx : a.eval x = .slice A' m c') (hl : n + m ≤ maxLen) (hby : (n + m) * 1 ≤ 140737488355328)
    (h : ∀ A2 c2 w', Own encB w' B e A2 (n + m) c2 (xs ++ ys) → Below B w w' → w.grownBy w' (Value.slice A n c).ownBlock → K (a.put o.dst (.slice A2 (n + m) c2)) w') :
    if Region.wanted o (yielded ops a.tmps) = true then Oper.wp P o a w K Q else E := by
  rw [if_pos (by simp [Region.wanted, hgd])]
  exact wp_app s x ho ht hi encB_one rfl hs hown hB A' m c' ys 0 hm hsrc hx hl hby h
theorem copy01_any (A : Option Addr) (n c L : Nat) (bs : List UInt8) (w : World) (hx : Bytes w A n c bs) (hn : n ≤ 1000000) :
    Calls Tryz.prog 276 #[.agg #[.slice A n c, .int .i64 (L : Int)]] w fun e w' => ∃ A2 c2, e = .returned (.agg #[.slice A2 n c2, .int .i64 (L : Int)]) ∧ Own encB w' w.heap.size 5 A2 n c2 bs ∧ Below w.heap.size w w' := by
  obtain ⟨w1, hw1⟩ : ∃ w1, w1 = (w.alloc (.cells #[.slice A n c, .int .i64 (L : Int)] 184)).alloc (.cells #[.slice none 0 0, .int .i64 0] 184) := ⟨_, rfl⟩
  have hI : BxI w A n c L w1 := by rw [hw1]; exact BxI.start w A n c L
  have HI := Lib.hid hI
  have HW1 := Lib.hid hw1
  have hx1 := hx.below hI.below
  have HX := Lib.hid hx1
  have m1 : Hid (0 + n ≤ maxLen ∧ (0 + n) * 1 ≤ 140737488355328) := ⟨by simp [maxLen]; omega, by omega⟩
  obtain ⟨⟨x0, x1⟩, -, -, -⟩ := hI.cells
  have HE : Hid (∀ q, Own encB ((w1.drewN q).alloc (.cells #[] 5)) w1.heap.size 5 (some ⟨w1.heap.size, 0, none⟩) 0 0 [] ∧ Below w1.heap.size w1 ((w1.drewN q).alloc (.cells #[] 5))) := fun q => ⟨own_emptyBR (rowV.new (w1.drewN q) _ _) (Nat.le_refl _), balloc (bdrew (Below.refl _ _) q) _⟩
  have HC : Hid (∀ W, Below w1.heap.size w1 W → BxI w A n c L W) := fun W h => hI.call h
  rw [hw1] at x0 x1
  have lt2 : w.heap.size + 1 < w1.heap.size := hI.res.lt
  have lt1 : w.heap.size < w1.heap.size := by omega
  clear hx hx1 hw1 hI
  go_enter Tryz.func276, Tryz.ntmps276
  go_wp2_with fail
  rw [← HW1.out]
  rw [← HW1.out] at x0 x1
  go_region_law (first
    | (refine step_appB rfl (.tmp 3) (.tmp 5) rfl uB infoB rfl (own_emptyBR (B := w1.heap.size) (rowV.new _ _ _) (Nat.le_refl _)) (Below.size (show Below w1.heap.size w1 _ from balloc (bdrew (Below.refl _ _) 1) _)) A n c bs HX.out.1 (HX.out.below (balloc (bdrew (Below.refl _ _) 1) _)).2.2 rfl m1.out.1 m1.out.2 ?_; intro A7 c7 w7 ho7 hb7 hg7; have hb17 : Below w1.heap.size w1 w7 := (show Below w1.heap.size w1 _ from balloc (bdrew (Below.refl _ _) 1) _).trans hb7; have hI7 := HC.out w7 hb17; have H7 := Lib.hid (And.intro hI7 ho7); obtain ⟨⟨u0, u1⟩, ⟨u2, u3⟩, u4, u5⟩ := hI7.cells; clear hI7 ho7 hb7 hg7 hb17))
  all_goals
    have ho := H7.out.2
    rw [Nat.zero_add, List.nil_append] at ho
    have HF := Lib.hid (BxI.own (ho.mono (Nat.le_of_lt lt1)) H7.out.1 (.slice A7 n c7) (.int .i64 (L : Int)))
    have HLY := Lib.hid (H7.out.1.lay (.slice A7 n c7) (.int .i64 (L : Int)))
    clear ho
    go_wp2_with fail
    exact ret_one rfl rfl HLY.out.1 Tryz.underlying184 rfl (by kernel_rfl) ⟨A7, c7, rfl, HF.out, HLY.out.2⟩
end Go.Proofs.YtohadkmaemmfgaaGreatDoor
namespace Go.Proofs.YtohadkmaemmfgaaGreatDoor
open Go.RowKit Go.Proofs
set_option linter.unusedVariables false
set_option linter.unusedSimpArgs false
attribute [local go_sem] Oper.semAt_some
theorem u64n (n : Nat) (h : n ≤ 1000000000) : IntKind.u64.wrap (n : Int) = (n : Int) := by
  simp [IntKind.wrap, IntKind.bits, IntKind.signed]; omega
theorem u32n (n : Nat) (h : n ≤ 1000000000) : IntKind.u32.wrap (n : Int) = (n : Int) := by
  simp [IntKind.wrap, IntKind.bits, IntKind.signed]; omega
def AppP (w : World) (l : List Bool) (e : Ending) (w' : World) : Prop := ∃ A2 m2 c2, e = .returned (.tuple #[.agg #[.slice A2 m2 c2, .int .i64 (l.length : Int)], .int .i64 0]) ∧ Own encB w' w.heap.size 5 A2 m2 c2 (pack l) ∧ Below w.heap.size w w'
theorem append01_any (A : Option Addr) (m c v cnt : Nat) (l : List Bool) (w : World) (hx : Bytes w A m c (pack l)) (hv : v < 2 ^ cnt) (hv6 : v ≤ 1000000) (hc : cnt ≤ 29) (hL : l.length + cnt ≤ 524288) :
    Calls Tryz.prog 239 #[.agg #[.slice A m c, .int .i64 (l.length : Int)], .int .u32 (v : Int), .int .i64 (cnt : Int)] w (AppP w (l ++ fldB v cnt)) := by
  obtain ⟨w1, hw1⟩ : ∃ w1, w1 = (w.alloc (.cells #[.slice A m c, .int .i64 (l.length : Int)] 184)).alloc (.cells #[.slice none 0 0, .int .i64 0] 184) := ⟨_, rfl⟩
  have hI : BxI w A m c l.length w1 := by rw [hw1]; exact BxI.start w A m c l.length
  have hm : m ≤ 65536 := by have := hx.1; rw [pack_length] at this; omega
  have HCK := Lib.hid (chkL01_any A m c l w1 (hx.below hI.below) (by omega))
  have HX := Lib.hid hx
  have HCP := Lib.hid (fun W (hW : Bytes W A m c (pack l)) => copy01_any A m c l.length (pack l) W hW (by omega))
  have HFL : Hid (∀ j, (l ++ fldK v cnt j).length = l.length + j) := fun j => by rw [List.length_append, fldK_length]
  have HF0 : Hid (l ++ fldK v cnt 0 = l ∧ l ++ fldK v cnt cnt = l ++ fldB v cnt) := ⟨by simp [fldK], rfl⟩
  obtain ⟨L, hLe⟩ : ∃ L, L = l.length := ⟨_, rfl⟩
  obtain ⟨P, hP⟩ : ∃ P : Nat, P = 2 ^ cnt := ⟨_, rfl⟩
  have hP30 : P ≤ 536870912 := by rw [hP]; exact Nat.le_trans (Nat.pow_le_pow_right (by decide) hc) (by decide)
  have HPW : Hid ((2 : Int) ^ cnt = (P : Int)) := by show _ = _; rw [hP]; push_cast; rfl
  rw [← hP] at hv
  rw [← hLe] at hI HCK hL HCP HFL hw1 ⊢
  have hLv : v ≤ 536870912 := by omega
  have HLE := Lib.hid hLe
  have HI := Lib.hid hI
  have HW1 := Lib.hid hw1
  have e0 : decide ((cnt : Int) < 0) = false := decide_eq_false (by omega)
  have e1 : decide ((32 : Int) < (cnt : Int)) = false := decide_eq_false (by omega)
  have e1' : decide (32 < cnt) = false := decide_eq_false (by omega)
  have e2 : decide ((P : Int) ≤ (v : Int)) = false := decide_eq_false (by omega)
  have e2' : decide (P ≤ v) = false := decide_eq_false (by omega)
  have e3 : decide ((524288 : Int) < (L : Int) + (cnt : Int)) = false := decide_eq_false (by omega)
  have wP : wrap64 (P : Int) = (P : Int) := w64n P (by omega)
  have uP : IntKind.u64.wrap (P : Int) = (P : Int) := u64n P (Nat.le_trans hP30 (by decide))
  have uv : IntKind.u64.wrap (v : Int) = (v : Int) := u64n v (Nat.le_trans hv6 (by decide))
  have uc : IntKind.u64.wrap (cnt : Int) = (cnt : Int) := u64n cnt (Nat.le_trans hc (by decide))
  obtain ⟨⟨x0, x1⟩, -, -, -⟩ := hI.cells
  rw [hw1] at x0 x1
  clear hx hI hw1 hLe hP
  go_enter Tryz.func239, Tryz.ntmps239
  go_wp2_with fail
  rw [← HW1.out]
  refine HCK.out.mono ?_
  rintro e w2 ⟨rfl, hb2⟩
  have HI2 := Lib.hid (HI.out.call hb2)
  clear hb2 x0 x1
  obtain ⟨⟨x0, x1⟩, -, -, -⟩ := HI2.out.cells
  have hpw := HPW.out
  go_wp2_with fail
  clear hpw
  refine (HCP.out w2 (HX.out.below HI2.out.below)).mono ?_
  rintro e w3 ⟨A3, c3, rfl, ho3, hb3⟩
  obtain ⟨w4, hw4⟩ : ∃ w4, w4 = w3.alloc (.cells #[.slice A3 m c3, .int .i64 (L : Int)] 184) := ⟨_, rfl⟩
  have hb4 : Below w3.heap.size w3 w4 := by rw [hw4]; exact balloc (Below.refl _ _) _
  have HI4 : Hid (BxI w A m c L w4 ∧ ∃ A5 m5 c5, rowV w4 w3.heap.size 184 #[.slice A5 m5 c5, .int .i64 ((L : Int) + ((0 : Nat) : Int))] ∧ Own encB w4 w.heap.size 5 A5 m5 c5 (pack (l ++ fldK v cnt 0))) :=
    ⟨(HI2.out.call hb3).call hb4, A3, m, c3, by rw [hw4]; simpa using rowV.new w3 184 #[.slice A3 m c3, .int .i64 (L : Int)], by rw [HF0.out.1]; exact (ho3.mono HI2.out.below.size).below hb4⟩
  have HG9 : Hid (w.heap.size + 1 < w3.heap.size) := by have h1 := (HI2.out.call hb3).res.lt; exact h1
  have HW4 := Lib.hid hw4
  clear ho3 hb3 hw4 hb4 x0 x1
  go_wp2_with (refine wpList_store_new rfl 184 (.tmp 9) (.tmp 38) rfl _ 184 _ rfl rfl (by kernel_rfl) rfl (by simp [Value.oneCell']) ?_)
  rw [← HW4.out]
  go_wp2_with fail
  go_loopw [10] (fun i wr => ∃ j : Nat, j ≤ cnt ∧ i = .int .i64 ((cnt : Int) - 1 - (j : Int)) ∧ Hid (BxI w A m c L wr ∧ ∃ A5 m5 c5, rowV wr w3.heap.size 184 #[.slice A5 m5 c5, .int .i64 ((L : Int) + (j : Int))] ∧ Own encB wr w.heap.size 5 A5 m5 c5 (pack (l ++ fldK v cnt j)))) (fun i _ => (intOf i + 1).toNat)
  case atStart => exact ⟨0, Nat.zero_le _, by simp, HI4⟩
  case round =>
    obtain ⟨j, hj, rfl, HJ⟩ := hrel
    by_cases hlt : j < cnt
    · obtain ⟨p, hp⟩ : ∃ p, p = cnt - 1 - j := ⟨_, rfl⟩
      have f1 : (cnt : Int) - 1 - (j : Int) = (p : Int) := by omega
      have hnx := fldK_next v cnt j
      rw [← hp] at hnx
      obtain ⟨hIr, A5, m5, c5, hrow, hown⟩ := HJ.out
      have hb := b01_mod v p
      obtain ⟨N, hN⟩ : ∃ N, N = v / 2 ^ p := ⟨_, rfl⟩
      have hNn : N ≤ v := by rw [hN]; exact Nat.div_le_self _ _
      have HSH : Hid ((v : Int) / 2 ^ p = (N : Int)) := by show _ = _; rw [hN]; push_cast; rfl
      rw [← hN] at hb
      clear hN
      have hand := and_one N (Nat.le_trans hNn (Nat.le_trans hv6 (by decide)))
      have HAD := add01_any w.heap.size A5 m5 c5 (l ++ fldK v cnt j) (v.testBit p) wr hown hIr.below.size (by rw [HFL.out]; omega)
      rw [HFL.out, List.append_assoc, ← hnx, HFL.out] at HAD
      rw [show ((L + j : Nat) : Int) = (L : Int) + (j : Int) by omega, show ((L + (j + 1) : Nat) : Int) = (L : Int) + (j : Int) + 1 by omega] at HAD
      replace HAD := Lib.hid HAD
      obtain ⟨bv, hbv⟩ : ∃ bv, bv = b01 (v.testBit p) := ⟨_, rfl⟩
      have hbv1 : bv ≤ 1 := by rw [hbv]; exact b01_le _
      rw [← hbv] at hb
      rw [hb] at hand
      rw [← hbv] at HAD
      have wN : wrap64 (N : Int) = (N : Int) := w64n N (Nat.le_trans hNn (Nat.le_trans hv6 (by decide)))
      have wb : wrap64 (bv : Int) = (bv : Int) := w64n bv (Nat.le_trans hbv1 (by decide))
      have wp : wrap64 (p : Int) = (p : Int) := w64n p (by rw [hp]; exact Nat.le_trans (Nat.le_trans (Nat.sub_le _ _) (Nat.sub_le _ _)) (Nat.le_trans hc (by decide)))
      have hp29 : p ≤ 29 := by rw [hp]; exact Nat.le_trans (Nat.le_trans (Nat.sub_le _ _) (Nat.sub_le _ _)) hc
      have up : IntKind.u64.wrap (p : Int) = (p : Int) := u64n p (Nat.le_trans hp29 (by decide))
      have uN : IntKind.u32.wrap (N : Int) = (N : Int) := u32n N (Nat.le_trans hNn (Nat.le_trans hv6 (by decide)))
      have d0 : decide ((0 : Int) ≤ (p : Int)) = true := decide_eq_true (Int.natCast_nonneg p)
      obtain ⟨y0, y1⟩ := two_cellsV hrow
      have hltN : N ≤ 1000000 := Nat.le_trans hNn hv6
      have HRW := Lib.hid hrow
      have HIR := Lib.hid hIr
      have HJL := Lib.hid (And.intro (And.intro hj hlt) f1)
      rw [f1]
      clear hp hnx hNn hb hbv hrow hown hIr f1 e0 e1 e1' e2 e2' e3 wP uP uv uc hP30 hLv HPW hv HCK HX HCP HF0 HFL HI HW1 HI2 HI4 HW4 hm hv6 hL HJ hlt hj hltN
      have hsh := HSH.out
      go_wp2_with fail
      clear hsh
      refine HAD.out.mono ?_
      rintro e w5 ⟨A6, m6, c6, rfl, ho6, hb6, hk6⟩
      have hr6 : rowV w5 w3.heap.size 184 #[.slice A5 m5 c5, .int .i64 ((L : Int) + (j : Int))] := hk6.row HRW.out (by decide)
      have hI6 : BxI w A m c L w5 := ⟨hk6.row HIR.out.box (by decide), hk6.row HIR.out.res (by decide), HIR.out.below.trans hb6⟩
      obtain ⟨y0', y1'⟩ := two_cellsV hr6
      have f0' := hr6.frozen 0
      have f1' := hr6.frozen 1
      have hne : w3.heap.size ≠ w.heap.size ∧ w3.heap.size ≠ w.heap.size + 1 ∧ w.heap.size ≤ w3.heap.size := by have := HG9.out; omega
      have HN : Hid (BxI w A m c L ((w5.setCell ⟨w3.heap.size, 0, none⟩ (.slice A6 m6 c6)).setCell ⟨w3.heap.size, 1, none⟩ (.int .i64 ((L : Int) + (j : Int) + 1))) ∧ ∃ A5 m5 c5, rowV ((w5.setCell ⟨w3.heap.size, 0, none⟩ (.slice A6 m6 c6)).setCell ⟨w3.heap.size, 1, none⟩ (.int .i64 ((L : Int) + (j : Int) + 1))) w3.heap.size 184 #[.slice A5 m5 c5, .int .i64 ((L : Int) + ((j + 1 : Nat) : Int))] ∧ Own encB ((w5.setCell ⟨w3.heap.size, 0, none⟩ (.slice A6 m6 c6)).setCell ⟨w3.heap.size, 1, none⟩ (.int .i64 ((L : Int) + (j : Int) + 1))) w.heap.size 5 A5 m5 c5 (pack (l ++ fldK v cnt (j + 1)))) := by
        have oth : ∀ q, q ≠ w3.heap.size → ((w5.setCell ⟨w3.heap.size, 0, none⟩ (.slice A6 m6 c6)).setCell ⟨w3.heap.size, 1, none⟩ (.int .i64 ((L : Int) + (j : Int) + 1))).heap[q]? = w5.heap[q]? := fun q hq => (Below.heap_setCell _ ⟨w3.heap.size, 1, none⟩ _ q hq).trans (Below.heap_setCell _ ⟨w3.heap.size, 0, none⟩ _ q hq)
        refine ⟨⟨(oth _ (Ne.symm hne.1)).trans hI6.box, (oth _ (Ne.symm hne.2.1)).trans hI6.res, (hI6.below.setCell (p := ⟨w3.heap.size, 0, none⟩) hne.2.2 _).setCell (p := ⟨w3.heap.size, 1, none⟩) hne.2.2 _⟩, A6, m6, c6, ?_, own_keepT ho6 fun q cur _ hq => (oth q (fun e => ?_)).trans hq⟩
        · rw [show ((j + 1 : Nat) : Int) = (j : Int) + 1 by omega, show (L : Int) + ((j : Int) + 1) = (L : Int) + (j : Int) + 1 by omega]
          exact (hr6.set 0 _).set 1 _
        · subst e
          have h6 : w5.heap[w3.heap.size]? = _ := hr6
          rw [h6] at hq
          injection hq with hq
          injection hq with _ hq
          exact absurd hq (by decide)
      clear hr6 hI6 ho6 hb6 hk6 y0 y1 hne HRW HIR HAD HSH hand wN wb up uN d0 hbv1
      go_wp2_with fail
      go_roundw
      case rel => exact ⟨j + 1, HJL.out.1.2, congrArg (Value.int .i64) (by have := HJL.out.2; omega), HN⟩
      case measure => (simp [intOf]) <;> omega
    · obtain rfl : cnt = j := by omega
      have d0 : decide ((0 : Int) ≤ (cnt : Int) - 1 - (cnt : Int)) = false := decide_eq_false (by omega)
      obtain ⟨hIr, A5, m5, c5, hrow, hown⟩ := HJ.out
      obtain ⟨y0, y1⟩ := two_cellsV hrow
      obtain ⟨-, ⟨z0, z1⟩, z2, z3⟩ := hIr.cells
      have HF := Lib.hid (BxI.own hown hIr (.slice A5 m5 c5) (.int .i64 ((L : Int) + (cnt : Int))))
      have HLY := Lib.hid (hIr.lay (.slice A5 m5 c5) (.int .i64 ((L : Int) + (cnt : Int))))
      have HLN : Hid (((l ++ fldB v cnt).length : Int) = (L : Int) + (cnt : Int)) := by show _ = _; rw [← HF0.out.2, HFL.out]; omega
      rw [HF0.out.2] at HF
      clear hrow hown hIr e0 e1 e1' e2 e2' e3 wP uP uv uc hP30 hLv HPW hv HCK HX HCP HFL HI HW1 HI2 HI4 HW4 hm hv6 hL HJ hlt hj
      go_wp2_with fail
      exact ret_cell rfl rfl rfl HLY.out.1 Tryz.underlying184 rfl (by kernel_rfl) ⟨A5, m5, c5, by rw [HLN.out]; rfl, HF.out, HLY.out.2⟩
end Go.Proofs.YtohadkmaemmfgaaGreatDoor
namespace Go.Proofs.YtohadkmaemmfgaaGreatDoor
open Go.RowKit Go.Proofs
set_option linter.unusedVariables false
set_option linter.unusedSimpArgs false
attribute [local go_sem] Oper.semAt_some
theorem gamma01w_any (A : Option Addr) (m c n : Nat) (l : List Bool) (w : World) (hx : Bytes w A m c (pack l)) (hn : 0 < n) (hn2 : n ≤ 1000000) (hL : l.length + (2 * nb n - 1) ≤ 524288) :
    Calls Tryz.prog 240 #[.agg #[.slice A m c, .int .i64 (l.length : Int)], .int .i64 (n : Int)] w (AppP w (l ++ gamB n)) := by
  obtain ⟨w1, hw1⟩ : ∃ w1, w1 = (w.alloc (.cells #[.slice A m c, .int .i64 (l.length : Int)] 184)).alloc (.cells #[.slice none 0 0, .int .i64 0] 184) := ⟨_, rfl⟩
  have hI : BxI w A m c l.length w1 := by rw [hw1]; exact BxI.start w A m c l.length
  have HCK := Lib.hid (chkL01_any A m c l w1 (hx.below hI.below) (by omega))
  have HX := Lib.hid hx
  have hnb := nb_pos hn
  have hnl := nb_lt 20 n (Nat.lt_of_le_of_lt hn2 (by decide))
  obtain ⟨hb1, hb2⟩ := nb_bits n hn
  obtain ⟨K, hK⟩ : ∃ K, nb n = K + 1 := ⟨nb n - 1, by omega⟩
  rw [hK, Nat.add_sub_cancel] at hb1
  rw [hK] at hb2 hL hnl
  have HSP : Hid ((l ++ fldB 0 K) ++ fldB n (K + 1) = l ++ gamB n) := by
    show _ = _
    rw [List.append_assoc, fld_split hb2]
    unfold gamB
    rw [hK, show 2 * (K + 1) - 1 = 2 * K + 1 by omega]
  have HA1 := Lib.hid (fun W (hW : Bytes W A m c (pack l)) => append01_any A m c 0 K l W hW (Nat.two_pow_pos _) (by decide) (by omega) (by omega))
  obtain ⟨l1, hl1⟩ : ∃ l1, l1 = l ++ fldB 0 K := ⟨_, rfl⟩
  have hl1n : l1.length = l.length + K := by rw [hl1, List.length_append, fldB_length]
  rw [← hl1] at HSP HA1
  have HA2 := Lib.hid (fun A m c W (hW : Bytes W A m c (pack l1)) => append01_any A m c n (K + 1) l1 W hW hb2 hn2 (by omega) (by omega))
  clear hl1 hl1n
  have HSH : Hid (∀ kk, kk ≤ 40 → ((n : Int) / 2 ^ kk = ((n / 2 ^ kk : Nat) : Int)) ∧ (0 < n / 2 ^ kk ↔ kk ≤ K) ∧ n / 2 ^ kk ≤ n) := fun kk _ => by
    refine ⟨by push_cast; rfl, ⟨fun h => ?_, fun h => ?_⟩, Nat.div_le_self _ _⟩
    · rcases Nat.lt_or_ge K kk with h1 | h1
      · rw [Nat.div_eq_of_lt (Nat.lt_of_lt_of_le hb2 (Nat.pow_le_pow_right (by decide) h1))] at h; omega
      · exact h1
    · exact Nat.div_pos (Nat.le_trans (Nat.pow_le_pow_right (by decide) h) hb1) (Nat.two_pow_pos _)
  obtain ⟨L, hLe⟩ : ∃ L, L = l.length := ⟨_, rfl⟩
  rw [← hLe] at hI HCK hL HA1 hw1 ⊢
  have HLE := Lib.hid hLe
  have HI := Lib.hid hI
  have HW1 := Lib.hid hw1
  have e0 : decide ((n : Int) < 1) = false := decide_eq_false (by omega)
  have e1 : decide ((2147483648 : Int) ≤ (n : Int)) = false := decide_eq_false (by omega)
  have e1' : decide (2147483648 ≤ n) = false := decide_eq_false (by omega)
  have e3 : decide ((524288 : Int) < (L : Int) + 2 * (K : Int) + 1) = false := decide_eq_false (by omega)
  have e3' : decide ((524288 : Int) ≤ (L : Int) + 2 * (K : Int)) = false := decide_eq_false (by omega)
  have un : IntKind.u32.wrap (n : Int) = (n : Int) := u32n n (Nat.le_trans hn2 (by decide))
  have hK19 : K ≤ 19 := by omega
  obtain ⟨⟨x0, x1⟩, -, -, -⟩ := hI.cells
  rw [hw1] at x0 x1
  clear hLe hx hI hw1 hb1 hb2 hK hnb hnl
  go_enter Tryz.func240, Tryz.ntmps240
  go_wp2_with fail
  rw [← HW1.out]
  refine HCK.out.mono ?_
  rintro e w2 ⟨rfl, hb2⟩
  have HI2 := Lib.hid (HI.out.call hb2)
  clear hb2 x0 x1
  go_wp2_with fail
  go_loopw [7] (fun vk wr => ∃ k : Nat, k ≤ K ∧ vk = .int .i64 (k : Int) ∧ Hid (wr = w2)) (fun vk _ => 40 - (intOf vk).toNat)
  case atStart => exact ⟨0, Nat.zero_le _, rfl, Lib.hid rfl⟩
  case round =>
    obtain ⟨k, hk, rfl, HW⟩ := hrel
    obtain rfl := HW.out
    obtain ⟨kk, hkk⟩ : ∃ kk, kk = k + 1 := ⟨_, rfl⟩
    have f1 : (k : Int) + 1 = (kk : Int) := by omega
    have hk20 : kk ≤ 20 := by omega
    have wk : wrap64 (kk : Int) = (kk : Int) := w64n kk (by omega)
    have uk : IntKind.u64.wrap (kk : Int) = (kk : Int) := u64n kk (by omega)
    obtain ⟨s1, s2, s3⟩ := HSH.out kk (Nat.le_trans hk20 (by decide))
    obtain ⟨N, hN⟩ : ∃ N, N = n / 2 ^ kk := ⟨_, rfl⟩
    rw [← hN] at s1 s2 s3
    have HNE := Lib.hid hN
    clear hN
    have hNb : N ≤ 1000000 := Nat.le_trans s3 hn2
    have wN : wrap64 (N : Int) = (N : Int) := w64n N (Nat.le_trans hNb (by decide))
    by_cases hlt : kk ≤ K
    · have h0 : 0 < N := s2.2 hlt
      have d0 : decide ((0 : Int) < (N : Int)) = true := decide_eq_true (Int.natCast_pos.mpr h0)
      have d0' : decide (0 < N) = true := decide_eq_true h0
      have HKL := Lib.hid (And.intro hlt hkk)
      clear s2 s3 hkk hlt hk e0 e1 e1' e3 e3' un HA1 HA2 HX HI HW1 HI2 hn hn2 hL HSH h0 HNE
      go_wp2_with fail
      go_roundw
      case rel => exact ⟨kk, HKL.out.1, by first | rfl | go_num, by first | exact Lib.hid rfl | exact Lib.hid trivial⟩
      case measure => (simp [intOf]) <;> omega
    · have h0 : N = 0 := Nat.eq_zero_of_not_pos (fun h => hlt (s2.1 h))
      clear s1
      obtain rfl : k = K := by omega
      have d0 : decide ((0 : Int) < (N : Int)) = false := decide_eq_false (by rw [h0]; decide)
      have d0' : decide (0 < N) = false := decide_eq_false (by rw [h0]; decide)
      obtain ⟨⟨x0, x1⟩, -, -, -⟩ := HI2.out.cells
      have hLb : L + 2 * k + 1 ≤ 524288 := by omega
      have s1 := (HSH.out kk (Nat.le_trans hk20 (by decide))).1
      rw [← HNE.out] at s1
      replace s1 : ∀ [Inhabited Nat], (n : Int) / 2 ^ kk = (N : Int) := fun {_} => s1
      have hk19 : k ≤ 19 := hK19
      have wk1 : wrap64 ((k : Int) + 1) = (kk : Int) := by rw [f1]; exact wk
      rw [← hkk] at HA2 HSP
      clear s2 s3 h0 HNE HSH e0 e1 e1' hlt hk hL hkk
      go_wp2_with fail
      refine (HA1.out wr (HX.out.below HI2.out.below)).mono ?_
      rintro e w4 ⟨A4, m4, c4, rfl, ho4, hb4⟩
      obtain ⟨w5, hw5⟩ : ∃ w5, w5 = w4.alloc (.cells #[.slice A4 m4 c4, .int .i64 (l1.length : Int)] 184) := ⟨_, rfl⟩
      have hb5 : Below w4.heap.size w4 w5 := by rw [hw5]; exact balloc (Below.refl _ _) _
      have r5 : rowV w5 w4.heap.size 184 #[.slice A4 m4 c4, .int .i64 (l1.length : Int)] := by rw [hw5]; exact rowV.new w4 _ _
      have HI5 := Lib.hid ((HI2.out.call hb4).call hb5)
      have HB5 := Lib.hid (ho4.below hb5).bytesB
      have HW5 := Lib.hid hw5
      obtain ⟨y0, y1⟩ := two_cellsV r5
      rw [hw5] at y0 y1
      clear ho4 hb4 hb5 hw5 x0 x1 r5
      go_wp2_with (refine wpList_store_new rfl 184 (.tmp 8) (.tmp 43) rfl _ 184 _ rfl rfl (by kernel_rfl) rfl (by simp [Value.oneCell']) ?_)
      rw [← HW5.out]
      refine (HA2.out A4 m4 c4 w5 HB5.out).mono ?_
      rintro e w6 ⟨A6, m6, c6, rfl, ho6, hb6⟩
      have HI6 := Lib.hid (HI5.out.call hb6)
      obtain ⟨-, ⟨z0, z1⟩, z2, z3⟩ := HI6.out.cells
      rw [HSP.out] at ho6
      have HF := Lib.hid (BxI.own (ho6.mono HI5.out.below.size) HI6.out (.slice A6 m6 c6) (.int .i64 (((l ++ gamB n).length : Nat) : Int)))
      have HLY := Lib.hid (HI6.out.lay (.slice A6 m6 c6) (.int .i64 (((l ++ gamB n).length : Nat) : Int)))
      clear ho6 hb6 y0 y1
      rw [HSP.out]
      obtain ⟨M, hM⟩ : ∃ M, M = (l ++ gamB n).length := ⟨_, rfl⟩
      rw [← hM] at HF HLY ⊢
      have HM := Lib.hid hM
      clear hM
      go_wp2_with fail
      exact ret_cell rfl rfl rfl HLY.out.1 Tryz.underlying184 rfl (by kernel_rfl) ⟨A6, m6, c6, by rw [HM.out]; rfl, HF.out, HLY.out.2⟩
end Go.Proofs.YtohadkmaemmfgaaGreatDoor

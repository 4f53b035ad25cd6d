/- Nj Nk Nl Nm Nn No. -/
import Derived.Test.YtohadkmaemmfgaaGreatDoorRA19
import Derived.Test.YtohadkmaemmfgaaGreatDoorRA23
set_option maxRecDepth 100000
set_option maxHeartbeats 4000000
namespace Go.Proofs.YtohadkmaemmfgaaGreatDoor
open Go.RowKit Go.Proofs
set_option linter.unusedVariables false
set_option linter.unusedSimpArgs false
theorem own_set {W : World} {B : Nat} {A : Option Addr} {n c : Nat} {xs : List UInt8} (h : Own encB W B 5 A n c xs) {q : Nat} (hq : q < n) : ∃ g, A = some ⟨g, 0, none⟩ ∧ B ≤ g ∧ (∃ cur, W.heap[g]? = some (.cells cur 5 (0, 0))) ∧ W.cell? ⟨g, q, none⟩ = some (.int .u8 ((bA xs q).toNat : Int)) ∧ W.frozen? ⟨g, q, none⟩ = false ∧ ∀ y : UInt8, Own encB (W.setCell ⟨g, q, none⟩ (.int .u8 (y.toNat : Int))) B 5 A n c (xs.set q y) := by
  have hn := h.length
  obtain ⟨g, e1, e2, hr⟩ := RowB.of_own h (by omega)
  refine ⟨g, e1, e2, ?_, hr.cell hq, hr.frozen q, fun y => ?_⟩
  · rcases h.2 with ⟨h1, h2⟩ | ⟨g', cap, cur, h1, h2, h3, h4⟩
    · omega
    · injection h1 with h1 _ _
      rw [e1] at h1
      injection h1 with h1
      injection h1 with h1 _ _
      subst h1
      exact ⟨cur, h3⟩
  · obtain ⟨h0, h1⟩ := h
    refine ⟨by rw [List.map_set, List.length_set]; exact h0, ?_⟩
    rcases h1 with ⟨h1, h2⟩ | ⟨g', cap, cur, h1, h2, h3, h4, h5, h6, h7⟩
    · exact absurd h2 (by omega)
    · have hg : g' = g := by
        injection h1 with h1 _ _
        rw [e1] at h1
        injection h1 with h1
        injection h1 with h1 _ _
        exact h1.symm
      subst hg
      refine .inr ⟨g', cap, cur.setIfInBounds q (.int .u8 (y.toNat : Int)), h1, h2, ?_, h4, h5, by simpa using h6, ?_⟩
      · simp [World.setCell, Array.getElem?_modify, h3]
      · rw [Array.toList_setIfInBounds, List.take_set, h7, List.map_set]
        rfl
structure StR (B : Nat) (W : World) (g : Nat) (xs : List UInt8) (L : Nat) (A : Option Addr) (m c : Nat) : Prop where
  row : rowV W g 186 #[.slice A m c, .int .i64 (L : Int), .int .i64 0]
  own : Own encB W B 5 A m c xs
  ge : B ≤ g
  siz : B ≤ W.heap.size
structure SKeep (B g : Nat) (W W' : World) : Prop where
  below : Below B W W'
  same : ∀ j o, W.heap[j]? = some o → j ≠ g → (∀ cur, o ≠ .cells cur 5 (0, 0)) → W'.heap[j]? = some o
theorem SKeep.refl (B g : Nat) (W : World) : SKeep B g W W := ⟨Below.refl _ _, fun _ _ h _ _ => h⟩
theorem SKeep.trans {B g : Nat} {X Y Z : World} (h : SKeep B g X Y) (k : SKeep B g Y Z) : SKeep B g X Z := ⟨h.below.trans k.below, fun j o hj hn ho => k.same j o (h.same j o hj hn ho) hn ho⟩
theorem SKeep.drew (B g : Nat) (W : World) (q : Nat) : SKeep B g W (W.drewN q) := ⟨(Drawn.drewN W q).below _, fun _ _ h _ _ => h⟩
section
variable {B g L m c : Nat} {W W6 : World} {xs : List UInt8} {A : Option Addr}
theorem StR.drew (h : StR B W g xs L A m c) (q : Nat) : StR B (W.drewN q) g xs L A m c := ⟨h.row, h.own, h.ge, h.siz⟩
theorem StR.ne (h : StR B W g xs L A m c) {j : Nat} (hj : ∃ cur, W.heap[j]? = some (.cells cur 5 (0, 0))) : g ≠ j := fun e => by
  obtain ⟨cur, hc⟩ := hj
  subst e
  have hr : W.heap[g]? = _ := h.row
  rw [hr] at hc
  injection hc with hc
  injection hc with _ hc
  exact absurd hc (by decide)
theorem StR.app (h : StR B W g xs L A m c) {A6 : Option Addr} {m6 c6 : Nat} {ys : List UInt8} (ho : Own encB W6 B 5 A6 m6 c6 ys) (hg : W.grownBy W6 (Value.slice A m c).ownBlock) :
    (W6.cell? ⟨g, 0, none⟩ = some (.slice A m c) ∧ W6.frozen? ⟨g, 0, none⟩ = false) ∧ StR B (W6.setCell ⟨g, 0, none⟩ (.slice A6 m6 c6)) g ys L A6 m6 c6 ∧ SKeep B g W (W6.setCell ⟨g, 0, none⟩ (.slice A6 m6 c6)) := by
  have hne : some g ≠ (Value.slice A m c).ownBlock := fun e => h.ne (blk_type h.own e.symm).2 rfl
  have hr6 : rowV W6 g 186 #[.slice A m c, .int .i64 (L : Int), .int .i64 0] := (hg.block g h.row.lt hne).trans h.row
  have hbel : Below B W W6 := (Below.refl B W).grown hg h.siz (fun r e => (blk_type h.own e).1)
  refine ⟨⟨hr6.cell rfl, hr6.frozen 0⟩, ⟨hr6.set 0 _, own_keepT ho fun j cur hB hj => (Below.heap_setCell W6 ⟨g, 0, none⟩ _ j (fun e => ?_)).trans hj, h.ge, by have := hbel.size; simpa [World.setCell] using Nat.le_trans h.siz this⟩, Below.setCell (p := ⟨g, 0, none⟩) hbel h.ge _, fun j o hj hn hno => ?_⟩
  · have e' : j = g := e
    rw [e'] at hj
    have hr : W6.heap[g]? = _ := hr6
    rw [hr] at hj
    injection hj with hj
    injection hj with _ hj
    exact absurd hj (by decide)
  · refine (Below.heap_setCell W6 ⟨g, 0, none⟩ _ j hn).trans ((hg.block j (Array.getElem?_eq_some_iff.1 hj).1 (fun e => ?_)).trans hj)
    obtain ⟨cur, hc⟩ := (blk_type h.own e.symm).2
    rw [hj] at hc
    injection hc with hc
    exact hno cur hc
theorem StR.byte (h : StR B W g xs L A m c) {q : Nat} (hq : q < m) (y : UInt8) : ∃ ga, A = some ⟨ga, 0, none⟩ ∧ W.cell? ⟨ga, q, none⟩ = some (.int .u8 ((bA xs q).toNat : Int)) ∧ W.frozen? ⟨ga, q, none⟩ = false ∧ StR B (W.setCell ⟨ga, q, none⟩ (.int .u8 (y.toNat : Int))) g (xs.set q y) L A m c ∧ SKeep B g W (W.setCell ⟨ga, q, none⟩ (.int .u8 (y.toNat : Int))) := by
  obtain ⟨ga, e1, e2, e3, e4, e5, e6⟩ := own_set h.own hq
  have hne := h.ne e3
  refine ⟨ga, e1, e4, e5, ⟨(Below.heap_setCell W ⟨ga, q, none⟩ _ g hne).trans h.row, e6 y, h.ge, by simpa [World.setCell] using h.siz⟩, Below.setCell (p := ⟨ga, q, none⟩) (Below.refl _ _) e2 _, fun j o hj hn hno => ?_⟩
  refine (Below.heap_setCell W ⟨ga, q, none⟩ _ j (fun e => ?_)).trans hj
  have e' : j = ga := e
  obtain ⟨cur, hc⟩ := e3
  rw [← e', hj] at hc
  injection hc with hc
  exact hno cur hc
theorem StR.cnt (h : StR B W g xs L A m c) (L' : Nat) : (W.cell? ⟨g, 1, none⟩ = some (.int .i64 (L : Int)) ∧ W.frozen? ⟨g, 1, none⟩ = false) ∧ StR B (W.setCell ⟨g, 1, none⟩ (.int .i64 (L' : Int))) g xs L' A m c ∧ SKeep B g W (W.setCell ⟨g, 1, none⟩ (.int .i64 (L' : Int))) := by
  refine ⟨⟨h.row.cell rfl, h.row.frozen 1⟩, ⟨h.row.set 1 _, own_keepT h.own fun j cur hB hj => (Below.heap_setCell W ⟨g, 1, none⟩ _ j (fun e => h.ne ⟨cur, hj⟩ (show g = j from e.symm))).trans hj, h.ge, by simpa [World.setCell] using h.siz⟩, Below.setCell (p := ⟨g, 1, none⟩) (Below.refl _ _) h.ge _, fun j o hj hn hno => (Below.heap_setCell W ⟨g, 1, none⟩ _ j hn).trans hj⟩
end
theorem or_bit : ∀ r : Fin 8, ∀ x : Fin 256, ∀ b : Bool, x.val % 2 ^ (8 - r.val) = 0 → bits BinOp.or IntKind.u8 (x.val : Int) ((b01 b * 2 ^ (7 - r.val) : Nat) : Int) = ((x.val + b01 b * 2 ^ (7 - r.val) : Nat) : Int) := by decide +kernel
def padL (l : List Bool) : List UInt8 := if l.length % 8 = 0 then pack l ++ [0] else pack l
theorem padL_length (l : List Bool) : (padL l).length = l.length / 8 + 1 := by
  unfold padL
  split
  · rw [List.length_append, pack_length]; simp; omega
  · rw [pack_length]; omega
theorem pk_high (l : List Bool) : pkB (gL l) (l.length / 8) % 2 ^ (8 - l.length % 8) = 0 := by
  refine Nat.eq_of_testBit_eq fun j => ?_
  rw [Nat.testBit_mod_two_pow, Nat.zero_testBit]
  by_cases h : j < 8 - l.length % 8
  · have := pk_test (gL l) (l.length / 8) (7 - j) (by omega)
    rw [show 7 - (7 - j) = j by omega] at this
    rw [this, gL_hi (by omega), Bool.and_false]
  · rw [decide_eq_false h, Bool.false_and]
theorem padL_at (l : List Bool) : bA (padL l) (l.length / 8) = UInt8.ofNat (pkB (gL l) (l.length / 8)) := by
  unfold padL
  by_cases h : l.length % 8 = 0
  · rw [if_pos h]
    have hp := pk_high l
    rw [h] at hp
    have hl := pkB_lt (gL l) (l.length / 8)
    have h0 : pkB (gL l) (l.length / 8) = 0 := by
      have : (2 : Nat) ^ (8 - 0) = 256 := by decide
      rw [this] at hp; omega
    rw [h0]
    unfold bA
    rw [List.getD_eq_getElem?_getD, List.getElem?_append_right (by rw [pack_length]; omega), pack_length, show l.length / 8 - (l.length + 7) / 8 = 0 by omega]
    rfl
  · rw [if_neg h]
    exact pack_at (by omega)
def newB (l : List Bool) (b : Bool) : Nat := pkB (gL l) (l.length / 8) + b01 b * 2 ^ (7 - l.length % 8)
theorem pack_more (l : List Bool) (b : Bool) : (padL l).set (l.length / 8) (UInt8.ofNat (newB l b)) = pack (l ++ [b]) := by
  have hlen : (l ++ [b]).length = l.length + 1 := by simp
  refine list_ext_bA (by rw [List.length_set, padL_length, pack_length, hlen]; omega) fun i hi => ?_
  rw [pack_length, hlen] at hi
  rw [bA_set (by rw [padL_length]; omega), pack_at (by rw [hlen]; omega), pkB_more]
  by_cases e : l.length / 8 = i
  · rw [if_pos e, if_pos e.symm]
    subst e
    rfl
  · rw [if_neg e, if_neg (fun h => e h.symm)]
    have hi2 : i < (l.length + 7) / 8 := by omega
    have : bA (padL l) i = bA (pack l) i := by
      unfold padL
      split
      · unfold bA; rw [List.getD_eq_getElem?_getD, List.getElem?_append_left (by rw [pack_length]; omega), List.getD_eq_getElem?_getD]
      · rfl
    rw [this, pack_at hi2]
theorem newB_lt (l : List Bool) (b : Bool) : newB l b < 256 := by
  have h := pkB_lt (gL (l ++ [b])) (l.length / 8)
  rw [pkB_more, if_pos rfl] at h
  exact h
theorem newB_or (l : List Bool) (b : Bool) : bits BinOp.or IntKind.u8 ((bA (padL l) (l.length / 8)).toNat : Int) ((b01 b * 2 ^ (7 - l.length % 8) : Nat) : Int) = (((UInt8.ofNat (newB l b)).toNat : Nat) : Int) := by
  have h1 := pkB_lt (gL l) (l.length / 8)
  rw [padL_at, UInt8.toNat_ofNat', Nat.mod_eq_of_lt h1, UInt8.toNat_ofNat', Nat.mod_eq_of_lt (newB_lt l b)]
  exact or_bit ⟨l.length % 8, Nat.mod_lt _ (by decide)⟩ ⟨pkB (gL l) (l.length / 8), h1⟩ b (pk_high l)
def fldK (n c j : Nat) : List Bool := (List.range j).map fun t => n.testBit (c - 1 - t)
theorem fldK_next (n c j : Nat) : fldK n c (j + 1) = fldK n c j ++ [n.testBit (c - 1 - j)] := by unfold fldK; rw [List.range_succ, List.map_append]; rfl
theorem fldK_length (n c j : Nat) : (fldK n c j).length = j := by simp [fldK]
def StB (B : Nat) (W : World) (g : Nat) (l : List Bool) : Prop := ∃ A m c, StR B W g (pack l) l.length A m c
theorem b01_mod (n p : Nat) : n / 2 ^ p % 2 = b01 (n.testBit p) := by
  rw [Nat.testBit_eq_decide_div_mod_eq]
  rcases Nat.mod_two_eq_zero_or_one (n / 2 ^ p) with h | h <;> rw [h] <;> rfl
theorem w64n (n : Nat) (h : n ≤ 1000000000) : wrap64 (n : Int) = (n : Int) := by unfold wrap64; omega
theorem mq0 {L m q r : Nat} (hml : (L + 7) / 8 = m) (hq : q = L / 8) (hr : r = L % 8) (h : r = 0) : m + 1 = q + 1 := by omega
theorem mq1 {L m q r : Nat} (hml : (L + 7) / 8 = m) (hq : q = L / 8) (hr : r = L % 8) (h : ¬ r = 0) : m = q + 1 := by omega
theorem mq2 {L m : Nat} (hml : (L + 7) / 8 = m) (h : L ≤ 10000000) : m + 1 ≤ maxLen ∧ (m + 1) * 1 ≤ 140737488355328 := ⟨by simp [maxLen]; omega, by omega⟩
theorem sput_any (B g n count : Nat) (l : List Bool) (w : World) (h : StB B w g l) (hn : n ≤ 1000000) (hc : count ≤ 64) (hlen : l.length + count ≤ 10000000) :
    Calls Tryz.prog 220 #[.pointer (some ⟨g, 0, none⟩), .int .i64 (n : Int), .int .i64 (count : Int)] w fun e w' => e = .returned (.tuple #[]) ∧ StB B w' g (l ++ fldB n count) ∧ SKeep B g w w' := by
  have HI0 : Hid (StB B w g (l ++ fldK n count 0) ∧ SKeep B g w w) := ⟨by simpa [fldK] using h, SKeep.refl _ _ _⟩
  clear h
  go_enter Tryz.func220, Tryz.ntmps220
  go_wp2_with fail
  go_loopw [6] (fun i wr => ∃ j : Nat, j ≤ count ∧ i = .int .i64 ((count : Int) - 1 - (j : Int)) ∧ Hid (StB B wr g (l ++ fldK n count j) ∧ SKeep B g w wr)) (fun i _ => (intOf i + 1).toNat)
  case atStart => exact ⟨0, Nat.zero_le _, by simp, HI0⟩
  case round =>
    obtain ⟨j, hj, rfl, HI⟩ := hrel
    by_cases hlt : j < count
    · obtain ⟨p, hp⟩ : ∃ p, p = count - 1 - j := ⟨_, rfl⟩
      have e1 : (count : Int) - 1 - (j : Int) = (p : Int) := by omega
      have hnx := fldK_next n count j
      rw [← hp] at hnx
      have HST := HI.out.1
      have HSK := Lib.hid HI.out.2
      obtain ⟨k, hk⟩ : ∃ k, k = l ++ fldK n count j := ⟨_, rfl⟩
      rw [← hk] at HST
      have hkl : k.length ≤ 10000000 := by rw [hk, List.length_append, fldK_length]; omega
      have HNX : Hid (l ++ fldK n count (j + 1) = k ++ [n.testBit p]) := by show _ = _; rw [hnx, hk, List.append_assoc]
      obtain ⟨A, m, c, hst⟩ := HST
      have hml : (pack k).length = m := hst.own.length
      rw [pack_length] at hml
      obtain ⟨L, hL⟩ : ∃ L, L = k.length := ⟨_, rfl⟩
      obtain ⟨q, hq⟩ : ∃ q, q = L / 8 := ⟨_, rfl⟩
      obtain ⟨r, hr⟩ : ∃ r, r = L % 8 := ⟨_, rfl⟩
      obtain ⟨s, hs⟩ : ∃ s, s = 7 - r := ⟨_, rfl⟩
      have hr8 : r < 8 := by omega
      have wa : wrap64 (q : Int) = (q : Int) := w64n q (by omega)
      have wb : wrap64 (r : Int) = (r : Int) := w64n r (by omega)
      have wc : wrap64 (s : Int) = (s : Int) := w64n s (by rw [hs]; exact Nat.le_trans (Nat.sub_le 7 r) (by decide))
      have t3 : (7 : Int) - (r : Int) = (s : Int) := by rw [hs, Int.ofNat_sub (Nat.le_of_lt_succ hr8)]; rfl
      have hqm : L / 8 = q ∧ L % 8 = r ∧ q ≤ 10000000 := ⟨hq.symm, hr.symm, by rw [hq]; exact Nat.le_trans (Nat.div_le_self L 8) (by rw [hL]; exact hkl)⟩
      have t1 : (L : Int).tdiv 8 = (q : Int) := by rw [Int.tdiv_eq_ediv_of_nonneg (Int.natCast_nonneg _), ← hqm.1]; rfl
      have t2 : (L : Int).tmod 8 = (r : Int) := by rw [Int.tmod_eq_emod_of_nonneg (Int.natCast_nonneg _), ← hqm.2.1]; rfl
      have t4 : (L : Int) % 8 = (r : Int) := by rw [← hqm.2.1]; rfl
      have t5 : (L : Int) / 8 = (q : Int) := by rw [← hqm.1]; rfl
      have hor := newB_or k (n.testBit p)
      have hpm := pack_more k (n.testBit p)
      have hb := b01_mod n p
      obtain ⟨N, hN⟩ : ∃ N, N = n / 2 ^ p := ⟨_, rfl⟩
      have hNn : N ≤ n := by rw [hN]; exact Nat.div_le_self _ _
      have hsh : (n : Int) / 2 ^ p = (N : Int) := by rw [hN]; push_cast; rfl
      have wd : wrap64 (N : Int) = (N : Int) := w64n N (Nat.le_trans hNn (Nat.le_trans hn (by decide)))
      have hand := and_one N (Nat.le_trans hNn (Nat.le_trans hn (by decide)))
      obtain ⟨bv, hbv⟩ : ∃ bv, bv = b01 (n.testBit p) := ⟨_, rfl⟩
      have hbv1 : bv ≤ 1 := by rw [hbv]; exact b01_le _
      have we : wrap64 (bv : Int) = (bv : Int) := w64n bv (Nat.le_trans hbv1 (by decide))
      rw [← hN, ← hbv] at hb
      rw [hb] at hand
      rw [← hbv, ← hL, ← hr, ← hq, ← hs] at hor
      rw [← hL, ← hq] at hpm
      rw [← hL] at hst hml
      obtain ⟨x, hx⟩ : ∃ x, x = bA (padL k) q := ⟨_, rfl⟩
      obtain ⟨y, hy⟩ : ∃ y, y = UInt8.ofNat (newB k (n.testBit p)) := ⟨_, rfl⟩
      rw [← hx, ← hy] at hor
      rw [← hy] at hpm
      have hb256 : bv < 256 := Nat.lt_of_le_of_lt hbv1 (by decide)
      have hwb : IntKind.u8.wrap (bv : Int) = (bv : Int) := by rw [wrap8 hb256, UInt8.toNat_ofNat', Nat.mod_eq_of_lt hb256]
      have hpow : bv * 2 ^ s < 256 := by
        have : (2 : Nat) ^ s ≤ 2 ^ 7 := Nat.pow_le_pow_right (by decide) (by rw [hs]; exact Nat.sub_le 7 r)
        rcases Nat.le_one_iff_eq_zero_or_eq_one.1 hbv1 with e | e
        · rw [e, Nat.zero_mul]; decide
        · rw [e, Nat.one_mul]; exact Nat.lt_of_le_of_lt this (by decide)
      have hws : IntKind.u8.wrap ((bv : Int) * 2 ^ s) = ((bv * 2 ^ s : Nat) : Int) := by
        have e : ((bv : Int) * 2 ^ s) = ((bv * 2 ^ s : Nat) : Int) := by push_cast; rfl
        rw [e, wrap8 hpow, UInt8.toNat_ofNat', Nat.mod_eq_of_lt hpow]
      have d0 : decide ((0 : Int) ≤ (p : Int)) = true := decide_eq_true (Int.natCast_nonneg p)
      have epw : ((bv * 2 ^ s : Nat) : Int) = (bv : Int) * 2 ^ s := by push_cast; rfl
      rw [epw] at hor hws
      have HPM := Lib.hid hpm
      have HQB : Hid (q ≤ 10000000) := hqm.2.2
      have M1 : Hid (m + 1 ≤ maxLen ∧ (m + 1) * 1 ≤ 140737488355328) := mq2 hml (by rw [hL]; exact hkl)
      have MQ0 : Hid (r = 0 → m + 1 = q + 1) := mq0 hml hq hr
      have MQ1 : Hid (¬ r = 0 → m = q + 1) := mq1 hml hq hr
      have PW : Hid (((wrap64 (q : Int) = (q : Int) ∧ wrap64 (r : Int) = (r : Int) ∧ wrap64 (s : Int) = (s : Int)) ∧ (wrap64 (N : Int) = (N : Int) ∧ wrap64 (bv : Int) = (bv : Int)) ∧ (7 : Int) - (r : Int) = (s : Int) ∧ (L : Int).tdiv 8 = (q : Int) ∧ (L : Int) / 8 = (q : Int)) ∧ (n : Int) / 2 ^ p = (N : Int) ∧ bits BinOp.and IntKind.i64 (N : Int) 1 = (bv : Int) ∧ IntKind.u8.wrap (bv : Int) = (bv : Int) ∧ IntKind.u8.wrap ((bv : Int) * 2 ^ s) = (bv : Int) * 2 ^ s ∧ bits BinOp.or IntKind.u8 (x.toNat : Int) ((bv : Int) * 2 ^ s) = ((y.toNat : Nat) : Int)) := ⟨⟨⟨wa, wb, wc⟩, ⟨wd, we⟩, t3, t1, t5⟩, hsh, hand, hwb, hws, hor⟩
      have hm7 := M1.out.2
      have BND : Hid (q ≤ 10000000 ∧ r ≤ 7 ∧ s ≤ 7 ∧ N ≤ 1000000 ∧ bv ≤ 1) := ⟨hqm.2.2, Nat.le_of_lt_succ hr8, by rw [hs]; exact Nat.sub_le 7 r, Nat.le_trans hNn hn, hbv1⟩
      clear hs hp wa wb wc wd we t3 t1 t5 hsh hand hwb hws hor hpow hbv1 hb256 hNn hqm hml hq hr hpm epw
      have HX := Lib.hid hx
      have HL := Lib.hid hL
      by_cases h8 : r = 0
      · have hpad : padL k = pack k ++ [0] := by unfold padL; rw [← hL, if_pos (by have := t4; omega)]
        have q0 : ((r : Int) == 0) = true := by simp [h8]
        have HPAD := Lib.hid hpad
        have hst0 := hst.row.cell (j := 0) rfl
        have hst1 := hst.row.cell (j := 1) rfl
        have hown := hst.own
        have hB := hst.siz
        have m1 := M1
        have HSTR := Lib.hid hst
        have HMQ : Hid (m + 1 = q + 1) := MQ0.out h8
        clear hnx hk hL hN hbv hb hx hy hpad hst h8
        go_wp2_with (at_builtin; refine wpList_pushk (enc := encB) rfl (.tmp 25) (.tmp 26) rfl uB infoB encB_one rfl rfl hown hB 0 _ rfl rfl m1.out.1 m1.out.2 ?_; intro A6 c6 W6 ho6 hk6; obtain ⟨⟨x0, x1⟩, hst6, hsk6⟩ := HSTR.out.app ho6 hk6)
        obtain ⟨W7, hW7⟩ : ∃ W7, W7 = W6.setCell ⟨g, 0, none⟩ (.slice A6 (m + 1) c6) := ⟨_, rfl⟩
        rw [← hW7] at hst6 hsk6 ⊢
        obtain ⟨m7, hm7⟩ : ∃ m7, m7 = m + 1 := ⟨_, rfl⟩
        rw [← HPAD.out, ← hm7] at hst6
        have hst7 := hst6
        have hsk7 := hsk6
        obtain ⟨A7, hA⟩ : ∃ A7, A7 = A6 := ⟨_, rfl⟩
        obtain ⟨c7, hc7⟩ : ∃ c7, c7 = c6 := ⟨_, rfl⟩
        rw [← hA, ← hc7] at hst7
        have hmq : m7 = q + 1 := by have := HMQ.out; omega
        clear hst6 hsk6 hW7 ho6 hk6 x0 x1 hown hst0 hst1 hA hc7 hm7
        obtain ⟨ga, hA7, z1, z2, -, -⟩ := hst7.byte (q := q) (by omega) y
        subst hA7
        have y0 : W7.cell? ⟨g, 0, none⟩ = some (.slice (some ⟨ga, 0, none⟩) m7 c7) := hst7.row.cell rfl
        have y1 : W7.cell? ⟨g, 1, none⟩ = some (.int .i64 (L : Int)) := hst7.row.cell rfl
        rw [← HX.out] at z1
        have dq : decide ((q : Int) < (m7 : Int)) = true := decide_eq_true (by omega)
        have FIN : Hid (∀ nq, ((W7.drewN nq).frozen? ⟨ga, q, none⟩ = false ∧ (W7.drewN nq).cell? ⟨ga, q, none⟩ = some (.int .u8 (x.toNat : Int))) ∧ (((W7.drewN nq).setCell ⟨ga, q, none⟩ (.int .u8 (y.toNat : Int))).cell? ⟨g, 1, none⟩ = some (.int .i64 (L : Int)) ∧ ((W7.drewN nq).setCell ⟨ga, q, none⟩ (.int .u8 (y.toNat : Int))).frozen? ⟨g, 1, none⟩ = false) ∧
            (StB B (((W7.drewN nq).setCell ⟨ga, q, none⟩ (.int .u8 (y.toNat : Int))).setCell ⟨g, 1, none⟩ (.int .i64 ((L : Int) + 1))) g (l ++ fldK n count (j + 1)) ∧ SKeep B g w (((W7.drewN nq).setCell ⟨ga, q, none⟩ (.int .u8 (y.toNat : Int))).setCell ⟨g, 1, none⟩ (.int .i64 ((L : Int) + 1))))) := fun nq => by
          obtain ⟨ga', e7, v1, v2, v3, v4⟩ := (hst7.drew nq).byte (q := q) (by omega) y
          injection e7 with e7
          injection e7 with e7 _ _
          subst e7
          obtain ⟨v5, v6, v7⟩ := v3.cnt (L + 1)
          rw [HPM.out] at v6
          rw [show ((L + 1 : Nat) : Int) = (L : Int) + 1 by omega] at v6 v7
          rw [HNX.out]
          rw [← HX.out] at v1
          refine ⟨⟨v2, v1⟩, v5, ⟨some ⟨ga, 0, none⟩, m7, c7, ?_⟩, HSK.out.trans (hsk7.trans ((SKeep.drew B g W7 nq).trans (v4.trans v7)))⟩
          rw [List.length_append, List.length_singleton, ← HL.out]
          exact v6
        clear hst7 hsk7
        obtain ⟨⟨-, -, t3, t1, t5⟩, hsh, hand, hwb, hws, hor⟩ := PW.out
        obtain ⟨b1, b2, b3, b4, b5⟩ := BND.out
        refine wp_region_quiet_tail 28 (by kernel_rfl) (by kernel_rfl) ?_
        simp only [List.take_succ_cons, List.take_zero, List.drop_succ_cons, List.drop_zero]
        repeat (go_big_quiet_step (fail))
        refine wpQuiet_nil ?_
        intro _ hw'
        obtain ⟨nr, hw''⟩ := hw'
        subst hw''
        obtain ⟨⟨f1, f2⟩, ⟨f3, f4⟩, -⟩ := FIN.out nr
        go_wp2_with fail
        go_roundw
        case rel => exact ⟨j + 1, by omega, congrArg (Value.int .i64) (by omega), Lib.hid (FIN.out nr).2.2⟩
        case measure => (simp [intOf]) <;> omega
      · have hpad : padL k = pack k := by unfold padL; rw [← hL, if_neg (by have := t4; omega)]
        have q0 : ((r : Int) == 0) = false := by simp [h8]
        have hst0 := hst.row.cell (j := 0) rfl
        have hst1 := hst.row.cell (j := 1) rfl
        rw [← hpad] at hst
        have HMQ : Hid (m = q + 1) := MQ1.out h8
        clear hnx hk hL hN hbv hb hx hy hpad
        go_wp2_with fail
        obtain ⟨W7, hW7⟩ : ∃ W7, W7 = wr := ⟨_, rfl⟩
        have hst7 : StR B W7 g (padL k) L A m c := by rw [hW7]; exact hst
        have hsk7 : SKeep B g wr W7 := by rw [hW7]; exact SKeep.refl _ _ _
        rw [← hW7]
        obtain ⟨m7, hm7⟩ : ∃ m7, m7 = m := ⟨_, rfl⟩
        obtain ⟨A7, hA⟩ : ∃ A7, A7 = A := ⟨_, rfl⟩
        obtain ⟨c7, hc7⟩ : ∃ c7, c7 = c := ⟨_, rfl⟩
        rw [← hA, ← hc7, ← hm7] at hst7
        have hmq : m7 = q + 1 := by have := HMQ.out; omega
        clear hst hW7 hst0 hst1 hA hc7 hm7
        obtain ⟨ga, hA7, z1, z2, -, -⟩ := hst7.byte (q := q) (by omega) y
        subst hA7
        have y0 : W7.cell? ⟨g, 0, none⟩ = some (.slice (some ⟨ga, 0, none⟩) m7 c7) := hst7.row.cell rfl
        have y1 : W7.cell? ⟨g, 1, none⟩ = some (.int .i64 (L : Int)) := hst7.row.cell rfl
        rw [← HX.out] at z1
        have dq : decide ((q : Int) < (m7 : Int)) = true := decide_eq_true (by omega)
        have FIN : Hid (∀ nq, ((W7.drewN nq).frozen? ⟨ga, q, none⟩ = false ∧ (W7.drewN nq).cell? ⟨ga, q, none⟩ = some (.int .u8 (x.toNat : Int))) ∧ (((W7.drewN nq).setCell ⟨ga, q, none⟩ (.int .u8 (y.toNat : Int))).cell? ⟨g, 1, none⟩ = some (.int .i64 (L : Int)) ∧ ((W7.drewN nq).setCell ⟨ga, q, none⟩ (.int .u8 (y.toNat : Int))).frozen? ⟨g, 1, none⟩ = false) ∧
            (StB B (((W7.drewN nq).setCell ⟨ga, q, none⟩ (.int .u8 (y.toNat : Int))).setCell ⟨g, 1, none⟩ (.int .i64 ((L : Int) + 1))) g (l ++ fldK n count (j + 1)) ∧ SKeep B g w (((W7.drewN nq).setCell ⟨ga, q, none⟩ (.int .u8 (y.toNat : Int))).setCell ⟨g, 1, none⟩ (.int .i64 ((L : Int) + 1))))) := fun nq => by
          obtain ⟨ga', e7, v1, v2, v3, v4⟩ := (hst7.drew nq).byte (q := q) (by omega) y
          injection e7 with e7
          injection e7 with e7 _ _
          subst e7
          obtain ⟨v5, v6, v7⟩ := v3.cnt (L + 1)
          rw [HPM.out] at v6
          rw [show ((L + 1 : Nat) : Int) = (L : Int) + 1 by omega] at v6 v7
          rw [HNX.out]
          rw [← HX.out] at v1
          refine ⟨⟨v2, v1⟩, v5, ⟨some ⟨ga, 0, none⟩, m7, c7, ?_⟩, HSK.out.trans (hsk7.trans ((SKeep.drew B g W7 nq).trans (v4.trans v7)))⟩
          rw [List.length_append, List.length_singleton, ← HL.out]
          exact v6
        clear hst7 hsk7
        obtain ⟨⟨-, -, t3, t1, t5⟩, hsh, hand, hwb, hws, hor⟩ := PW.out
        obtain ⟨b1, b2, b3, b4, b5⟩ := BND.out
        refine wp_region_quiet_tail 28 (by kernel_rfl) (by kernel_rfl) ?_
        simp only [List.take_succ_cons, List.take_zero, List.drop_succ_cons, List.drop_zero]
        repeat (go_big_quiet_step (fail))
        refine wpQuiet_nil ?_
        intro _ hw'
        obtain ⟨nr, hw''⟩ := hw'
        subst hw''
        obtain ⟨⟨f1, f2⟩, ⟨f3, f4⟩, -⟩ := FIN.out nr
        go_wp2_with fail
        go_roundw
        case rel => exact ⟨j + 1, by omega, congrArg (Value.int .i64) (by omega), Lib.hid (FIN.out nr).2.2⟩
        case measure => (simp [intOf]) <;> omega
    · obtain rfl : count = j := by omega
      have d0 : decide ((0 : Int) ≤ (count : Int) - 1 - (count : Int)) = false := decide_eq_false (by omega)
      go_wp2_with fail
      go_end0
      exact ⟨rfl, HI.out.1, HI.out.2⟩
section
variable {B g L m c : Nat} {W W' : World} {xs : List UInt8} {A : Option Addr} {l : List Bool}
theorem StR.grow (h : StR B W g xs L A m c) (hb : Below W.heap.size W W') : StR B W' g xs L A m c := ⟨h.row.below hb h.row.lt, h.own.below hb, h.ge, Nat.le_trans h.siz hb.size⟩
theorem StB.grow (h : StB B W g l) (hb : Below W.heap.size W W') : StB B W' g l := by
  obtain ⟨A, m, c, h⟩ := h
  exact ⟨A, m, c, h.grow hb⟩
theorem StB.lt (h : StB B W g l) : g < W.heap.size ∧ B ≤ W.heap.size ∧ B ≤ g := by
  obtain ⟨A, m, c, h⟩ := h
  exact ⟨h.row.lt, h.siz, h.ge⟩
theorem SKeep.of_below (hB : B ≤ W.heap.size) (hb : Below W.heap.size W W') : SKeep B g W W' := ⟨hb.mono hB, fun j o hj _ _ => (hb.block j (Array.getElem?_eq_some_iff.1 hj).1).trans hj⟩
theorem SKeep.tok (h : SKeep B g W W') {b : Nat} {t : Tok} (hr : rowV W b 180 (tokV t)) (hne : b ≠ g) : rowV W' b 180 (tokV t) := h.same b _ hr hne fun cur e => by injection e with _ e; exact absurd e (by decide)
end
theorem gmB_nat {n : Nat} (h : 0 < n) : gmB n = ((2 * nb n - 1 : Nat) : Int) := by
  have := nb_pos h
  unfold gmB; omega
theorem stoken_any (B g : Nat) (t : Tok) (l : List Bool) (w : World) (h : StB B w g l) (hr : rightT t = true) (ht : TokLim t) (hlen : l.length ≤ 5000000) :
    Calls Tryz.prog 156 #[.pointer (some ⟨g, 0, none⟩), .agg (tokV t)] w fun e w' => e = .returned (.tuple #[]) ∧ StB B w' g (l ++ tokB t) ∧ SKeep B g w w' := by
  obtain ⟨g1, g2, g3⟩ := h.lt
  obtain ⟨t1, t2⟩ := ht
  obtain ⟨w1, hw1⟩ : ∃ w1, w1 = w.alloc (.cells (tokV t) 180) := ⟨_, rfl⟩
  have hb1 : Below w.heap.size w w1 := by rw [hw1]; exact balloc (Below.refl _ _) _
  have r1 : rowV w1 w.heap.size 180 (tokV t) := by rw [hw1]; exact rowV.new w _ _
  have HW1 := Lib.hid hw1
  have S1 : Hid (StB B w1 g l ∧ SKeep B g w w1) := ⟨h.grow hb1, SKeep.of_below g2 hb1⟩
  have R1 := Lib.hid r1
  have hgw : Hid (w.heap.size ≠ g) := Nat.ne_of_gt g1
  by_cases h0 : t.len = 0
  · have hT : Hid (tokB t = fldB t.byt.toNat 9) := by show _ = _; unfold tokB; rw [if_pos h0]
    have q0 : ((t.len : Int) == 0) = true := by simp [h0]
    have k0 : (w.alloc (.cells (tokV t) 180)).cell? ⟨w.heap.size, 0, none⟩ = some (.int .i64 (t.len : Int)) := by rw [← hw1]; exact r1.cell rfl
    have k2 : (w.alloc (.cells (tokV t) 180)).cell? ⟨w.heap.size, 2, none⟩ = some (.int .u8 (t.byt.toNat : Int)) := by rw [← hw1]; exact r1.cell rfl
    have hx := t.byt.toNat_lt
    have HP := Lib.hid (sput_any B g t.byt.toNat 9 l w1 S1.out.1 (by omega) (by omega) (by omega))
    have hw64 := wrap64_u8 t.byt
    clear h0 hw1 hb1 r1 h
    unfold tokV at *
    go_enter Tryz.func156, Tryz.ntmps156
    go_wp2_with fail
    rw [← HW1.out]
    refine HP.out.mono ?_
    rintro e w2 ⟨rfl, hs2, hk2⟩
    have HF : Hid (StB B w2 g (l ++ tokB t) ∧ SKeep B g w w2) := ⟨by rw [hT.out]; exact hs2, S1.out.2.trans hk2⟩
    go_wp2_with fail
    refine bodyPost_ret (results_none rfl _ _ _) rfl ?_
    exact ⟨rfl, HF.out.1, HF.out.2⟩
  · simp only [rightT, if_neg h0, decide_eq_true_eq] at hr
    obtain ⟨r2, r3, r4, r5, r6⟩ := hr
    have hT : Hid (tokB t = (fldB 1 1 ++ fldB (t.len - 1) (2 * nb (t.len - 1) - 1)) ++ fldB t.dst (2 * nb t.dst - 1)) := by show _ = _; unfold tokB gamB; rw [if_neg h0]
    have q0 : ((t.len : Int) == 0) = false := by simp [h0]
    have k0 : (w.alloc (.cells (tokV t) 180)).cell? ⟨w.heap.size, 0, none⟩ = some (.int .i64 (t.len : Int)) := by rw [← hw1]; exact r1.cell rfl
    have n1 := nb_lt 8 (t.len - 1) (by omega)
    have n2 := nb_lt 13 t.dst (by omega)
    have m1 := gmB_nat (n := t.len - 1) (by omega)
    have m2 := gmB_nat (n := t.dst) (by omega)
    have G1 := fun W => gamma_any (t.len - 1) W (by omega)
    have G2 := fun W => gamma_any t.dst W (by omega)
    rw [m1] at G1
    rw [m2] at G2
    obtain ⟨lm, hlm⟩ : ∃ lm, lm = t.len - 1 := ⟨_, rfl⟩
    have e1 : (t.len : Int) - 1 = (lm : Int) := by omega
    have hlm2 : lm ≤ 1000000 := by omega
    rw [← hlm] at G1 hT n1
    have hwl : IntKind.i64.wrap ((t.len : Int) - 1) = (lm : Int) := by rw [e1, IntKind.wrap_i64]; omega
    obtain ⟨c1, hc1⟩ : ∃ c1, c1 = 2 * nb lm - 1 := ⟨_, rfl⟩
    obtain ⟨c2, hc2⟩ : ∃ c2, c2 = 2 * nb t.dst - 1 := ⟨_, rfl⟩
    have hcb : c1 ≤ 16 ∧ c2 ≤ 26 := by omega
    rw [← hc1] at G1 hT
    rw [← hc2] at G2 hT
    have HP1 := Lib.hid (sput_any B g 1 1 l w1 S1.out.1 (by omega) (by omega) (by omega))
    have HG1 := Lib.hid G1
    have HG2 := Lib.hid G2
    have HC := Lib.hid hcb
    clear h0 hw1 hb1 r1 h hlm hc1 hc2 m1 m2 G1 G2 n1 n2 hcb
    go_enter Tryz.func156, Tryz.ntmps156
    go_wp2_with fail
    rw [← HW1.out]
    refine HP1.out.mono ?_
    rintro e w2 ⟨rfl, hs2, hk2⟩
    have R2 := Lib.hid (hk2.tok R1.out hgw.out)
    have S2 : Hid (StB B w2 g (l ++ fldB 1 1) ∧ SKeep B g w w2) := ⟨hs2, S1.out.2.trans hk2⟩
    have y0 : w2.cell? ⟨w.heap.size, 0, none⟩ = some (.int .i64 (t.len : Int)) := R2.out.cell rfl
    clear hs2 hk2 k0
    go_wp2_with fail
    refine wp_region_quiet_tail 8 (by kernel_rfl) (by kernel_rfl) ?_
    simp only [List.take_succ_cons, List.take_zero, List.drop_succ_cons, List.drop_zero]
    repeat (go_big_quiet_step (first | (go_at_call 219; exact Calls.quiet_of_same (HG1.out _))))
    refine wpQuiet_nil ?_
    intro _ hw'
    obtain ⟨nr, hw''⟩ := hw'
    subst hw''
    have HP2 := Lib.hid (sput_any B g lm c1 (l ++ fldB 1 1) (w2.drewN nr) (S2.out.1.grow ((Drawn.drewN w2 nr).below _)) hlm2 (by have := HC.out; omega) (by rw [List.length_append, fldB_length]; have := HC.out; omega))
    go_wp2_with fail
    refine HP2.out.mono ?_
    rintro e w3 ⟨rfl, hs3, hk3⟩
    have R3 := Lib.hid (hk3.tok (show rowV (w2.drewN nr) w.heap.size 180 (tokV t) from R2.out) hgw.out)
    have S3 : Hid (StB B w3 g (l ++ fldB 1 1 ++ fldB lm c1) ∧ SKeep B g w w3) := ⟨hs3, S2.out.2.trans ((SKeep.drew B g w2 nr).trans hk3)⟩
    have z1 : w3.cell? ⟨w.heap.size, 1, none⟩ = some (.int .i64 (t.dst : Int)) := R3.out.cell rfl
    clear hs3 hk3 y0
    go_wp2_with fail
    refine wp_region_quiet_tail 6 (by kernel_rfl) (by kernel_rfl) ?_
    simp only [List.take_succ_cons, List.take_zero, List.drop_succ_cons, List.drop_zero]
    repeat (go_big_quiet_step (first | (go_at_call 219; exact Calls.quiet_of_same (HG2.out _))))
    refine wpQuiet_nil ?_
    intro _ hw'
    obtain ⟨nq, hw''⟩ := hw'
    subst hw''
    have HP3 := Lib.hid (sput_any B g t.dst c2 (l ++ fldB 1 1 ++ fldB lm c1) (w3.drewN nq) (S3.out.1.grow ((Drawn.drewN w3 nq).below _)) t2 (by have := HC.out; omega) (by rw [List.length_append, List.length_append, fldB_length, fldB_length]; have := HC.out; omega))
    go_wp2_with fail
    refine HP3.out.mono ?_
    rintro e w4 ⟨rfl, hs4, hk4⟩
    have HF : Hid (StB B w4 g (l ++ tokB t) ∧ SKeep B g w w4) := ⟨by rw [hT.out, ← List.append_assoc, ← List.append_assoc]; exact hs4, S3.out.2.trans ((SKeep.drew B g w3 nq).trans hk4)⟩
    go_wp2_with fail
    go_end0
    exact ⟨rfl, HF.out.1, HF.out.2⟩
def Toks (w : World) (A : Option Addr) (n c : Nat) (l : List Tok) : Prop := l.length = n ∧ n ≤ c ∧ (0 < n → ∃ b off, A = some ⟨b, off, none⟩ ∧ b < w.heap.size ∧ ∀ i, i < n → w.cell? ⟨b, off + i * 3, none⟩ = some (.int .i64 ((tG l i).len : Int)) ∧ w.cell? ⟨b, off + i * 3 + 1, none⟩ = some (.int .i64 ((tG l i).dst : Int)) ∧ w.cell? ⟨b, off + i * 3 + 2, none⟩ = some (.int .u8 ((tG l i).byt.toNat : Int)))
theorem Toks.below {w w' : World} {A : Option Addr} {n c : Nat} {l : List Tok} (h : Toks w A n c l) {B : Nat} (hb : Below B w w') (hB : w.heap.size ≤ B) : Toks w' A n c l := ⟨h.1, h.2.1, fun hn => by
  obtain ⟨b, off, rfl, hlt, hc⟩ := h.2.2 hn
  have hs := hb.size
  exact ⟨b, off, rfl, by omega, fun i hi => ⟨(hb.cell (p := ⟨b, off + i * 3, none⟩) (Nat.lt_of_lt_of_le hlt hB)).trans (hc i hi).1, (hb.cell (p := ⟨b, off + i * 3 + 1, none⟩) (Nat.lt_of_lt_of_le hlt hB)).trans (hc i hi).2.1, (hb.cell (p := ⟨b, off + i * 3 + 2, none⟩) (Nat.lt_of_lt_of_le hlt hB)).trans (hc i hi).2.2⟩⟩⟩
theorem OwnS.toks {w : World} {B n c : Nat} {A : Option Addr} {l : List Tok} (h : OwnK w B A n c l) : Toks w A n c l := by
  refine ⟨h.length (fun _ => rfl) (by decide), h.cap, fun hn => ?_⟩
  obtain ⟨g, hA, -, hgg, hc⟩ := h.get (fun _ => rfl) (by decide) ⟨0, 0, 0⟩ hn
  refine ⟨g, 0, hA, hgg, fun i hi => ⟨?_, ?_, ?_⟩⟩
  · have := hc i 0 (.int .i64 ((tG l i).len : Int)) hi rfl
    rw [Nat.zero_add]; rwa [Nat.add_zero] at this
  · rw [Nat.zero_add]; exact hc i 1 (.int .i64 ((tG l i).dst : Int)) hi rfl
  · rw [Nat.zero_add]; exact hc i 2 (.int .u8 ((tG l i).byt.toNat : Int)) hi rfl
theorem lchk_any (t : Tok) (before : Nat) (w : World) (ht : TokLim t) (hbf : before ≤ 1000000) : Calls Tryz.prog 159 #[.agg (tokV t), .int .i64 (before : Int)] w fun e w' => e = .returned (.int .i64 (chkT t before)) ∧ Below w.heap.size w w' := by
  obtain ⟨w1, hw1⟩ : ∃ w1, w1 = w.alloc (.cells (tokV t) 180) := ⟨_, rfl⟩
  have hb1 : Below w.heap.size w w1 := by rw [hw1]; exact balloc (Below.refl _ _) _
  have r1 : rowV w1 w.heap.size 180 (tokV t) := by rw [hw1]; exact rowV.new w _ _
  obtain ⟨k0, k1, k2⟩ := tok_cells t w
  have HR := right_any t w1 ht
  have HB1 := Lib.hid hb1
  have R1 := Lib.hid r1
  have HW1 := Lib.hid hw1
  have hc : chkT t before = if rightT t = false then 3 else if before < t.dst then 2 else if 65536 < before + tsz t then 5 else 0 := rfl
  have HZ := Lib.hid (fun W => lsize_any t W ht)
  obtain ⟨t1, t2⟩ := ht
  have hts : tsz t ≤ 1000001 := by unfold tsz; omega
  obtain ⟨sz, hsz⟩ : ∃ sz, sz = tsz t := ⟨_, rfl⟩
  rw [← hsz] at HZ hc hts
  clear hb1 r1 hw1 hsz
  cases hrt : rightT t with
  | false =>
    rw [hrt, if_pos rfl] at hc
    rw [hrt] at HR
    replace HR := Lib.hid HR
    have HC := Lib.hid hc
    clear hc hrt
    unfold tokV at *
    go_enter Tryz.func159, Tryz.ntmps159
    go_wp2_with fail
    rw [← HW1.out]
    refine HR.out.mono ?_
    rintro e w2 ⟨rfl, hb2⟩
    have HB2 := Lib.hid (HB1.out.trans (hb2.mono HB1.out.size))
    clear hb2
    go_wp2_with fail
    go_ret
    rw [HC.out]
    exact ⟨rfl, HB2.out⟩
  | true =>
    rw [hrt, if_neg (by decide)] at hc
    rw [hrt] at HR
    replace HR := Lib.hid HR
    by_cases h1 : before < t.dst
    · rw [if_pos h1] at hc
      have HC := Lib.hid hc
      have d1 : decide ((before : Int) < (t.dst : Int)) = true := decide_eq_true (by omega)
      have d1' : decide (before < t.dst) = true := decide_eq_true h1
      clear hc hrt h1
      unfold tokV at *
      go_enter Tryz.func159, Tryz.ntmps159
      go_wp2_with fail
      rw [← HW1.out]
      refine HR.out.mono ?_
      rintro e w2 ⟨rfl, hb2⟩
      have HB2 := Lib.hid (HB1.out.trans (hb2.mono HB1.out.size))
      have y1 : w2.cell? ⟨w.heap.size, 1, none⟩ = some (.int .i64 (t.dst : Int)) := (R1.out.below hb2 R1.out.lt).cell rfl
      clear hb2
      go_wp2_with fail
      go_ret
      rw [HC.out]
      exact ⟨rfl, HB2.out⟩
    · rw [if_neg h1] at hc
      have d1 : decide ((before : Int) < (t.dst : Int)) = false := decide_eq_false (by omega)
      have d1' : decide (before < t.dst) = false := decide_eq_false h1
      have fin : ∀ (bb : Bool) (v : Int), decide ((65536 : Int) < (before : Int) + (sz : Int)) = bb → chkT t before = v → v = (if bb then 5 else 0) → Calls Tryz.prog 159 #[.agg (tokV t), .int .i64 (before : Int)] w fun e w' => e = .returned (.int .i64 (chkT t before)) ∧ Below w.heap.size w w' := by
        intro bb v d2 hv hvb
        rw [hv]
        clear hc hrt h1 hv
        cases bb with
        | true =>
          obtain rfl : v = 5 := hvb
          unfold tokV at *
          go_enter Tryz.func159, Tryz.ntmps159
          go_wp2_with fail
          rw [← HW1.out]
          refine HR.out.mono ?_
          rintro e w2 ⟨rfl, hb2⟩
          have HB2 := Lib.hid (HB1.out.trans (hb2.mono HB1.out.size))
          have y0 : w2.cell? ⟨w.heap.size, 0, none⟩ = some (.int .i64 (t.len : Int)) := (R1.out.below hb2 R1.out.lt).cell rfl
          have y1 : w2.cell? ⟨w.heap.size, 1, none⟩ = some (.int .i64 (t.dst : Int)) := (R1.out.below hb2 R1.out.lt).cell rfl
          have y2 : w2.cell? ⟨w.heap.size, 2, none⟩ = some (.int .u8 (t.byt.toNat : Int)) := (R1.out.below hb2 R1.out.lt).cell rfl
          clear hb2
          go_wp2_with fail
          refine (HZ.out w2).mono ?_
          rintro e w3 ⟨rfl, hb3⟩
          have HB3 := Lib.hid (HB2.out.trans (hb3.mono HB2.out.size))
          clear hb3
          go_wp2_with fail
          go_ret
          exact ⟨rfl, HB3.out⟩
        | false =>
          obtain rfl : v = 0 := hvb
          unfold tokV at *
          go_enter Tryz.func159, Tryz.ntmps159
          go_wp2_with fail
          rw [← HW1.out]
          refine HR.out.mono ?_
          rintro e w2 ⟨rfl, hb2⟩
          have HB2 := Lib.hid (HB1.out.trans (hb2.mono HB1.out.size))
          have y0 : w2.cell? ⟨w.heap.size, 0, none⟩ = some (.int .i64 (t.len : Int)) := (R1.out.below hb2 R1.out.lt).cell rfl
          have y1 : w2.cell? ⟨w.heap.size, 1, none⟩ = some (.int .i64 (t.dst : Int)) := (R1.out.below hb2 R1.out.lt).cell rfl
          have y2 : w2.cell? ⟨w.heap.size, 2, none⟩ = some (.int .u8 (t.byt.toNat : Int)) := (R1.out.below hb2 R1.out.lt).cell rfl
          clear hb2
          go_wp2_with fail
          refine (HZ.out w2).mono ?_
          rintro e w3 ⟨rfl, hb3⟩
          have HB3 := Lib.hid (HB2.out.trans (hb3.mono HB2.out.size))
          clear hb3
          go_wp2_with fail
          go_ret
          exact ⟨rfl, HB3.out⟩
      by_cases h2 : 65536 < before + sz
      · rw [if_pos h2] at hc
        exact fin true 5 (decide_eq_true (by omega)) hc rfl
      · rw [if_neg h2] at hc
        exact fin false 0 (decide_eq_false (by omega)) hc rfl
theorem tdrop {l : List Tok} {k : Nat} (h : k < l.length) : l.drop k = tG l k :: l.drop (k + 1) := by
  rw [List.drop_eq_getElem_cons h]; unfold tG; rw [List.getD_eq_getElem?_getD, List.getElem?_eq_getElem h]; rfl
theorem lcheck_any (A : Option Addr) (n c : Nat) (l : List Tok) (w : World) (hx : Toks w A n c l) (hl : ∀ t ∈ l, TokLim t) (hn : n ≤ 1000000000) : Calls Tryz.prog 154 #[.slice A n c] w fun e w' => e = .returned (.int .i64 (chkL l)) ∧ Below w.heap.size w w' := by
  have hln := hx.1
  by_cases h6 : 65536 < n
  · have HC : Hid (chkL l = 6) := by show _ = _; unfold chkL; rw [hln, if_pos h6]
    have d0 : decide ((65536 : Int) < (n : Int)) = true := decide_eq_true (by omega)
    have d0' : decide (65536 < n) = true := decide_eq_true h6
    clear h6 hx
    go_enter Tryz.func154, Tryz.ntmps154
    go_wp2_with fail
    go_ret
    rw [HC.out]
    exact ⟨rfl, Below.refl _ _⟩
  · have HC : Hid (chkL l = chkF l 0) := by show _ = _; unfold chkL; rw [hln, if_neg h6]
    have d0 : decide ((65536 : Int) < (n : Int)) = false := decide_eq_false (by omega)
    have d0' : decide (65536 < n) = false := decide_eq_false h6
    have HX := Lib.hid hx
    have HL := Lib.hid hl
    rw [HC.out]
    clear h6 hx hl HC
    go_enter Tryz.func154, Tryz.ntmps154
    go_wp2_with fail
    go_loopw [3, 5, 6, 12] (fun nn _ _ i wr => ∃ k m : Nat, k ≤ n ∧ i = .int .i64 (k : Int) ∧ nn = .int .i64 (m : Int) ∧ m ≤ 65536 ∧ Hid (chkF (l.drop k) m = chkF l 0 ∧ Below w.heap.size w wr)) (fun _ _ _ i _ => n - (intOf i).toNat)
    case atStart => exact ⟨0, 0, Nat.zero_le _, rfl, rfl, Nat.zero_le _, Lib.hid ⟨rfl, Below.refl _ _⟩⟩
    case round =>
      obtain ⟨k, m, hk, rfl, rfl, hm, HI⟩ := hrel
      by_cases hlt : k < n
      · have d1 : decide ((k : Int) < (n : Int)) = true := decide_eq_true (by omega)
        have d1' : decide (k < n) = true := decide_eq_true hlt
        obtain ⟨b, off, rfl, hbl, hcc⟩ := (HX.out.below HI.out.2 (Nat.le_refl _)).2.2 (by omega)
        obtain ⟨x0, x1, x2⟩ := hcc k hlt
        have hkl : k < l.length := by omega
        have hlim := HL.out _ (tG_mem hkl)
        have hd := HI.out.1
        rw [tdrop hkl, chkF] at hd
        obtain ⟨t, ht⟩ : ∃ t, t = tG l k := ⟨_, rfl⟩
        rw [← ht] at x0 x1 x2 hlim hd
        obtain ⟨wa, hwa⟩ : ∃ wa, wa = wr.alloc (.cells (tokV t) 180) := ⟨_, rfl⟩
        have hba : Below wr.heap.size wr wa := by rw [hwa]; exact balloc (Below.refl _ _) _
        have ra : rowV wa wr.heap.size 180 (tokV t) := by rw [hwa]; exact rowV.new wr _ _
        have z0 : wa.cell? ⟨wr.heap.size, 0, none⟩ = some (.int .i64 (t.len : Int)) := ra.cell rfl
        have z1 : wa.cell? ⟨wr.heap.size, 1, none⟩ = some (.int .i64 (t.dst : Int)) := ra.cell rfl
        have z2 : wa.cell? ⟨wr.heap.size, 2, none⟩ = some (.int .u8 (t.byt.toNat : Int)) := ra.cell rfl
        rw [hwa] at z0 z1 z2
        have HK := Lib.hid (lchk_any t m wa hlim (by omega))
        have HZ := Lib.hid (fun W => lsize_any t W hlim)
        have hts : tsz t ≤ 1000001 := by have := hlim.1; unfold tsz; omega
        have RA := Lib.hid ra
        have HBA := Lib.hid (HI.out.2.trans (hba.mono HI.out.2.size))
        have HWA := Lib.hid hwa
        by_cases hc0 : chkT t m = 0
        · rw [if_pos hc0] at hd
          have hm2 : m + tsz t ≤ 65536 := by
            unfold chkT at hc0
            split at hc0
            · cases hc0
            · split at hc0
              · cases hc0
              · split at hc0
                · cases hc0
                · omega
          rw [hc0] at HK
          have HD := Lib.hid hd
          obtain ⟨sz, hsz⟩ : ∃ sz, sz = tsz t := ⟨_, rfl⟩
          rw [← hsz] at HZ HD hm2 hts
          clear hd hc0 hsz ra hba hwa ht hlim hcc
          go_wp2_with (refine wpList_store_new rfl 180 (.tmp 5) (.tmp 15) rfl (tokV t) 180 _ rfl rfl (tokV_info t) rfl (tokV_all t) ?_)
          rw [← HWA.out]
          refine HK.out.mono ?_
          rintro e w3 ⟨rfl, hb3⟩
          have R3 := RA.out.below hb3 RA.out.lt
          have v0 : w3.cell? ⟨wr.heap.size, 0, none⟩ = some (.int .i64 (t.len : Int)) := R3.cell rfl
          have v1 : w3.cell? ⟨wr.heap.size, 1, none⟩ = some (.int .i64 (t.dst : Int)) := R3.cell rfl
          have v2 : w3.cell? ⟨wr.heap.size, 2, none⟩ = some (.int .u8 (t.byt.toNat : Int)) := R3.cell rfl
          have HB3 := Lib.hid (HBA.out.trans (hb3.mono HBA.out.size))
          clear hb3 R3 z0 z1 z2
          go_wp2_with fail
          refine (HZ.out w3).mono ?_
          rintro e w4 ⟨rfl, hb4⟩
          have HB4 := Lib.hid (HB3.out.trans (hb4.mono HB3.out.size))
          clear hb4
          go_wp2_with fail
          go_roundw
          case rel => exact ⟨k + 1, m + sz, by omega, by go_num, by go_num, hm2, Lib.hid ⟨HD.out, HB4.out⟩⟩
          case measure => (simp [intOf]) <;> omega
        · rw [if_neg hc0] at hd
          have q0 : (chkT t m == 0) = false := by simpa using hc0
          obtain ⟨er, her⟩ : ∃ er, er = chkT t m := ⟨_, rfl⟩
          rw [← her] at HK hd q0 hc0
          have HD := Lib.hid hd
          clear hd ra hba hwa ht hlim hcc her hts
          go_wp2_with (refine wpList_store_new rfl 180 (.tmp 5) (.tmp 15) rfl (tokV t) 180 _ rfl rfl (tokV_info t) rfl (tokV_all t) ?_)
          rw [← HWA.out]
          refine HK.out.mono ?_
          rintro e w3 ⟨rfl, hb3⟩
          have HB3 := Lib.hid (HBA.out.trans (hb3.mono HBA.out.size))
          clear hb3 z0 z1 z2
          go_wp2_with fail
          go_ret
          rw [← HD.out]
          exact ⟨rfl, HB3.out⟩
      · obtain rfl : n = k := by omega
        have d1 : decide ((n : Int) < (n : Int)) = false := by simp
        have HD : Hid (chkF l 0 = 0) := by show _ = _; rw [← HI.out.1, List.drop_of_length_le (by omega)]; rfl
        go_wp2_with fail
        go_ret
        rw [HD.out]
        exact ⟨rfl, HI.out.2⟩
theorem sumP_next {l : List Tok} {k : Nat} (h : k < l.length) : sumP (l.take (k + 1)) = sumP (l.take k) + priT (tG l k) := by
  have e : tG l k = l[k] := by unfold tG; rw [List.getD_eq_getElem?_getD, List.getElem?_eq_getElem h]; rfl
  unfold sumP
  rw [List.take_succ_eq_append_getElem h, List.map_append, List.sum_append, e]
  simp
theorem sumP_bnd (l : List Tok) : 0 ≤ sumP l ∧ sumP l ≤ 41 * (l.length : Int) := by
  induction l with
  | nil => exact ⟨Int.le_refl _, Int.le_refl _⟩
  | cons t r ih =>
    have h1 := pri_lo t
    have h2 := pri_hi t
    unfold sumP at ih ⊢
    rw [List.map_cons, List.sum_cons, List.length_cons]
    omega
theorem bitsL_next {l : List Tok} {k : Nat} (h : k < l.length) : bitsL (l.take (k + 1)) = bitsL (l.take k) ++ tokB (tG l k) := by
  have e : tG l k = l[k] := by unfold tG; rw [List.getD_eq_getElem?_getD, List.getElem?_eq_getElem h]; rfl
  rw [List.take_succ_eq_append_getElem h, bitsL_append, e]
  simp [bitsL]
theorem bits_take (l : List Tok) (h : ∀ t ∈ l, rightT t = true) (k : Nat) : ((bitsL (l.take k)).length : Int) ≤ sumP l := by
  have h1 := bits_price (l.take k) fun t ht => h t (List.mem_of_mem_take ht)
  have h2 : sumP l = sumP (l.take k) + sumP (l.drop k) := by
    unfold sumP
    conv => lhs; rw [← List.take_append_drop k l]
    rw [List.map_append, List.sum_append]
  have h3 := (sumP_bnd (l.drop k)).1
  omega
theorem encode_any (A : Option Addr) (n c : Nat) (l : List Tok) (w : World) (hx : Toks w A n c l) (hl : ∀ t ∈ l, TokLim t) (hn : n ≤ 1000000000) : Calls Tryz.prog 86 #[.slice A n c] w (RetBytes w (encT l).1 (encT l).2) := by
  have hln := hx.1
  have hck := lcheck_any A n c l w hx hl hn
  by_cases h0 : chkL l = 0
  · rw [h0] at hck
    have HCK := Lib.hid hck
    have hE : encT l = if 524288 < sumP l then ([], 5) else (pack (bitsL l), 0) := by unfold encT; rw [if_pos h0]
    have hn6 : n ≤ 65536 := by
      unfold chkL at h0
      split at h0
      · cases h0
      · omega
    have hF : chkF l 0 = 0 := by unfold chkL at h0; rw [if_neg (by omega)] at h0; exact h0
    have hR := chkF_right l 0 hF
    have HE := Lib.hid hE
    have HX := Lib.hid hx
    have HL := Lib.hid hl
    have HR := Lib.hid hR
    have hsb := sumP_bnd l
    have hbt := bits_take l hR
    have HBT := Lib.hid hbt
    clear hck h0 hE hF hR hx hl hbt
    go_enter Tryz.func86, Tryz.ntmps86
    go_wp2_with fail
    refine HCK.out.mono ?_
    rintro e w1 ⟨rfl, hb1⟩
    have HB1 := Lib.hid hb1
    clear hb1 HCK
    go_wp2_with fail
    go_loopw [5, 7, 18] (fun s _ i wr => ∃ k : Nat, k ≤ n ∧ i = .int .i64 (k : Int) ∧ s = .int .i64 (sumP (l.take k)) ∧ Hid (Below w.heap.size w wr)) (fun _ _ i _ => n - (intOf i).toNat)
    case atStart => exact ⟨0, Nat.zero_le _, rfl, rfl, HB1⟩
    case round =>
      obtain ⟨k, hk, rfl, rfl, HB⟩ := hrel
      by_cases hlt : k < n
      · have d1 : decide ((k : Int) < (n : Int)) = true := decide_eq_true (by omega)
        have d1' : decide (k < n) = true := decide_eq_true hlt
        obtain ⟨b, off, rfl, hbl, hcc⟩ := (HX.out.below HB.out (Nat.le_refl _)).2.2 (by omega)
        obtain ⟨x0, x1, x2⟩ := hcc k hlt
        have hkl : k < l.length := by omega
        have hlim := HL.out _ (tG_mem hkl)
        have hsn := sumP_next hkl
        have hs1 := sumP_bnd (l.take k)
        have htl : (l.take k).length ≤ n := by rw [List.length_take]; omega
        have hp1 := pri_lo (tG l k)
        have hp2 := pri_hi (tG l k)
        obtain ⟨t, ht⟩ : ∃ t, t = tG l k := ⟨_, rfl⟩
        rw [← ht] at x0 x1 x2 hlim hsn hp1 hp2
        obtain ⟨wa, hwa⟩ : ∃ wa, wa = wr.alloc (.cells (tokV t) 180) := ⟨_, rfl⟩
        have hba : Below wr.heap.size wr wa := by rw [hwa]; exact balloc (Below.refl _ _) _
        have ra : rowV wa wr.heap.size 180 (tokV t) := by rw [hwa]; exact rowV.new wr _ _
        have z0 : wa.cell? ⟨wr.heap.size, 0, none⟩ = some (.int .i64 (t.len : Int)) := ra.cell rfl
        have z1 : wa.cell? ⟨wr.heap.size, 1, none⟩ = some (.int .i64 (t.dst : Int)) := ra.cell rfl
        have z2 : wa.cell? ⟨wr.heap.size, 2, none⟩ = some (.int .u8 (t.byt.toNat : Int)) := ra.cell rfl
        rw [hwa] at z0 z1 z2
        have HP := Lib.hid (price_any t wa hlim)
        have HBA := Lib.hid (HB.out.trans (hba.mono HB.out.size))
        have HWA := Lib.hid hwa
        obtain ⟨pr, hpr⟩ : ∃ pr, pr = priT t := ⟨_, rfl⟩
        obtain ⟨sk, hsk⟩ : ∃ sk, sk = sumP (l.take k) := ⟨_, rfl⟩
        rw [← hpr] at HP hsn hp1 hp2
        rw [← hsk] at hsn hs1 ⊢
        have HSN := Lib.hid hsn
        have hsb2 : 0 ≤ sk ∧ sk ≤ 2700000 := by omega
        clear ra hba hwa ht hlim hcc hsn hs1 htl hpr hsk
        go_wp2_with (refine wpList_store_new rfl 180 (.tmp 7) (.tmp 21) rfl (tokV t) 180 _ rfl rfl (tokV_info t) rfl (tokV_all t) ?_)
        rw [← HWA.out]
        refine HP.out.mono ?_
        rintro e w3 ⟨rfl, hb3⟩
        have HB3 := Lib.hid (HBA.out.trans (hb3.mono HBA.out.size))
        clear hb3 z0 z1 z2
        go_wp2_with fail
        go_roundw
        case rel => exact ⟨k + 1, by omega, by go_num, by rw [HSN.out], HB3⟩
        case measure => (simp [intOf]) <;> omega
      · obtain rfl : n = k := by omega
        obtain ⟨wo, rfl⟩ : ∃ wo, wo = wr := ⟨wr, rfl⟩
        have d1 : decide ((n : Int) < (n : Int)) = false := by simp
        have htk : l.take n = l := List.take_of_length_le (by omega)
        rw [htk]
        have HTK := Lib.hid htk
        clear htk
        by_cases hbig : 524288 < sumP l
        · have d2 : decide (524288 < sumP l) = true := decide_eq_true hbig
          have HE2 : Hid (encT l = ([], 5)) := by show _ = _; rw [HE.out, if_pos hbig]
          clear hbig
          go_wp2_with fail
          go_ret2
          rw [HE2.out]
          exact RetBytes.err rfl HB.out
        · have d2 : decide (524288 < sumP l) = false := decide_eq_false hbig
          have HE2 : Hid (encT l = (pack (bitsL l), 0)) := by show _ = _; rw [HE.out, if_neg hbig]
          have HBB : Hid (∀ k, (bitsL (l.take k)).length ≤ 524288) := fun k => by have := HBT.out k; omega
          obtain ⟨w5, hw5⟩ : ∃ w5, w5 = wo.alloc (.cells #[.slice none 0 0, .int .i64 0, .int .i64 0] 186) := ⟨_, rfl⟩
          have hb5 : Below wo.heap.size wo w5 := by rw [hw5]; exact balloc (Below.refl _ _) _
          have r5 : rowV w5 wo.heap.size 186 #[.slice none 0 0, .int .i64 0, .int .i64 0] := by rw [hw5]; exact rowV.new wo _ _
          have hp0 : pack (bitsL (l.take 0)) = [] := by rw [List.take_zero]; rfl
          have hp1 : (bitsL (l.take 0)).length = 0 := by rw [List.take_zero]; rfl
          have hst : StB wo.heap.size w5 wo.heap.size (bitsL (l.take 0)) := ⟨none, 0, 0, ⟨by rw [hp1]; exact r5, by rw [hp0]; exact Own.nil _ _ _ _, Nat.le_refl _, hb5.size⟩⟩
          obtain ⟨g, hg⟩ : ∃ g, g = wo.heap.size := ⟨_, rfl⟩
          rw [← hg] at hst hb5
          have hwg : w.heap.size ≤ g := by rw [hg]; exact HB.out.size
          have HI5 : Hid (StB g w5 g (bitsL (l.take 0)) ∧ Below g wo w5) := ⟨hst, hb5⟩
          have HW5 := Lib.hid hw5
          have HG := Lib.hid hg
          have HWG := Lib.hid hwg
          clear hw5 hb5 r5 hst hbig hp0 hp1 hg
          go_wp2_with fail
          rw [← HW5.out, ← HG.out]
          go_loopw [10, 33] (fun _ i wr => ∃ k : Nat, k ≤ n ∧ i = .int .i64 (k : Int) ∧ Hid (StB g wr g (bitsL (l.take k)) ∧ Below g wo wr)) (fun _ i _ => n - (intOf i).toNat)
          case atStart => exact ⟨0, Nat.zero_le _, rfl, HI5⟩
          case round =>
            obtain ⟨k, hk, rfl, HI⟩ := hrel
            have hbw : Below w.heap.size w wr := HB.out.trans (HI.out.2.mono HWG.out)
            by_cases hlt : k < n
            · have d3 : decide ((k : Int) < (n : Int)) = true := decide_eq_true (by omega)
              have d3' : decide (k < n) = true := decide_eq_true hlt
              obtain ⟨b, off, rfl, hbl, hcc⟩ := (HX.out.below hbw (Nat.le_refl _)).2.2 (by omega)
              obtain ⟨x0, x1, x2⟩ := hcc k hlt
              have hkl : k < l.length := by omega
              have hlim := HL.out _ (tG_mem hkl)
              have hrt := HR.out _ (tG_mem hkl)
              have hbn := bitsL_next hkl
              obtain ⟨t, ht⟩ : ∃ t, t = tG l k := ⟨_, rfl⟩
              rw [← ht] at x0 x1 x2 hlim hbn hrt
              obtain ⟨wa, hwa⟩ : ∃ wa, wa = wr.alloc (.cells (tokV t) 180) := ⟨_, rfl⟩
              have hba : Below wr.heap.size wr wa := by rw [hwa]; exact balloc (Below.refl _ _) _
              have ra : rowV wa wr.heap.size 180 (tokV t) := by rw [hwa]; exact rowV.new wr _ _
              have z0 : wa.cell? ⟨wr.heap.size, 0, none⟩ = some (.int .i64 (t.len : Int)) := ra.cell rfl
              have z1 : wa.cell? ⟨wr.heap.size, 1, none⟩ = some (.int .i64 (t.dst : Int)) := ra.cell rfl
              have z2 : wa.cell? ⟨wr.heap.size, 2, none⟩ = some (.int .u8 (t.byt.toNat : Int)) := ra.cell rfl
              rw [hwa] at z0 z1 z2
              have HT := Lib.hid (stoken_any g g t (bitsL (l.take k)) wa (HI.out.1.grow hba) hrt hlim (by have := HBB.out k; omega))
              have HBA : Hid (Below g wo wa) := HI.out.2.trans (hba.mono (Nat.le_of_lt HI.out.1.lt.1))
              have HWA := Lib.hid hwa
              have HBN := Lib.hid hbn
              clear ra hba hwa ht hlim hcc hrt hbn hbw
              go_wp2_with (refine wpList_store_new rfl 180 (.tmp 10) (.tmp 36) rfl (tokV t) 180 _ rfl rfl (tokV_info t) rfl (tokV_all t) ?_)
              rw [← HWA.out]
              refine HT.out.mono ?_
              rintro e w6 ⟨rfl, hs6, hk6⟩
              have HF : Hid (StB g w6 g (bitsL (l.take (k + 1))) ∧ Below g wo w6) := ⟨by rw [HBN.out]; exact hs6, HBA.out.trans hk6.below⟩
              clear hs6 hk6 z0 z1 z2
              go_wp2_with fail
              go_roundw
              case rel => exact ⟨k + 1, by omega, by go_num, HF⟩
              case measure => (simp [intOf]) <;> omega
            · obtain rfl : n = k := by omega
              have d3 : decide ((n : Int) < (n : Int)) = false := by simp
              obtain ⟨⟨A5, m5, c5, hst5⟩, hb5⟩ := HI.out
              rw [HTK.out] at hst5
              have y0 : wr.cell? ⟨g, 0, none⟩ = some (.slice A5 m5 c5) := hst5.row.cell rfl
              have HFB := Lib.hid hst5.own.bytesB
              have HBW := Lib.hid hbw
              clear hst5 hb5 hbw
              go_wp2_with fail
              go_ret2
              rw [HE2.out]
              exact RetBytes.mk rfl HFB.out HBW.out
  · have hE : encT l = ([], chkL l) := by unfold encT; rw [if_neg h0]
    have HE := Lib.hid hE
    have q0 : (chkL l == 0) = false := by simpa using h0
    obtain ⟨er, her⟩ : ∃ er, er = chkL l := ⟨_, rfl⟩
    rw [← her] at hck q0 h0 HE
    have HCK := Lib.hid hck
    clear hck hE her hx hl
    go_enter Tryz.func86, Tryz.ntmps86
    go_wp2_with fail
    refine HCK.out.mono ?_
    rintro e w1 ⟨rfl, hb1⟩
    have HB1 := Lib.hid hb1
    clear hb1
    go_wp2_with fail
    go_ret2
    rw [HE.out]
    exact RetBytes.err rfl HB1.out
theorem opt_lim {bs : List UInt8} : ∀ (d i : Nat), bs.length - i = d → ∀ t ∈ optF bs i, TokLim t := by
  intro d
  induction d using Nat.strongRecOn with
  | _ d ih =>
    intro i hd t ht
    by_cases h : i < bs.length
    · rw [optF_more h, List.mem_cons] at ht
      have h4 := tsz_pos (stepAt bs i)
      rcases ht with rfl | ht
      · exact tok_lim (step_at h)
      · exact ih _ (by omega) _ rfl t ht
    · rw [optF_end (by omega)] at ht; cases ht
theorem lzF_any (A : Option Addr) (n c : Nat) (bs : List UInt8) (w : World) (hx : Bytes w A n c bs) (hn : n ≤ 1000000000) :
    Calls Tryz.prog 37 #[.slice A n c] w (RetBytes w (lzF bs).1 (lzF bs).2) := by
  have hl := hx.1
  by_cases h6 : 65536 < n
  · have HR : Hid (lzF bs = ([], 5)) := by show _ = _; unfold lzF; rw [hl, if_pos h6]
    have HO := Lib.hid (optimal_long A n c w h6 hn)
    rw [HR.out]
    clear h6 hx
    go_enter Tryz.func37, Tryz.ntmps37
    go_wp2_with fail
    refine HO.out.mono ?_
    rintro e w1 ⟨rfl, hw⟩
    obtain rfl : w = w1 := hw.symm
    go_wp2_with fail
    go_ret2
    exact RetBytes.err rfl (Below.refl _ _)
  · have HR : Hid (lzF bs = encT (optL bs)) := by show _ = _; unfold lzF; rw [hl, if_neg h6]
    have HO := Lib.hid (optimal_any A n c bs w hx (by omega))
    rw [HR.out]
    have hlim : ∀ t ∈ optL bs, TokLim t := opt_lim _ 0 rfl
    have hlen : (optL bs).length ≤ 65536 := by have := (optF_check (bs := bs) (by omega) _ 0 rfl).2; unfold optL; omega
    obtain ⟨r, hr⟩ : ∃ r, r = encT (optL bs) := ⟨_, rfl⟩
    have HE := Lib.hid (fun A n c W hW hn => encode_any A n c (optL bs) W hW hlim hn)
    rw [← hr] at HE ⊢
    clear h6 hx hlim hr
    go_enter Tryz.func37, Tryz.ntmps37
    go_wp2_with fail
    refine HO.out.mono ?_
    rintro e w1 ⟨A1, m1, c1, rfl, ho1, hb1⟩
    have hm1 := ho1.length (fun _ => rfl) (by decide)
    have HT := Lib.hid (HE.out A1 m1 c1 w1 ho1.toks (by omega))
    have HB := Lib.hid hb1
    clear ho1 hb1
    go_wp2_with fail
    refine HT.out.mono ?_
    rintro e w2 ⟨A2, n2, c2, rfl, hx2, hb2⟩
    have HF := Lib.hid (And.intro hx2 (HB.out.trans (hb2.mono HB.out.size)))
    clear hx2 hb2
    go_wp2_with fail
    go_ret2
    exact RetBytes.mk rfl HF.out.1 HF.out.2
theorem lzF_length {bs : List UInt8} : (lzF bs).1.length ≤ 65536 := by
  unfold lzF
  split
  · exact Nat.zero_le _
  · unfold encT
    split
    · rename_i h6 hck
      split
      · exact Nat.zero_le _
      · rename_i h5
        have hcF : chkF (optL bs) 0 = 0 := (optF_check (by omega) _ 0 rfl).1
        have hb := bits_price (optL bs) (chkF_right _ _ hcF)
        show (pack (bitsL (optL bs))).length ≤ _
        rw [pack_length]
        omega
    · exact Nat.zero_le _
end Go.Proofs.YtohadkmaemmfgaaGreatDoor

/- Oe Of Og Oh. -/
import Derived.Test.YtckkmafppfcecaaGreatDoorRN23
import Derived.Test.YtckkmafppfcecaaGreatDoorRN16
import Derived.BigQuiet
set_option maxRecDepth 100000
set_option maxHeartbeats 4000000
namespace Go.Proofs.YtckkmafppfcecaaGreatDoor
open Go.RowKit Go.Proofs
set_option linter.unusedVariables false
set_option linter.unusedSimpArgs false
attribute [local go_sem] Oper.semAt_some
theorem bchk_any (A : Option Addr) (n c : Nat) (w : World) (hn : n ≤ 65536) :
    Calls Tryz.prog 308 #[.agg #[.slice A n c, .int .i64 ((8 * n : Nat) : Int)]] w fun e w' => e = .returned (.int .i64 0) ∧ Below w.heap.size w w' := by
  obtain ⟨N, hN⟩ : ∃ N, N = 8 * n := ⟨_, rfl⟩
  rw [← hN]
  have hN2 : N ≤ 524288 := by omega
  have t1 : ((N : Int) + 7).tdiv 8 = (n : Int) := by rw [Int.tdiv_eq_ediv_of_nonneg (by omega)]; omega
  have t2 : (N : Int).tmod 8 = 0 := by rw [Int.tmod_eq_emod_of_nonneg (by omega)]; omega
  have t3 : (N : Int) % 8 = 0 := by omega
  have t4 : ((N : Int) + 7) / 8 = (n : Int) := by omega
  have d0 : decide ((N : Int) < 0) = false := decide_eq_false (by omega)
  have d1 : decide ((524288 : Int) < (N : Int)) = false := decide_eq_false (by omega)
  have d1' : decide (524288 < N) = false := decide_eq_false (by omega)
  have q0 : ((n : Int) == (n : Int)) = true := beq_self_eq_true _
  obtain ⟨w1, hw1⟩ : ∃ w1, w1 = w.alloc (.cells #[.slice A n c, .int .i64 (N : Int)] 227) := ⟨_, rfl⟩
  have r1 : rowV w1 w.heap.size 227 #[.slice A n c, .int .i64 (N : Int)] := by rw [hw1]; exact rowV.new w _ _
  have hb : Below w.heap.size w w1 := by rw [hw1]; exact balloc (Below.refl _ _) _
  have c0 := r1.cell (j := 0) rfl
  have c1 := r1.cell (j := 1) rfl
  rw [hw1] at c0 c1
  have HB := Lib.hid hb
  have HW := Lib.hid hw1
  clear r1 hb hw1 hN
  go_enter Tryz.func308, Tryz.ntmps308
  go_wp2_with fail
  go_quiet (fail)
  go_wp2_with fail
  go_ret
  rw [← HW.out]
  exact ⟨rfl, HB.out.trans ((Drawn.drewN _ _).below _)⟩
def TapeR (W : World) (b : Nat) (A : Option Addr) (n c : Nat) : Prop := rowV W b 332 #[.slice A n c, .int .i64 ((8 * n : Nat) : Int)]
theorem and_bit : ∀ (y : Fin 256) (r : Fin 8), (bits BinOp.and IntKind.u8 (y.val : Int) (128 / 2 ^ r.val) != 0) = y.val.testBit (7 - r.val) := by decide +kernel
theorem one_any (b : Nat) (A : Option Addr) (n c i : Nat) (bs : List UInt8) (w : World) (ht : TapeR w b A n c) (hx : Bytes w A n c bs) (hn : n ≤ 65536) (hi : i < 8 * n) :
    Calls Tryz.prog 332 #[.pointer (some ⟨b, 0, none⟩), .int .i64 (i : Int)] w fun e w' => e = .returned (.bool (bitD bs i)) ∧ Drawn w w' := by
  have c0 := ht.cell (j := 0) rfl
  have c1 := ht.cell (j := 1) rfl
  obtain ⟨bb, off, rfl, -, hc⟩ := hx.2.2 (by omega)
  have hcap := hx.2.1
  obtain ⟨q, hq⟩ : ∃ q, q = i / 8 := ⟨_, rfl⟩
  obtain ⟨r, hr⟩ : ∃ r, r = i % 8 := ⟨_, rfl⟩
  have hqn : q < n := by omega
  have hr8 : r < 8 := by omega
  have y0 : w.cell? ⟨bb, off + q, none⟩ = some (.int .u8 ((bA bs q).toNat : Int)) := hc q hqn
  have t1 : (i : Int).tdiv 8 = (q : Int) := by rw [Int.tdiv_eq_ediv_of_nonneg (by omega)]; omega
  have t2 : (i : Int).tmod 8 = (r : Int) := by rw [Int.tmod_eq_emod_of_nonneg (by omega)]; omega
  have t3 : (i : Int) / 8 = (q : Int) := by omega
  have t4 : (i : Int) % 8 = (r : Int) := by omega
  have HB : Hid (bitD bs i = (bA bs q).toNat.testBit (7 - r)) := by unfold Hid bitD; rw [hq, hr]
  have hylt := (bA bs q).toNat_lt
  obtain ⟨y, hy⟩ : ∃ y, y = (bA bs q).toNat := ⟨_, rfl⟩
  rw [← hy] at y0 HB hylt
  rw [HB.out]
  clear hc hq hr hy hx ht hi
  go_enter Tryz.func332, Tryz.ntmps332
  go_wp2
  go_quiet (fail)
  rw [and_bit ⟨y, hylt⟩ ⟨r, hr8⟩]
  go_wp2
  go_ret
  exact ⟨rfl, Drawn.drewN _ _⟩
theorem places_any (b : Nat) (i j : Int) (w : World) :
    Calls Tryz.prog 309 #[.pointer (some ⟨b, 0, none⟩), .int .i64 i, .int .i64 j] w fun e w' => e = .returned (.func (.func 331) #[] #[.pointer (some ⟨w.heap.size + 1, 0, none⟩), .pointer (some ⟨w.heap.size + 2, 0, none⟩), .pointer (some ⟨w.heap.size, 0, none⟩)]) ∧ w' = ((w.alloc (.cells #[.pointer (some ⟨b, 0, none⟩)] 330)).alloc (.cells #[.int .i64 i] 3)).alloc (.cells #[.int .i64 j] 3) := by
  go_enter Tryz.func309, Tryz.ntmps309
  go_wp2_with fail
  go_ret
  exact ⟨rfl, rfl⟩
def plKp (n0 b1 b2 b3 tb : Nat) (X Y : World) : Prop := Y.heap[b1]? = X.heap[b1]? ∧ Y.heap[b2]? = X.heap[b2]? ∧ Y.heap[b3]? = X.heap[b3]? ∧ Y.heap[tb]? = X.heap[tb]? ∧ Below n0 X Y
def PlI (w0 : World) (A : Option Addr) (n c i j b1 b2 b3 tb : Nat) (W : World) : Prop :=
  Boxed W b1 3 (.int .i64 (i : Int)) ∧ Boxed W b2 3 (.int .i64 (j : Int)) ∧ Boxed W b3 330 (.pointer (some ⟨tb, 0, none⟩)) ∧ TapeR W tb A n c ∧ Below w0.heap.size w0 W
section
variable {w0 W W' : World} {A : Option Addr} {n c i j b1 b2 b3 tb : Nat}
theorem PlI.kp (h : PlI w0 A n c i j b1 b2 b3 tb W) (hk : plKp w0.heap.size b1 b2 b3 tb W W') : PlI w0 A n c i j b1 b2 b3 tb W' :=
  ⟨hk.1.trans h.1, hk.2.1.trans h.2.1, hk.2.2.1.trans h.2.2.1, hk.2.2.2.1.trans h.2.2.2.1, h.2.2.2.2.trans hk.2.2.2.2⟩
theorem PlI.drawn (h : PlI w0 A n c i j b1 b2 b3 tb W) (hd : Drawn W W') : PlI w0 A n c i j b1 b2 b3 tb W' := by
  have hb := fun k => hd.below k
  exact h.kp ⟨(hb _).block _ (Nat.lt_succ_self _), (hb _).block _ (Nat.lt_succ_self _), (hb _).block _ (Nat.lt_succ_self _), (hb _).block _ (Nat.lt_succ_self _), hb _⟩
end
def bitRow (bs : List UInt8) (i k : Nat) : Array Value := #[.bool (bitD bs (i + k))]
theorem places1_gives (w0 : World) (A : Option Addr) (n c i j : Nat) (bs : List UInt8) (hx : Bytes w0 A n c bs) (hn : n ≤ 65536) (hij : i ≤ j) (hj : j ≤ 8 * n) (b1 b2 b3 tb : Nat) :
    Gives Tryz.prog 331 #[.pointer (some ⟨b1, 0, none⟩), .pointer (some ⟨b2, 0, none⟩), .pointer (some ⟨b3, 0, none⟩)] (bitRow bs i) (j - i) (fun X Y => Drawn X Y) (plKp w0.heap.size b1 b2 b3 tb)
      (PlI w0 A n c i j b1 b2 b3 tb) := by
  intro l J Jx W hI hJ hJx hY h0
  have HY := Lib.hid hY; clear hY
  have HX := Lib.hid hx
  have HI := Lib.hid hI
  have q1 := hI.1.cell
  refine callsIn_of_wp Tryz.func331 rfl trivial ?_ rfl
  simp only [Tryz.ntmps331, List.size_toArray, List.length_cons, List.length_nil, Nat.reduceAdd, Nat.reduceSub, Array.replicate_succ, Array.replicate_zero, List.push_toArray, List.append_toArray, List.nil_append, List.cons_append]
  clear hx hI
  gi_wp2
  gi_loopw [5] (fun iv wr => ∃ k : Nat, iv = .int .i64 ((i + k : Nat) : Int) ∧ k ≤ j - i ∧ J k wr ∧ Hid (PlI w0 A n c i j b1 b2 b3 tb wr)) (fun iv _ => j - (intOf iv).toNat)
  case atStart => exact ⟨0, rfl, Nat.zero_le _, h0, HI⟩
  case round =>
    obtain ⟨k, rfl, hk, hJk, HIk⟩ := hrel
    clear q1 h0 HI
    have q2 := HIk.out.2.1.cell
    have q3 := HIk.out.2.2.1.cell
    obtain ⟨p, hp⟩ : ∃ p, p = i + k := ⟨_, rfl⟩
    rw [← hp]
    have HP := Lib.hid hp
    have hpk : i ≤ p ∧ p ≤ j ∧ k = p - i := by omega
    clear hp
    by_cases hlt : p < j
    · have d0 : decide ((p : Int) < (j : Int)) = true := decide_eq_true (by omega)
      have d0' : decide (p < j) = true := decide_eq_true hlt
      have HC := Lib.hid (one_any tb A n c p bs wr HIk.out.2.2.2.1 (HX.out.below HIk.out.2.2.2.2) hn (by omega))
      have hkl : k < j - i := by omega
      gi_wp2
      refine ⟨trivial, ?_⟩
      refine (callsIn_wide.2 HC.out).mono ?_
      rintro e w1 ⟨rfl, hdr1⟩
      have hJ1 := hJ _ _ _ hJk hdr1
      have HI1 := Lib.hid (HIk.out.drawn hdr1)
      have hy0 := HY.out k w1 hkl hJ1
      unfold bitRow at hy0
      rw [← HP.out] at hy0
      obtain ⟨bv, hbv⟩ : ∃ bv, bv = bitD bs p := ⟨_, rfl⟩
      rw [← hbv] at hy0 ⊢
      clear hdr1 hJk hJ1 hbv q2 q3
      obtain ⟨fn, tmps, assign, body, hy, hR⟩ := hy0
      gi_wp2
      refine hR.mono ?_
      rintro e W3 (⟨rfl, hJ3, hk3⟩ | ⟨rfl, hJx3⟩)
      · have HI3 := Lib.hid (HI1.out.kp hk3)
        clear hR hy hk3
        gi_wp2
        go_roundw
        case rel => exact ⟨k + 1, by rw [← Nat.add_assoc, ← HP.out]; go_num, by omega, hJ3, HI3⟩
        case measure => (simp [intOf]) <;> omega
      · clear hR hy
        gi_wp2
        go_end0
        exact ⟨⟨_, rfl⟩, .inr ⟨k + 1, by omega, hJx3⟩⟩
    · have d0 : decide ((p : Int) < (j : Int)) = false := decide_eq_false (by omega)
      have d0' : decide (p < j) = false := decide_eq_false hlt
      gi_wp2
      refine ⟨trivial, ?_⟩
      gi_wp2
      refine ⟨fun f h => (by cases h), ?_⟩
      gi_wp2
      go_end0
      have hkl : k = j - i := by omega
      exact ⟨⟨_, rfl⟩, .inl (hkl ▸ hJk)⟩
end Go.Proofs.YtckkmafppfcecaaGreatDoor
namespace Go.Proofs.YtckkmafppfcecaaGreatDoor
open Go.RowKit Go.Proofs
set_option linter.unusedVariables false
set_option linter.unusedSimpArgs false
attribute [local go_sem] Oper.semAt_some
def rdV (g : Nat → Bool) (N i c : Nat) : Nat := if N < i + c then 0 else valB g i c
def rdE (N i c : Nat) : Int := if N < i + c then 9 else 0
theorem drawn_keeps {X Y : World} (B : Nat) (h : Drawn X Y) : KeepsFrom B X Y := by
  obtain ⟨k, rfl⟩ := h
  exact ⟨Nat.le_refl _, fun j o _ ho _ => ho⟩
structure RdI (tt : TypeId) (kd : IntKind) (w : World) (A : Option Addr) (n c i j S : Nat) (x : Nat) (W : World) : Prop where
  pl : PlI w A n c i j (S + 3) (S + 4) (S + 2) S W
  num : Boxed W (S + 1) tt (.int kd ((x : Nat) : Int))
  size : S + 5 ≤ W.heap.size
section
variable {tt : TypeId} {kd : IntKind} {w W W' : World} {A : Option Addr} {n c i j S x : Nat}
theorem RdI.kept {row : Option Nat} (hS : w.heap.size ≤ S) (h : RdI tt kd w A n c i j S x W) (hg : W.grownBy W' row) (hrow : ∀ r, row = some r → S + 5 ≤ r) : RdI tt kd w A n c i j S x W' := by
  have hsz := h.size
  have same : ∀ q, q < S + 5 → W'.heap[q]? = W.heap[q]? := fun q hq => hg.block q (by omega) (fun e => by have := hrow q e.symm; omega)
  exact ⟨h.pl.kp ⟨same _ (by omega), same _ (by omega), same _ (by omega), same _ (by omega), (Below.refl w.heap.size W).grown hg h.pl.2.2.2.2.size (fun r e => by have := hrow r e; omega)⟩, (same _ (by omega)).trans h.num, Nat.le_trans hsz hg.size⟩
theorem RdI.drawn (h : RdI tt kd w A n c i j S x W) (hd : Drawn W W') : RdI tt kd w A n c i j S x W' := by
  have hb := hd.below (W.heap.size + 1)
  exact ⟨h.pl.drawn hd, (hb.block _ (by have := h.size; omega)).trans h.num, Nat.le_trans h.size hb.size⟩
theorem RdI.put (hS : w.heap.size ≤ S) (h : RdI tt kd w A n c i j S x W) (x' : Nat) : RdI tt kd w A n c i j S x' (W.setCell ⟨S + 1, 0, none⟩ (.int kd ((x' : Nat) : Int))) ∧ KeepsFrom (S + 5) W (W.setCell ⟨S + 1, 0, none⟩ (.int kd ((x' : Nat) : Int))) ∧ plKp w.heap.size (S + 3) (S + 4) (S + 2) S W (W.setCell ⟨S + 1, 0, none⟩ (.int kd ((x' : Nat) : Int))) := by
  have oth : ∀ q, q ≠ S + 1 → (W.setCell ⟨S + 1, 0, none⟩ (.int kd ((x' : Nat) : Int))).heap[q]? = W.heap[q]? := fun q hq => Below.heap_setCell _ ⟨S + 1, 0, none⟩ _ q hq
  have hsz : (W.setCell ⟨S + 1, 0, none⟩ (.int kd ((x' : Nat) : Int))).heap.size = W.heap.size := by simp [World.setCell]
  have hkp : plKp w.heap.size (S + 3) (S + 4) (S + 2) S W (W.setCell ⟨S + 1, 0, none⟩ (.int kd ((x' : Nat) : Int))) := ⟨oth _ (by omega), oth _ (by omega), oth _ (by omega), oth _ (by omega), (Below.refl w.heap.size W).setCell (p := ⟨S + 1, 0, none⟩) (by show w.heap.size ≤ S + 1; omega) _⟩
  have h0 : rowV W (S + 1) tt #[.int kd ((x : Nat) : Int)] := h.num
  exact ⟨⟨h.pl.kp hkp, h0.set 0 _, by rw [hsz]; exact h.size⟩, ⟨by rw [hsz]; exact Nat.le_refl _, fun q o hq ho _ => (oth q (by omega)).trans ho⟩, hkp⟩
end
theorem rd_start {tt : TypeId} {kd : IntKind} {w w2 w3 : World} {A : Option Addr} {n c i j : Nat} (hb : Below w.heap.size w w2)
    (hw3 : w3 = ((((w2.alloc (.cells #[.slice A n c, .int .i64 ((8 * n : Nat) : Int)] 332)).alloc (.cells #[.int kd 0] tt)).alloc (.cells #[.pointer (some ⟨w2.heap.size, 0, none⟩)] 330)).alloc (.cells #[.int .i64 (i : Int)] 3)).alloc (.cells #[.int .i64 (j : Int)] 3)) :
    RdI tt kd w A n c i j w2.heap.size 0 w3 ∧ w3.heap.size = w2.heap.size + 5 := by
  obtain ⟨x1, h1⟩ : ∃ x, x = w2.alloc (.cells #[.slice A n c, .int .i64 ((8 * n : Nat) : Int)] 332) := ⟨_, rfl⟩
  obtain ⟨x2, h2⟩ : ∃ x, x = x1.alloc (.cells #[.int kd 0] tt) := ⟨_, rfl⟩
  obtain ⟨x3, h3⟩ : ∃ x, x = x2.alloc (.cells #[.pointer (some ⟨w2.heap.size, 0, none⟩)] 330) := ⟨_, rfl⟩
  obtain ⟨x4, h4⟩ : ∃ x, x = x3.alloc (.cells #[.int .i64 (i : Int)] 3) := ⟨_, rfl⟩
  rw [← h1, ← h2, ← h3, ← h4] at hw3
  have s1 : x1.heap.size = w2.heap.size + 1 := by rw [h1, World.size_alloc]
  have s2 : x2.heap.size = w2.heap.size + 2 := by rw [h2, World.size_alloc, s1]
  have s3 : x3.heap.size = w2.heap.size + 3 := by rw [h3, World.size_alloc, s2]
  have s4 : x4.heap.size = w2.heap.size + 4 := by rw [h4, World.size_alloc, s3]
  have s5 : w3.heap.size = w2.heap.size + 5 := by rw [hw3, World.size_alloc, s4]
  have g1 : Below w2.heap.size w2 x1 := by rw [h1]; exact balloc (Below.refl _ _) _
  have g2 : Below x1.heap.size x1 x2 := by rw [h2]; exact balloc (Below.refl _ _) _
  have g3 : Below x2.heap.size x2 x3 := by rw [h3]; exact balloc (Below.refl _ _) _
  have g4 : Below x3.heap.size x3 x4 := by rw [h4]; exact balloc (Below.refl _ _) _
  have g5 : Below x4.heap.size x4 w3 := by rw [hw3]; exact balloc (Below.refl _ _) _
  have r1 : rowV x1 w2.heap.size 332 #[.slice A n c, .int .i64 ((8 * n : Nat) : Int)] := by rw [h1]; exact rowV.new w2 _ _
  have r2 : rowV x2 (w2.heap.size + 1) tt #[.int kd 0] := by have := rowV.new x1 tt #[.int kd 0]; rw [s1] at this; rw [h2]; exact this
  have r3 : rowV x3 (w2.heap.size + 2) 330 #[.pointer (some ⟨w2.heap.size, 0, none⟩)] := by have := rowV.new x2 330 #[.pointer (some ⟨w2.heap.size, 0, none⟩)]; rw [s2] at this; rw [h3]; exact this
  have r4 : rowV x4 (w2.heap.size + 3) 3 #[.int .i64 (i : Int)] := by have := rowV.new x3 3 #[.int .i64 (i : Int)]; rw [s3] at this; rw [h4]; exact this
  have r5 : rowV w3 (w2.heap.size + 4) 3 #[.int .i64 (j : Int)] := by have := rowV.new x4 3 #[.int .i64 (j : Int)]; rw [s4] at this; rw [hw3]; exact this
  exact ⟨⟨⟨r4.below g5 (by omega), r5, (r3.below g4 (by omega)).below g5 (by omega), (((r1.below g2 (by omega)).below g3 (by omega)).below g4 (by omega)).below g5 (by omega), (((hb.trans (g1.mono hb.size)).trans (g2.mono (by have := hb.size; omega))).trans (g3.mono (by have := hb.size; omega))).trans ((g4.mono (by have := hb.size; omega)).trans (g5.mono (by have := hb.size; omega)))⟩, ((r2.below g3 (by omega)).below g4 (by omega)).below g5 (by omega), by omega⟩, s5⟩
theorem read_any (A : Option Addr) (n c i cnt : Nat) (bs : List UInt8) (w : World) (hx : Bytes w A n c bs) (hn : n ≤ 65536) (hc : cnt ≤ 32) (hi : i ≤ 1000000) :
    Calls Tryz.prog 266 #[.agg #[.slice A n c, .int .i64 ((8 * n : Nat) : Int)], .int .i64 (i : Int), .int .i64 (cnt : Int)] w fun e w' => e = .returned (.tuple #[.int .u32 ((rdV (bitD bs) (8 * n) i cnt : Nat) : Int), .int .i64 (rdE (8 * n) i cnt)]) ∧ Below w.heap.size w w' := by
  obtain ⟨w0, hw0⟩ : ∃ w0, w0 = w.alloc (.cells #[.slice A n c, .int .i64 ((8 * n : Nat) : Int)] 227) := ⟨_, rfl⟩
  have r0 : rowV w0 w.heap.size 227 #[.slice A n c, .int .i64 ((8 * n : Nat) : Int)] := by rw [hw0]; exact rowV.new w _ _
  have hb0 : Below w.heap.size w w0 := by rw [hw0]; exact balloc (Below.refl _ _) _
  have HCH := Lib.hid (bchk_any A n c w0 hn)
  have HX := Lib.hid hx
  have HN8 : Hid (8 * n ≤ 524288) := by unfold Hid; omega
  obtain ⟨N, hN⟩ : ∃ N, N = 8 * n := ⟨_, rfl⟩
  rw [← hN] at hw0 r0 HCH HN8 ⊢
  have hN8 := HN8.out
  have HN := Lib.hid hN
  have HW0 := Lib.hid hw0
  have HB0 := Lib.hid hb0
  have R0 := Lib.hid r0
  have e0 : decide ((cnt : Int) < 0) = false := decide_eq_false (by omega)
  have e1 : decide ((32 : Int) < (cnt : Int)) = false := decide_eq_false (by omega)
  have e1' : decide (32 < cnt) = false := decide_eq_false (by omega)
  have e2 : decide ((i : Int) < 0) = false := decide_eq_false (by omega)
  clear hN hw0 hb0 r0 hx
  by_cases hlt : N < i + cnt
  · have d0 : decide ((N : Int) - (cnt : Int) < (i : Int)) = true := decide_eq_true (by omega)
    have HR : Hid (rdV (bitD bs) N i cnt = 0 ∧ rdE N i cnt = 9) := ⟨if_pos hlt, if_pos hlt⟩
    rw [HR.out.1, HR.out.2]
    have k0 : w0.cell? ⟨w.heap.size, 0, none⟩ = some (.slice A n c) := R0.out.cell rfl
    have k1 : w0.cell? ⟨w.heap.size, 1, none⟩ = some (.int .i64 (N : Int)) := R0.out.cell rfl
    rw [HW0.out] at k0 k1
    clear hlt
    refine calls_of_marks Tryz.func266 rfl ?_
    simp only [Tryz.ntmps266, List.size_toArray, List.length_cons, List.length_nil, Nat.reduceAdd, Nat.reduceSub, Array.replicate_succ, Array.replicate_zero, List.push_toArray, List.append_toArray, List.nil_append, List.cons_append]
    go_wp2_with fail
    rw [← HW0.out]
    refine HCH.out.mono ?_
    rintro e w1 ⟨rfl, hb1⟩
    have r1 := R0.out.below hb1 R0.out.lt
    have k2 := r1.cell (j := 1) rfl
    have HB1 := Lib.hid (HB0.out.trans (hb1.mono HB0.out.size))
    clear r1 hb1 k0 k1
    go_wp2_with fail
    refine markPost_ret (v := .tuple #[.int .u32 0, .int .i64 9]) (fun W => by simp [results, Tryz.results266, go_sem]) rfl ?_
    exact ⟨rfl, HB1.out⟩
  · have d0 : decide ((N : Int) - (cnt : Int) < (i : Int)) = false := decide_eq_false (by omega)
    have HR : Hid (rdV (bitD bs) N i cnt = valB (bitD bs) i cnt ∧ rdE N i cnt = 0) := ⟨if_neg hlt, if_neg hlt⟩
    rw [HR.out.1, HR.out.2]
    have k0 : w0.cell? ⟨w.heap.size, 0, none⟩ = some (.slice A n c) := R0.out.cell rfl
    have k1 : w0.cell? ⟨w.heap.size, 1, none⟩ = some (.int .i64 (N : Int)) := R0.out.cell rfl
    rw [HW0.out] at k0 k1
    refine calls_of_marks Tryz.func266 rfl ?_
    simp only [Tryz.ntmps266, List.size_toArray, List.length_cons, List.length_nil, Nat.reduceAdd, Nat.reduceSub, Array.replicate_succ, Array.replicate_zero, List.push_toArray, List.append_toArray, List.nil_append, List.cons_append]
    go_wp2_with fail
    rw [← HW0.out]
    refine HCH.out.mono ?_
    rintro e w1 ⟨rfl, hb1⟩
    have r1 := R0.out.below hb1 R0.out.lt
    have k2 := r1.cell (j := 0) rfl
    have k3 := r1.cell (j := 1) rfl
    have HB1 := Lib.hid (HB0.out.trans (hb1.mono HB0.out.size))
    clear r1 hb1 k0 k1
    go_wp2_with fail
    obtain ⟨w3, hw3⟩ : ∃ w3, w3 = (w1.alloc (.cells #[.slice A n c, .int .i64 (N : Int)] 332)).alloc (.cells #[.int .u32 0] 119) := ⟨_, rfl⟩
    have s3 : w3.heap.size = w1.heap.size + 2 := by rw [hw3, World.size_alloc, World.size_alloc]
    obtain ⟨w5, hw5⟩ : ∃ w5, w5 = ((w3.alloc (.cells #[.pointer (some ⟨w1.heap.size, 0, none⟩)] 330)).alloc (.cells #[.int .i64 (i : Int)] 3)).alloc (.cells #[.int .i64 ((i : Int) + (cnt : Int))] 3) := ⟨_, rfl⟩
    have HO := places_any w1.heap.size (i : Int) ((i : Int) + (cnt : Int)) w3
    rw [← hw5, s3] at HO
    obtain ⟨hI0, hs5⟩ := rd_start (tt := 119) (kd := .u32) (w := w) (w2 := w1) (w3 := w5) (A := A) (n := n) (c := c) (i := i) (j := i + cnt) HB1.out (by rw [hw5, hw3, HN.out]; rfl)
    have hG := places1_gives w A n c i (i + cnt) bs HX.out hn (by omega) (by rw [← HN.out]; omega) (w1.heap.size + 3) (w1.heap.size + 4) (w1.heap.size + 2) w1.heap.size
    rw [show i + cnt - i = cnt by omega] at hG
    have hSw := HB1.out.size
    have Hs5 := Lib.hid hs5
    have HI0 := Lib.hid hI0
    rw [← hw3]
    refine HO.mono ?_
    rintro e wq ⟨rfl, hq⟩
    obtain rfl := hq.symm
    clear HO hw3 s3 hw5 hI0 hs5 hlt k2 k3
    go_wp2_with fail
    refine wp_rangeFunc_one (G := fun u t => (t.setIfInBounds 45 u).setIfInBounds 11 u) (u := fun k => .bool (bitD bs (i + k))) rfl (Go.Proofs.enters_of Tryz.func331 (by kernel_rfl) rfl) hG
      (fun o1 o2 => by
        have hbb := balloc (balloc (Below.refl w5.heap.size w5) o1) o2
        exact HI0.out.pl.kp ⟨hbb.block _ (by rw [Hs5.out]; omega), hbb.block _ (by rw [Hs5.out]; omega), hbb.block _ (by rw [Hs5.out]; omega), hbb.block _ (by rw [Hs5.out]; omega), hbb.mono (by rw [Hs5.out]; omega)⟩)
      (fun X Y hab => drawn_keeps _ hab)
      (fun h1 h2 => ⟨h2.1.trans h1.1, h2.2.1.trans h1.2.1, h2.2.2.1.trans h1.2.2.1, h2.2.2.2.1.trans h1.2.2.2.1, h1.2.2.2.2.trans h2.2.2.2.2⟩)
      (fun W l o o' hl hlo ho => ⟨World.putObj_heap_other (by rw [Hs5.out] at hl; omega), World.putObj_heap_other (by rw [Hs5.out] at hl; omega), World.putObj_heap_other (by rw [Hs5.out] at hl; omega), World.putObj_heap_other (by rw [Hs5.out] at hl; omega), (Below.refl w.heap.size W).grown (grownBy_putObj' W l o') (by have := (Array.getElem?_eq_some_iff.1 hlo).1; rw [Hs5.out] at hl; omega) (fun k e => by cases e; rw [Hs5.out] at hl; omega)⟩)
      (fun k => RdI 119 .u32 w A n c i (i + cnt) w1.heap.size (valB (bitD bs) i k)) (fun _ _ _ => False) ?hI (fun _ _ _ _ _ h _ _ => h.elim) (fun k X Y h hab => h.drawn hab) (fun _ _ _ _ h _ => h.elim) HI0.out ?assign ?body ?done (fun _ _ _ _ _ _ h _ => h.elim)
    case hI => exact fun s W W' row h hg hr => h.kept hSw hg (fun r e => by have := (hr r e).1; rw [Hs5.out] at this; exact this)
    case assign =>
      intro l k W K hK
      simp only [List.setIfInBounds_toArray, List.set_cons_succ, List.set_cons_zero] at hK ⊢
      gi_wp2
      exact hK
    case done =>
      intro D W hD hI hdef
      rw [Hs5.out] at hD
      have q1 := hI.num.cell
      have HI := Lib.hid hI
      clear hI
      go_wp2_with fail
      refine markPost_mark hdef (v := .tuple #[.int .u32 ((valB (bitD bs) i cnt : Nat) : Int), .int .i64 0]) (fun W => by simp [results, Tryz.results266, go_sem]) rfl ?_
      exact ⟨rfl, HI.out.pl.2.2.2.2.grown (grownBy_putObj' W D _) HI.out.pl.2.2.2.2.size (fun k e => by cases e; omega)⟩
    case body =>
      intro l k W hk hl hI
      have q1 := hI.num.cell
      have f1 := hI.num.frozen
      have hv := valB_lt (bitD bs) i k
      have hp : 2 ^ (k + 1) ≤ 2 ^ 32 := Nat.pow_le_pow_right (by decide) (by omega)
      have e32 : (2 : Nat) ^ 32 = 4294967296 := by decide
      have ep : (2 : Nat) ^ (k + 1) = 2 ^ k * 2 := Nat.pow_succ 2 k
      have hv2 : valB (bitD bs) i k * 2 + 1 < 4294967296 := by omega
      have hnx : valB (bitD bs) i (k + 1) = valB (bitD bs) i k * 2 + b01 (bitD bs (i + k)) := by rw [valB]; omega
      have HNX := Lib.hid hnx
      have HI := Lib.hid hI
      obtain ⟨v, hvv⟩ : ∃ v, v = valB (bitD bs) i k := ⟨_, rfl⟩
      obtain ⟨bv, hbv⟩ : ∃ b, b = bitD bs (i + k) := ⟨_, rfl⟩
      rw [← hvv] at HI HNX q1 hv2
      rw [← hbv] at HNX ⊢
      simp only [List.setIfInBounds_toArray, List.set_cons_succ, List.set_cons_zero]
      clear hI hv hp e32 ep hnx hvv hbv
      cases bv with
      | true =>
        have h1 := HI.out.put hSw (v * 2)
        have h2 := h1.1.put hSw (v * 2 + 1)
        have HP : Hid (RdI 119 .u32 w A n c i (i + cnt) w1.heap.size (valB (bitD bs) i (k + 1)) ((W.setCell ⟨w1.heap.size + 1, 0, none⟩ (.int .u32 ((v : Int) * 2))).setCell ⟨w1.heap.size + 1, 0, none⟩ (.int .u32 ((v : Int) * 2 + 1))) ∧ KeepsFrom (w1.heap.size + 5) W ((W.setCell ⟨w1.heap.size + 1, 0, none⟩ (.int .u32 ((v : Int) * 2))).setCell ⟨w1.heap.size + 1, 0, none⟩ (.int .u32 ((v : Int) * 2 + 1))) ∧ plKp w.heap.size (w1.heap.size + 3) (w1.heap.size + 4) (w1.heap.size + 2) w1.heap.size W ((W.setCell ⟨w1.heap.size + 1, 0, none⟩ (.int .u32 ((v : Int) * 2))).setCell ⟨w1.heap.size + 1, 0, none⟩ (.int .u32 ((v : Int) * 2 + 1)))) := by
          have e2 : (((v * 2 : Nat) : Int)) = (v : Int) * 2 := by omega
          have e3 : (((v * 2 + 1 : Nat) : Int)) = (v : Int) * 2 + 1 := by omega
          rw [e2] at h1 h2
          rw [e3] at h2
          refine ⟨by rw [HNX.out]; exact h2.1, h1.2.1.trans h2.2.1, ⟨h2.2.2.1.trans h1.2.2.1, h2.2.2.2.1.trans h1.2.2.2.1, h2.2.2.2.2.1.trans h1.2.2.2.2.1, h2.2.2.2.2.2.1.trans h1.2.2.2.2.2.1, h1.2.2.2.2.2.2.trans h2.2.2.2.2.2.2⟩⟩
        clear h1 h2
        gi_wp2
        rw [Hs5.out]
        exact ⟨HP.out.2.1, HP.out.2.2, HP.out.1⟩
      | false =>
        have h1 := HI.out.put hSw (v * 2)
        have HP : Hid (RdI 119 .u32 w A n c i (i + cnt) w1.heap.size (valB (bitD bs) i (k + 1)) (W.setCell ⟨w1.heap.size + 1, 0, none⟩ (.int .u32 ((v : Int) * 2))) ∧ KeepsFrom (w1.heap.size + 5) W (W.setCell ⟨w1.heap.size + 1, 0, none⟩ (.int .u32 ((v : Int) * 2))) ∧ plKp w.heap.size (w1.heap.size + 3) (w1.heap.size + 4) (w1.heap.size + 2) w1.heap.size W (W.setCell ⟨w1.heap.size + 1, 0, none⟩ (.int .u32 ((v : Int) * 2)))) := by
          have e2 : (((v * 2 : Nat) : Int)) = (v : Int) * 2 := by omega
          rw [e2] at h1
          refine ⟨by rw [HNX.out]; exact h1.1, h1.2.1, h1.2.2⟩
        clear h1
        gi_wp2
        rw [Hs5.out]
        exact ⟨HP.out.2.1, HP.out.2.2, HP.out.1⟩
end Go.Proofs.YtckkmafppfcecaaGreatDoor
namespace Go.Proofs.YtckkmafppfcecaaGreatDoor
open Go.RowKit Go.Proofs
set_option linter.unusedVariables false
set_option linter.unusedSimpArgs false
attribute [local go_sem] Oper.semAt_some
def rgR (g : Nat → Bool) (N i : Nat) : Nat × Nat × Int := match rdG g N i with | .ok (n, j) => (n, j, 0) | .error e => (0, 0, e)
theorem zB_full {g : Nat → Bool} {N : Nat} : ∀ (k i : Nat), i + k = N → (∀ j, j < k → g (i + j) = false) → zB g N i = k
  | 0, i, h, _ => by rw [zB, dif_neg (by omega)]
  | k + 1, i, h, hf => by
    have h0 := hf 0 (by omega)
    rw [Nat.add_zero] at h0
    rw [zB, dif_pos ⟨by omega, h0⟩, zB_full k (i + 1) (by omega) fun j hj => by have := hf (j + 1) (by omega); rwa [show i + 1 + j = i + (j + 1) by omega]]
theorem rg_torn {g : Nat → Bool} {N i : Nat} (h : N ≤ i + zB g N i) : rgR g N i = (0, 0, 9) := by unfold rgR rdG; rw [if_pos h]
theorem rg_many {g : Nat → Bool} {N i : Nat} (h : ¬ N ≤ i + zB g N i) (h2 : 30 < zB g N i) : rgR g N i = (0, 0, 2) := by unfold rgR rdG; rw [if_neg h, if_pos h2]
theorem rg_read {g : Nat → Bool} {N i : Nat} (h : ¬ N ≤ i + zB g N i) (h2 : ¬ 30 < zB g N i) : rgR g N i = if N < i + zB g N i + (zB g N i + 1) then (0, 0, 9) else (valB g (i + zB g N i) (zB g N i + 1), i + 2 * zB g N i + 1, 0) := by
  unfold rgR rdG rdB
  rw [if_neg h, if_neg h2]
  by_cases h3 : N < i + zB g N i + (zB g N i + 1)
  · rw [if_pos h3, if_pos h3]
  · rw [if_neg h3, if_neg h3]
structure RgI (w : World) (A : Option Addr) (n c i N S : Nat) (g : Nat → Bool) (k : Nat) (W : World) : Prop where
  rd : RdI 3 .i64 w A n c i N S k W
  zeros : ∀ j, j < k → g (i + j) = false
  row : rowV W w.heap.size 227 #[.slice A n c, .int .i64 (N : Int)]
  lt : w.heap.size < S
section
variable {w W W' : World} {A : Option Addr} {n c i N S k : Nat} {g : Nat → Bool}
theorem RgI.kept {row : Option Nat} (hS : w.heap.size ≤ S) (h : RgI w A n c i N S g k W) (hg : W.grownBy W' row) (hrow : ∀ r, row = some r → S + 5 ≤ r) : RgI w A n c i N S g k W' :=
  ⟨h.rd.kept hS hg hrow, h.zeros, (hg.block _ h.row.lt (fun e => by have := hrow _ e.symm; have := h.lt; omega)).trans h.row, h.lt⟩
theorem RgI.drawn (h : RgI w A n c i N S g k W) (hd : Drawn W W') : RgI w A n c i N S g k W' := ⟨h.rd.drawn hd, h.zeros, ((hd.below _).block _ h.row.lt).trans h.row, h.lt⟩
theorem RgI.put (hS : w.heap.size ≤ S) (h : RgI w A n c i N S g k W) (hb : g (i + k) = false) : RgI w A n c i N S g (k + 1) (W.setCell ⟨S + 1, 0, none⟩ (.int .i64 ((k + 1 : Nat) : Int))) ∧ KeepsFrom (S + 5) W (W.setCell ⟨S + 1, 0, none⟩ (.int .i64 ((k + 1 : Nat) : Int))) ∧ plKp w.heap.size (S + 3) (S + 4) (S + 2) S W (W.setCell ⟨S + 1, 0, none⟩ (.int .i64 ((k + 1 : Nat) : Int))) := by
  obtain ⟨h1, h2, h3⟩ := h.rd.put hS (k + 1)
  refine ⟨⟨h1, fun j hj => ?_, (Below.heap_setCell _ ⟨S + 1, 0, none⟩ _ _ (by show w.heap.size ≠ S + 1; omega)).trans h.row, h.lt⟩, h2, h3⟩
  rcases Nat.lt_or_ge j k with e | e
  · exact h.zeros j e
  · obtain rfl : j = k := by omega
    exact hb
end
theorem readGamma_any (A : Option Addr) (n c i : Nat) (bs : List UInt8) (w : World) (hx : Bytes w A n c bs) (hn : n ≤ 65536) (hi : i ≤ 8 * n) :
    Calls Tryz.prog 310 #[.agg #[.slice A n c, .int .i64 ((8 * n : Nat) : Int)], .int .i64 (i : Int)] w fun e w' => e = .returned (.tuple #[.int .i64 (((rgR (bitD bs) (8 * n) i).1 : Nat) : Int), .int .i64 (((rgR (bitD bs) (8 * n) i).2.1 : Nat) : Int), .int .i64 (rgR (bitD bs) (8 * n) i).2.2]) ∧ Below w.heap.size w w' := by
  obtain ⟨w0, hw0⟩ : ∃ w0, w0 = w.alloc (.cells #[.slice A n c, .int .i64 ((8 * n : Nat) : Int)] 227) := ⟨_, rfl⟩
  have r0 : rowV w0 w.heap.size 227 #[.slice A n c, .int .i64 ((8 * n : Nat) : Int)] := by rw [hw0]; exact rowV.new w _ _
  have hb0 : Below w.heap.size w w0 := by rw [hw0]; exact balloc (Below.refl _ _) _
  have HCH := Lib.hid (bchk_any A n c w0 hn)
  have HX := Lib.hid hx
  have HRD := Lib.hid (fun i cnt W hW hc hi => read_any A n c i cnt bs W hW hn hc hi)
  have HN8 : Hid (8 * n ≤ 524288) := by unfold Hid; omega
  obtain ⟨N, hN⟩ : ∃ N, N = 8 * n := ⟨_, rfl⟩
  rw [← hN] at hw0 r0 HCH HN8 HRD hi ⊢
  have hN8 := HN8.out
  have HN := Lib.hid hN
  have HW0 := Lib.hid hw0
  have HB0 := Lib.hid hb0
  have R0 := Lib.hid r0
  have e2 : decide ((i : Int) < 0) = false := decide_eq_false (by omega)
  clear hN hw0 hb0 r0 hx
  have k0 : w0.cell? ⟨w.heap.size, 0, none⟩ = some (.slice A n c) := R0.out.cell rfl
  have k1 : w0.cell? ⟨w.heap.size, 1, none⟩ = some (.int .i64 (N : Int)) := R0.out.cell rfl
  rw [HW0.out] at k0 k1
  refine calls_of_marks Tryz.func310 rfl ?_
  simp only [Tryz.ntmps310, List.size_toArray, List.length_cons, List.length_nil, Nat.reduceAdd, Nat.reduceSub, Array.replicate_succ, Array.replicate_zero, List.push_toArray, List.append_toArray, List.nil_append, List.cons_append]
  go_wp2_with fail
  rw [← HW0.out]
  refine HCH.out.mono ?_
  rintro e w1 ⟨rfl, hb1⟩
  have hr1 := R0.out.below hb1 R0.out.lt
  have k2 := hr1.cell (j := 0) rfl
  have k3 := hr1.cell (j := 1) rfl
  have R1 := Lib.hid hr1
  have HB1 := Lib.hid (HB0.out.trans (hb1.mono HB0.out.size))
  clear hr1 hb1 k0 k1
  have hb3 : Below w1.heap.size w1 ((w1.alloc (.cells #[.slice A n c, .int .i64 (N : Int)] 332)).alloc (.cells #[.int .i64 0] 3)) := balloc (balloc (Below.refl _ _) _) _
  have k4 : ((w1.alloc (.cells #[.slice A n c, .int .i64 (N : Int)] 332)).alloc (.cells #[.int .i64 0] 3)).cell? ⟨w.heap.size, 1, none⟩ = some (.int .i64 (N : Int)) := (hb3.cell (p := ⟨w.heap.size, 1, none⟩) R1.out.lt).trans k3
  clear hb3
  go_wp2_with fail
  obtain ⟨w3, hw3⟩ : ∃ w3, w3 = (w1.alloc (.cells #[.slice A n c, .int .i64 (N : Int)] 332)).alloc (.cells #[.int .i64 0] 3) := ⟨_, rfl⟩
  have s3 : w3.heap.size = w1.heap.size + 2 := by rw [hw3, World.size_alloc, World.size_alloc]
  obtain ⟨w5, hw5⟩ : ∃ w5, w5 = ((w3.alloc (.cells #[.pointer (some ⟨w1.heap.size, 0, none⟩)] 330)).alloc (.cells #[.int .i64 (i : Int)] 3)).alloc (.cells #[.int .i64 (N : Int)] 3) := ⟨_, rfl⟩
  have HO := places_any w1.heap.size (i : Int) (N : Int) w3
  rw [← hw5, s3] at HO
  obtain ⟨hI0, hs5⟩ := rd_start (tt := 3) (kd := .i64) (w := w) (w2 := w1) (w3 := w5) (A := A) (n := n) (c := c) (i := i) (j := N) HB1.out (by rw [hw5, hw3, HN.out])
  have hG := places1_gives w A n c i N bs HX.out hn hi (by rw [← HN.out]; omega) (w1.heap.size + 3) (w1.heap.size + 4) (w1.heap.size + 2) w1.heap.size
  have hSw := HB1.out.size
  have Hs5 := Lib.hid hs5
  have HI0 := Lib.hid hI0
  rw [← hw3]
  refine HO.mono ?_
  rintro e wq ⟨rfl, hq⟩
  obtain rfl := hq.symm
  have hSlt : w.heap.size < w1.heap.size := R1.out.lt
  have HX5 : Hid (Below w1.heap.size w1 w5) := by
    unfold Hid
    rw [hw5, hw3]
    exact balloc (balloc (balloc (balloc (balloc (Below.refl _ _) _) _) _) _) _
  clear HO hw3 s3 hw5 hI0 hs5 k2 k3 k4
  go_wp2_with fail
  have HRS : Hid (rowV w5 w.heap.size 227 #[.slice A n c, .int .i64 (N : Int)]) := by
    have hbb : Below w1.heap.size w1 w5 := by
      have := HX5.out
      exact this
    exact R1.out.below hbb R1.out.lt
  refine wp_rangeFunc_one (G := fun u t => (t.setIfInBounds 28 u).setIfInBounds 10 u) (u := fun k => .bool (bitD bs (i + k))) rfl (Go.Proofs.enters_of Tryz.func331 (by kernel_rfl) rfl) hG
    (fun o1 o2 => by
      have hbb := balloc (balloc (Below.refl w5.heap.size w5) o1) o2
      exact HI0.out.pl.kp ⟨hbb.block _ (by rw [Hs5.out]; omega), hbb.block _ (by rw [Hs5.out]; omega), hbb.block _ (by rw [Hs5.out]; omega), hbb.block _ (by rw [Hs5.out]; omega), hbb.mono (by rw [Hs5.out]; omega)⟩)
    (fun X Y hab => drawn_keeps _ hab)
    (fun h1 h2 => ⟨h2.1.trans h1.1, h2.2.1.trans h1.2.1, h2.2.2.1.trans h1.2.2.1, h2.2.2.2.1.trans h1.2.2.2.1, h1.2.2.2.2.trans h2.2.2.2.2⟩)
    (fun W l o o' hl hlo ho => ⟨World.putObj_heap_other (by rw [Hs5.out] at hl; omega), World.putObj_heap_other (by rw [Hs5.out] at hl; omega), World.putObj_heap_other (by rw [Hs5.out] at hl; omega), World.putObj_heap_other (by rw [Hs5.out] at hl; omega), (Below.refl w.heap.size W).grown (grownBy_putObj' W l o') (by have := (Array.getElem?_eq_some_iff.1 hlo).1; rw [Hs5.out] at hl; omega) (fun k e => by cases e; rw [Hs5.out] at hl; omega)⟩)
    (fun k => RgI w A n c i N w1.heap.size (bitD bs) k) (fun cd k W => cd = Code.exit 0 ∧ ∃ z, z < N - i ∧ bitD bs (i + z) = true ∧ RgI w A n c i N w1.heap.size (bitD bs) z W) ?hI ?hIx (fun k X Y h hab => h.drawn hab) (fun cd k X Y h hab => ⟨h.1, h.2.imp fun z hz => ⟨hz.1, hz.2.1, hz.2.2.drawn hab⟩⟩) ⟨HI0.out, fun j hj => absurd hj (Nat.not_lt_zero _), HRS.out, hSlt⟩ ?assign ?body ?done ?stop
  case hI => exact fun s W W' row h hg hr => h.kept hSw hg (fun r e => by have := (hr r e).1; rw [Hs5.out] at this; exact this)
  case hIx => exact fun cd s W W' row h hg hr => ⟨h.1, h.2.imp fun z hz => ⟨hz.1, hz.2.1, hz.2.2.kept hSw hg (fun r e => by have := (hr r e).1; rw [Hs5.out] at this; exact this)⟩⟩
  case assign =>
    intro l k W K hK
    simp only [List.setIfInBounds_toArray, List.set_cons_succ, List.set_cons_zero] at hK ⊢
    gi_wp2
    exact hK
  case body =>
    intro l k W hk hl hI
    have q1 := hI.rd.num.cell
    have f1 := hI.rd.num.frozen
    have HI := Lib.hid hI
    obtain ⟨bv, hbv⟩ : ∃ b, b = bitD bs (i + k) := ⟨_, rfl⟩
    rw [← hbv]
    have HBV := Lib.hid hbv
    simp only [List.setIfInBounds_toArray, List.set_cons_succ, List.set_cons_zero]
    clear hI hbv
    cases bv with
    | true =>
      gi_wp2
      exact ⟨KeepsFrom.refl _ _, rfl, k, hk, HBV.out.symm, HI.out⟩
    | false =>
      have hk9 : k ≤ 1000000 := by omega
      have h1 := HI.out.put hSw HBV.out.symm
      have e2 : (((k + 1 : Nat) : Int)) = (k : Int) + 1 := by omega
      rw [e2] at h1
      have H1 := Lib.hid h1
      clear h1 e2
      gi_wp2
      rw [Hs5.out]
      exact ⟨H1.out.2.1, H1.out.2.2, H1.out.1⟩
  case done =>
    intro D W hD hI hdef
    rw [Hs5.out] at hD
    have hz : zB (bitD bs) N i = N - i := zB_full (N - i) i (by omega) hI.zeros
    have HR : Hid (rgR (bitD bs) N i = (0, 0, 9)) := rg_torn (by omega)
    have q1 := hI.rd.num.cell
    have q2 := hI.row.cell (j := 1) rfl
    obtain ⟨z, hzz⟩ : ∃ z, z = N - i := ⟨_, rfl⟩
    rw [← hzz] at q1
    have HI := Lib.hid hI
    have d1 : decide ((N : Int) - (z : Int) ≤ (i : Int)) = true := decide_eq_true (by omega)
    have hzN : z ≤ 524288 := by omega
    clear hI hz hzz
    go_wp2_with fail
    refine markPost_mark hdef (v := .tuple #[.int .i64 0, .int .i64 0, .int .i64 9]) (fun W => by simp [results, Tryz.results310, go_sem]) rfl ?_
    rw [HR.out]
    exact ⟨rfl, HI.out.rd.pl.2.2.2.2.grown (grownBy_putObj' W D _) HI.out.rd.pl.2.2.2.2.size (fun k e => by cases e; omega)⟩
  case stop =>
    intro D cd k W hD hk hx hdef
    rw [Hs5.out] at hD
    obtain ⟨rfl, z, hz, hbit, hI⟩ := hx
    have hzb : zB (bitD bs) N i = z := zB_run z i (by omega) hI.zeros hbit
    have hnt : ¬ N ≤ i + zB (bitD bs) N i := by omega
    have q1 := hI.rd.num.cell
    have q2 := hI.row.cell (j := 0) rfl
    have q3 := hI.row.cell (j := 1) rfl
    have d1 : decide ((N : Int) - (z : Int) ≤ (i : Int)) = false := decide_eq_false (by omega)
    have HI := Lib.hid hI
    have hzN : z ≤ 524288 := by omega
    have HB9 : Hid (Below w.heap.size w W) := HI.out.rd.pl.2.2.2.2
    clear hI hbit
    by_cases h30 : 30 < z
    · have d2 : decide ((30 : Int) < (z : Int)) = true := decide_eq_true (by omega)
      have d2' : decide (30 < z) = true := decide_eq_true h30
      have HR : Hid (rgR (bitD bs) N i = (0, 0, 2)) := rg_many hnt (by rw [hzb]; exact h30)
      clear hzb hnt h30 hz
      go_wp2_with fail
      refine markPost_mark hdef (v := .tuple #[.int .i64 0, .int .i64 0, .int .i64 2]) (fun W => by simp [results, Tryz.results310, go_sem]) rfl ?_
      rw [HR.out]
      exact ⟨rfl, HB9.out.grown (grownBy_putObj' W D _) HB9.out.size (fun k e => by cases e; omega)⟩
    · have d2 : decide ((30 : Int) < (z : Int)) = false := decide_eq_false (by omega)
      have d2' : decide (30 < z) = false := decide_eq_false h30
      have HR : Hid _ := Lib.hid (rg_read hnt (by rw [hzb]; exact h30))
      rw [hzb] at HR
      have HC := HRD.out (i + z) (z + 1) W (HX.out.below HB9.out) (by omega) (by omega)
      have hvl := valB_lt (bitD bs) (i + z) (z + 1)
      have hpw : 2 ^ (z + 1) ≤ 2 ^ 31 := Nat.pow_le_pow_right (by decide) (by omega)
      have e31 : (2 : Nat) ^ 31 = 2147483648 := by decide
      have hz30 : z ≤ 30 := by omega
      have hDW : D < W.heap.size := (Array.getElem?_eq_some_iff.1 hdef).1
      have hsz5 := HI.out.rd.size
      by_cases hlt : N < i + z + (z + 1)
      · rw [if_pos hlt] at HR
        have HC2 : Hid (rdV (bitD bs) N (i + z) (z + 1) = 0 ∧ rdE N (i + z) (z + 1) = 9) := ⟨if_pos hlt, if_pos hlt⟩
        rw [HC2.out.1, HC2.out.2] at HC
        replace HC := Lib.hid HC
        clear hzb hnt h30 hz hlt hvl hpw e31
        go_wp2_with fail
        refine HC.out.mono ?_
        rintro e w6 ⟨rfl, hb6⟩
        have hdef6 := (hb6.block _ hDW).trans hdef
        have HB6 := Lib.hid (HB9.out.trans (hb6.mono HB9.out.size))
        have hs6 := hb6.size
        clear hb6
        go_wp2_with fail
        refine markPost_mark hdef6 (v := .tuple #[.int .i64 0, .int .i64 0, .int .i64 9]) (fun W => by simp [results, Tryz.results310, go_sem]) rfl ?_
        rw [HR.out]
        exact ⟨rfl, HB6.out.grown (grownBy_putObj' w6 D _) HB6.out.size (fun k e => by cases e; omega)⟩
      · rw [if_neg hlt] at HR
        have HC2 : Hid (rdV (bitD bs) N (i + z) (z + 1) = valB (bitD bs) (i + z) (z + 1) ∧ rdE N (i + z) (z + 1) = 0) := ⟨if_neg hlt, if_neg hlt⟩
        rw [HC2.out.1, HC2.out.2] at HC
        obtain ⟨v, hv⟩ : ∃ v, v = valB (bitD bs) (i + z) (z + 1) := ⟨_, rfl⟩
        rw [← hv] at HC HR hvl
        have hv31 : v < 2147483648 := by omega
        replace HC := Lib.hid HC
        clear hzb hnt h30 hz hlt hvl hpw e31 hv
        go_wp2_with fail
        refine HC.out.mono ?_
        rintro e w6 ⟨rfl, hb6⟩
        have hdef6 := (hb6.block _ hDW).trans hdef
        have HB6 := Lib.hid (HB9.out.trans (hb6.mono HB9.out.size))
        have hs6 := hb6.size
        have q9 : w6.cell? ⟨w1.heap.size + 1, 0, none⟩ = some (.int .i64 (z : Int)) := (hb6.cell (p := ⟨w1.heap.size + 1, 0, none⟩) (by show w1.heap.size + 1 < _; omega)).trans q1
        clear hb6 q1 q2 q3
        go_wp2_with fail
        go_quiet (fail)
        go_wp2_with fail
        refine markPost_mark (w := w6.drewN nq) hdef6 (v := .tuple #[.int .i64 (v : Int), .int .i64 ((i : Int) + 2 * (z : Int) + 1), .int .i64 0]) (fun W => by simp [results, Tryz.results310, go_sem]) rfl ?_
        rw [HR.out]
        exact ⟨by go_num, (HB6.out.trans ((Drawn.drewN w6 nq).below _)).grown (grownBy_putObj' _ D _) (HB6.out.trans ((Drawn.drewN w6 nq).below _)).size (fun k e => by cases e; omega)⟩
end Go.Proofs.YtckkmafppfcecaaGreatDoor
namespace Go.Proofs.YtckkmafppfcecaaGreatDoor
open Go.RowKit Go.Proofs
set_option linter.unusedVariables false
set_option linter.unusedSimpArgs false
open Bwt (Gr) in
theorem wp_region_grow {P : Program} {id : Nat} {Q : Exit → Act → World → Prop} {a : Act} {w : World} {l : List Oper} (n : Nat) (hm : P.follows .mixedOrders = true) (hB : Region.lexTailB .any l.toArray n = true)
    (h : wpQuiet P l.toArray (fun w' => ∃ g : Gr w, w' = g.w) (fun a' => ∀ w', (∃ g : Gr w, w' = g.w) → wpList P l.toArray Q (l.drop n) a' w') (l.take n) a) : (Code.region id l.toArray true).wp P Q a w := by
  simp only [Region.lexTailB, Bool.and_eq_true, decide_eq_true_eq] at hB
  obtain ⟨⟨⟨⟨hsel, hn⟩, hs⟩, hc⟩, hlex⟩ := hB
  have hn' : n < l.length := by simpa using hn
  have htl : (l.take n).length = n := by simp; omega
  have hdl : (l.drop n).length = l.toArray.size - n := by simp
  have inv0 : HeadInv .any l.toArray n (Array.replicate l.toArray.size false) :=
    ⟨by simp, fun j oj _ hl => (by rw [getD_replicate_false] at hl; cases hl), fun t _ ht => getD_in (by simpa using ht) (getD_replicate_false _ _)⟩
  have H := anyQL_lex (md := .any) (g := l.toArray.size - n) hsel hs hc hn (l.take n) 0 _ a (fun j hj => by
    have hj' : j < n := by rw [htl] at hj; exact hj
    simp [hj']) (by simpa using htl) inv0 (by rw [htl]; exact hlex) h
  refine wp_region_any hm ?_
  have := any_of_head (Q' := Q) (g := l.toArray.size - n) (fun listed a' w' hw' hL => by
    have := wpAny_of_seq (md := .any) (Q' := Q) (l.drop n) n listed a' w' (fun j => by simp [List.getElem?_drop]) (by rw [hdl]; exact hL.1) (hL.2 w' hw')
    rwa [hdl] at this) _ _ _ { w with drawn := w.drawn + 1 } ⟨⟨_, (Drawn.drewN w 1).below _⟩, rfl⟩ H
  rw [htl, show n + (l.toArray.size - n) = l.toArray.size by omega] at this
  exact this
def SR (W : World) (g : Nat) (A : Option Addr) (n c i : Nat) : Prop := rowV W g 229 #[.slice A n c, .int .i64 ((8 * n : Nat) : Int), .int .i64 (i : Int)]
theorem grown_below {W W' : World} (row : Option Nat) (h : Below W.heap.size W W') : W.grownBy W' row := ⟨h.os, h.tape, h.output, h.size, fun k hk _ => h.block k hk⟩
theorem grown_set {W : World} (g j : Nat) (v : Value) : W.grownBy (W.setCell ⟨g, j, none⟩ v) (some g) := ⟨rfl, rfl, rfl, by simp [World.setCell], fun k _ hk => Below.heap_setCell _ ⟨g, j, none⟩ _ k (fun e => hk (congrArg some e))⟩
theorem grown_trans {X Y Z : World} {row : Option Nat} (h : X.grownBy Y row) (k : Y.grownBy Z row) : X.grownBy Z row := ⟨k.os.trans h.os, k.tape.trans h.tape, k.output.trans h.output, Nat.le_trans h.size k.size, fun i hi hn => (k.block i (Nat.lt_of_lt_of_le hi h.size) hn).trans (h.block i hi hn)⟩
theorem left_any (g : Nat) (A : Option Addr) (n c i : Nat) (w : World) (hs : SR w g A n c i) (hn : n ≤ 65536) (hi : i ≤ 8 * n) :
    Calls Tryz.prog 265 #[.pointer (some ⟨g, 0, none⟩)] w fun e w' => e = .returned (.int .i64 ((8 * n - i : Nat) : Int)) ∧ ∃ m, w' = w.drewN m := by
  have c1 := hs.cell (j := 1) rfl
  have c2 := hs.cell (j := 2) rfl
  obtain ⟨N, hN⟩ : ∃ N, N = 8 * n := ⟨_, rfl⟩
  rw [← hN] at c1 hi ⊢
  have hN8 : N ≤ 524288 := by omega
  have HE : Hid (((N - i : Nat) : Int) = (N : Int) - (i : Int)) := by unfold Hid; omega
  rw [HE.out]
  clear hs hN
  go_enter Tryz.func265, Tryz.ntmps265
  go_wp2
  go_quiet (fail)
  go_wp2
  go_ret
  exact ⟨rfl, _, rfl⟩
theorem get_any (g : Nat) (A : Option Addr) (n c i cnt : Nat) (bs : List UInt8) (w : World) (hs : SR w g A n c i) (hx : Bytes w A n c bs) (hn : n ≤ 65536) (hi : i ≤ 8 * n) (hc : cnt ≤ 8) :
    Calls Tryz.prog 267 #[.pointer (some ⟨g, 0, none⟩), .int .i64 (cnt : Int)] w fun e w' => e = .returned (.tuple #[.int .i64 ((rdV (bitD bs) (8 * n) i cnt : Nat) : Int), .int .i64 (rdE (8 * n) i cnt)]) ∧ SR w' g A n c (i + cnt) ∧ w.grownBy w' (some g) := by
  have HC := fun gr : Bwt.Gr w => (read_any A n c i cnt bs gr.w (hx.below gr.h) hn (by omega) (by omega)).mono (fun e w' h => (⟨h.1, ⟨w', gr.h.trans (h.2.mono gr.h.size)⟩, rfl⟩ : e = _ ∧ ∃ g' : Bwt.Gr w, w' = g'.w))
  have hsg : ∀ gr : Bwt.Gr w, SR gr.w g A n c i := fun gr => (gr.h.block _ hs.lt).trans hs
  have HS := Lib.hid hsg
  have c0 : ∀ gr : Bwt.Gr w, gr.w.cell? ⟨g, 0, none⟩ = some (.slice A n c) := fun gr => (hsg gr).cell rfl
  have c1 : ∀ gr : Bwt.Gr w, gr.w.cell? ⟨g, 1, none⟩ = some (.int .i64 ((8 * n : Nat) : Int)) := fun gr => (hsg gr).cell rfl
  have c2 : ∀ gr : Bwt.Gr w, gr.w.cell? ⟨g, 2, none⟩ = some (.int .i64 (i : Int)) := fun gr => (hsg gr).cell rfl
  have hv : rdV (bitD bs) (8 * n) i cnt < 256 := by
    unfold rdV
    split
    · omega
    · have h1 := valB_lt (bitD bs) i cnt
      have h2 : 2 ^ cnt ≤ 2 ^ 8 := Nat.pow_le_pow_right (by decide) hc
      have h3 : (2 : Nat) ^ 8 = 256 := by decide
      omega
  obtain ⟨v, hvv⟩ : ∃ v, v = rdV (bitD bs) (8 * n) i cnt := ⟨_, rfl⟩
  obtain ⟨er, her⟩ : ∃ er, er = rdE (8 * n) i cnt := ⟨_, rfl⟩
  rw [← hvv, ← her] at HC
  rw [← hvv] at hv
  rw [← hvv, ← her]
  obtain ⟨N, hN⟩ : ∃ N, N = 8 * n := ⟨_, rfl⟩
  rw [← hN] at c1 hi HC
  have hN8 : N ≤ 524288 := by omega
  replace HC := Lib.hid HC
  clear hs hx hN hvv her hsg
  go_enter Tryz.func267, Tryz.ntmps267
  go_wp2
  refine wp_region_grow 14 (by kernel_rfl) (by kernel_rfl) ?_
  simp only [List.take_succ_cons, List.take_zero, List.drop_succ_cons, List.drop_zero]
  repeat (go_big_quiet_step (first | (go_at_call 266; exact HC.out _)))
  refine wpQuiet_nil ?_
  intro _ hw'
  obtain ⟨gr, hw''⟩ := hw'
  subst hw''
  have f2 := (HS.out gr).frozen 2
  have HG2 := Lib.hid (grown_below (some g) gr.h)
  go_wp2_with fail
  go_ret2
  refine ⟨rfl, (HS.out gr).set 2 _, grown_trans HG2.out (grown_set g 2 _)⟩
theorem ended_any (g : Nat) (A : Option Addr) (n c i : Nat) (bs : List UInt8) (w : World) (hs : SR w g A n c i) (hx : Bytes w A n c bs) (hn : n ≤ 65536) (hi : i ≤ 8 * n) :
    Calls Tryz.prog 197 #[.pointer (some ⟨g, 0, none⟩)] w fun e w' => e = .returned (.bool (endB (bitD bs) (8 * n) i)) ∧ Below w.heap.size w w' := by
  have HS := Lib.hid hs
  have HX := Lib.hid hx
  have hE : endB (bitD bs) (8 * n) i = decide (8 * n ≤ i + 7 ∧ valB (bitD bs) i (8 * n - i) = 0) := rfl
  have HL := Lib.hid (fun W (hW : SR W g A n c i) => left_any g A n c i W hW hn hi)
  have HC := fun W (hW : Bytes W A n c bs) (hc : 8 * n - i ≤ 32) => read_any A n c i (8 * n - i) bs W hW hn hc (by omega)
  have hv : rdV (bitD bs) (8 * n) i (8 * n - i) = valB (bitD bs) i (8 * n - i) := if_neg (by omega)
  have he : rdE (8 * n) i (8 * n - i) = 0 := if_neg (by omega)
  rw [hv, he] at HC
  have HSR := Lib.hid (fun W (hW : SR W g A n c i) => (⟨hW.cell (j := 0) rfl, hW.cell (j := 1) rfl, hW.cell (j := 2) rfl⟩ : W.cell? ⟨g, 0, none⟩ = some (.slice A n c) ∧ W.cell? ⟨g, 1, none⟩ = some (.int .i64 ((8 * n : Nat) : Int)) ∧ W.cell? ⟨g, 2, none⟩ = some (.int .i64 (i : Int))))
  obtain ⟨N, hN⟩ : ∃ N, N = 8 * n := ⟨_, rfl⟩
  rw [← hN] at HC HL hE HSR hi
  rw [← hN]
  have hN8 : N ≤ 524288 := by omega
  obtain ⟨L, hL⟩ : ∃ L, L = N - i := ⟨_, rfl⟩
  rw [← hL] at HC HL hE
  obtain ⟨v, hvv⟩ : ∃ v, v = valB (bitD bs) i L := ⟨_, rfl⟩
  rw [← hvv] at HC hE
  have hLi : L = N - i := hL
  replace HC := Lib.hid HC
  by_cases h7 : L ≤ 7
  · have hE2 : endB (bitD bs) N i = decide (v = 0) := by
      rw [hE]
      exact decide_eq_decide.2 ⟨fun h => h.2, fun h => ⟨by omega, h⟩⟩
    rw [hE2]
    have d0 : decide ((7 : Int) < (L : Int)) = false := decide_eq_false (by omega)
    have d0' : decide (7 < L) = false := decide_eq_false (by omega)
    have q0 : ((v : Int) == 0) = decide (v = 0) := by
      by_cases h : v = 0
      · rw [decide_eq_true h, h]; rfl
      · rw [decide_eq_false h, beq_eq_false_iff_ne]; omega
    obtain ⟨z, hz⟩ : ∃ z, z = decide (v = 0) := ⟨_, rfl⟩
    rw [← hz] at q0 ⊢
    have hL32 : L ≤ 32 := by omega
    have HL32 := Lib.hid hL32
    clear hs hx hN hvv hv he hE hE2 hL hz hLi
    go_enter Tryz.func197, Tryz.ntmps197
    go_wp2_with fail
    refine (HL.out w HS.out).mono ?_
    rintro e w1 ⟨rfl, m, rfl⟩
    have hs1 : SR (w.drewN m) g A n c i := HS.out
    have hx1 : Bytes (w.drewN m) A n c bs := HX.out.below ((Drawn.drewN w m).below _)
    have hsg : ∀ gr : Bwt.Gr (w.drewN m), SR gr.w g A n c i := fun gr => (gr.h.block _ hs1.lt).trans hs1
    have c0 : ∀ gr : Bwt.Gr (w.drewN m), gr.w.cell? ⟨g, 0, none⟩ = some (.slice A n c) := fun gr => (HSR.out _ (hsg gr)).1
    have c1 : ∀ gr : Bwt.Gr (w.drewN m), gr.w.cell? ⟨g, 1, none⟩ = some (.int .i64 (N : Int)) := fun gr => (HSR.out _ (hsg gr)).2.1
    have c2 : ∀ gr : Bwt.Gr (w.drewN m), gr.w.cell? ⟨g, 2, none⟩ = some (.int .i64 (i : Int)) := fun gr => (HSR.out _ (hsg gr)).2.2
    have HC1 := Lib.hid (fun gr : Bwt.Gr (w.drewN m) => (HC.out gr.w (hx1.below gr.h) HL32.out).mono (fun e w' h => (⟨h.1, ⟨w', gr.h.trans (h.2.mono gr.h.size)⟩, rfl⟩ : e = _ ∧ ∃ g' : Bwt.Gr (w.drewN m), w' = g'.w)))
    have HL1 := Lib.hid (fun gr : Bwt.Gr (w.drewN m) => (HL.out gr.w (hsg gr)).mono (fun e w' h => (⟨h.1, by obtain ⟨m, rfl⟩ := h.2; exact ⟨⟨_, gr.h.trans ((Drawn.drewN gr.w m).below _)⟩, rfl⟩⟩ : e = _ ∧ ∃ g' : Bwt.Gr (w.drewN m), w' = g'.w)))
    clear hs1 hx1 hsg
    go_wp2_with fail
    refine wp_region_grow 15 (by kernel_rfl) (by kernel_rfl) ?_
    simp only [List.take_succ_cons, List.take_zero, List.drop_succ_cons, List.drop_zero]
    repeat (go_big_quiet_step (first | (go_at_call 265; exact HL1.out _) | (go_at_call 266; exact HC1.out _)))
    refine wpQuiet_nil ?_
    intro _ hw'
    obtain ⟨gr, hw''⟩ := hw'
    subst hw''
    have HB := Lib.hid (((Drawn.drewN w m).below w.heap.size).trans gr.h)
    cases z with
    | true =>
      go_wp2_with fail
      go_ret
      exact ⟨rfl, HB.out⟩
    | false =>
      go_wp2_with fail
      go_ret
      exact ⟨rfl, HB.out⟩
  · have hE2 : endB (bitD bs) N i = false := by
      rw [hE]
      exact decide_eq_false (fun h => by omega)
    rw [hE2]
    have d0 : decide ((7 : Int) < (L : Int)) = true := decide_eq_true (by omega)
    have d0' : decide (7 < L) = true := decide_eq_true (by omega)
    clear hs hx hN hvv hv he hE hE2 hL hLi
    go_enter Tryz.func197, Tryz.ntmps197
    go_wp2_with fail
    refine (HL.out w HS.out).mono ?_
    rintro e w1 ⟨rfl, m, rfl⟩
    go_wp2_with fail
    go_ret
    exact ⟨rfl, (Drawn.drewN w m).below _⟩
theorem rgamma_any (g : Nat) (A : Option Addr) (n c i most : Nat) (bs : List UInt8) (w : World) (hs : SR w g A n c i) (hx : Bytes w A n c bs) (hn : n ≤ 65536) (hi : i ≤ 8 * n) (hm : most ≤ 1000000) :
    Calls Tryz.prog 268 #[.pointer (some ⟨g, 0, none⟩), .int .i64 (most : Int)] w fun e w' => e = .returned (.tuple #[.int .i64 (((rgR (bitD bs) (8 * n) i).1 : Nat) : Int), .int .i64 (if (rgR (bitD bs) (8 * n) i).2.2 = 0 ∧ most < (rgR (bitD bs) (8 * n) i).1 then 2 else (rgR (bitD bs) (8 * n) i).2.2)]) ∧ SR w' g A n c (rgR (bitD bs) (8 * n) i).2.1 ∧ w.grownBy w' (some g) := by
  have HC := fun gr : Bwt.Gr w => (readGamma_any A n c i bs gr.w (hx.below gr.h) hn hi).mono (fun e w' h => (⟨h.1, ⟨w', gr.h.trans (h.2.mono gr.h.size)⟩, rfl⟩ : e = _ ∧ ∃ g' : Bwt.Gr w, w' = g'.w))
  have hsg : ∀ gr : Bwt.Gr w, SR gr.w g A n c i := fun gr => (gr.h.block _ hs.lt).trans hs
  have HS := Lib.hid hsg
  have c0 : ∀ gr : Bwt.Gr w, gr.w.cell? ⟨g, 0, none⟩ = some (.slice A n c) := fun gr => (hsg gr).cell rfl
  have c1 : ∀ gr : Bwt.Gr w, gr.w.cell? ⟨g, 1, none⟩ = some (.int .i64 ((8 * n : Nat) : Int)) := fun gr => (hsg gr).cell rfl
  have c2 : ∀ gr : Bwt.Gr w, gr.w.cell? ⟨g, 2, none⟩ = some (.int .i64 (i : Int)) := fun gr => (hsg gr).cell rfl
  obtain ⟨⟨v, j, er⟩, hR⟩ : ∃ R, R = rgR (bitD bs) (8 * n) i := ⟨_, rfl⟩
  rw [← hR] at HC ⊢
  dsimp only at HC ⊢
  obtain ⟨N, hN⟩ : ∃ N, N = 8 * n := ⟨_, rfl⟩
  rw [← hN] at c1 hi HC
  have hN8 : N ≤ 524288 := by omega
  replace HC := Lib.hid HC
  clear hs hx hN hR hsg
  by_cases he : er = 0
  · have q0 : (er == 0) = true := by simp [he]
    by_cases hmo : most < v
    · have d0 : decide ((most : Int) < (v : Int)) = true := decide_eq_true (by omega)
      have d0' : decide (most < v) = true := decide_eq_true hmo
      rw [if_pos ⟨he, hmo⟩]
      clear he hmo
      go_enter Tryz.func268, Tryz.ntmps268
      go_wp2
      refine wp_region_grow 15 (by kernel_rfl) (by kernel_rfl) ?_
      simp only [List.take_succ_cons, List.take_zero, List.drop_succ_cons, List.drop_zero]
      repeat (go_big_quiet_step (first | (go_at_call 310; exact HC.out _)))
      refine wpQuiet_nil ?_
      intro _ hw'
      obtain ⟨gr, hw''⟩ := hw'
      subst hw''
      have f2 := (HS.out gr).frozen 2
      have HG2 := Lib.hid (grown_below (some g) gr.h)
      go_wp2_with fail
      go_ret2
      refine ⟨rfl, (HS.out gr).set 2 _, grown_trans HG2.out (grown_set g 2 _)⟩
    · have d0 : decide ((most : Int) < (v : Int)) = false := decide_eq_false (by omega)
      have d0' : decide (most < v) = false := decide_eq_false hmo
      rw [if_neg (fun h => hmo h.2)]
      clear he hmo
      go_enter Tryz.func268, Tryz.ntmps268
      go_wp2
      refine wp_region_grow 15 (by kernel_rfl) (by kernel_rfl) ?_
      simp only [List.take_succ_cons, List.take_zero, List.drop_succ_cons, List.drop_zero]
      repeat (go_big_quiet_step (first | (go_at_call 310; exact HC.out _)))
      refine wpQuiet_nil ?_
      intro _ hw'
      obtain ⟨gr, hw''⟩ := hw'
      subst hw''
      have f2 := (HS.out gr).frozen 2
      have HG2 := Lib.hid (grown_below (some g) gr.h)
      go_wp2_with fail
      go_ret2
      refine ⟨rfl, (HS.out gr).set 2 _, grown_trans HG2.out (grown_set g 2 _)⟩
  · have q0 : (er == 0) = false := by simpa using he
    rw [if_neg (fun h => he h.1)]
    clear he
    go_enter Tryz.func268, Tryz.ntmps268
    go_wp2
    refine wp_region_grow 15 (by kernel_rfl) (by kernel_rfl) ?_
    simp only [List.take_succ_cons, List.take_zero, List.drop_succ_cons, List.drop_zero]
    repeat (go_big_quiet_step (first | (go_at_call 310; exact HC.out _)))
    refine wpQuiet_nil ?_
    intro _ hw'
    obtain ⟨gr, hw''⟩ := hw'
    subst hw''
    have f2 := (HS.out gr).frozen 2
    have HG2 := Lib.hid (grown_below (some g) gr.h)
    go_wp2_with fail
    go_ret2
    refine ⟨rfl, (HS.out gr).set 2 _, grown_trans HG2.out (grown_set g 2 _)⟩
end Go.Proofs.YtckkmafppfcecaaGreatDoor

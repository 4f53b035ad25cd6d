/- The walk of Count of layer 33. -/
import Derived.Test.YtoodfmilleodaaaBn
namespace Go.Proofs.Ytoodfmilleodaaa
open Go.RowKit Go.Proofs Go.Shelf
set_option linter.unusedVariables false
set_option linter.unusedSimpArgs false
attribute [local go_sem] Oper.semAt_some

theorem two (w : World) (o1 o2 : Obj) : ((w.alloc o1).alloc o2).heap[w.heap.size]? = some o1 ∧ ((w.alloc o1).alloc o2).heap[w.heap.size + 1]? = some o2 ∧ Below w.heap.size w ((w.alloc o1).alloc o2) ∧ ((w.alloc o1).alloc o2).heap.size = w.heap.size + 2 := by
  have s1 : (w.alloc o1).heap.size = w.heap.size + 1 := by simp
  have t2 := heap_alloc_new (w.alloc o1) o2
  have t1 := heap_alloc_new w o1
  rw [s1] at t2
  refine ⟨?_, t2, ?_, by simp⟩
  · rw [Below.heap_alloc _ _ _ (by omega)]; exact t1
  · exact (((Below.refl _ _).alloc (Nat.le_refl _) _).alloc (by omega) _)

theorem stAll_store (bs : List UInt8) : (Try.prog.info? 73).map (·.size) = some ((stAll bs).map (Value.int .i64)).toArray.size ∧ ((List.replicate 256 (0 : Int)).map (Value.int .i64)).toArray.size = ((stAll bs).map (Value.int .i64)).toArray.size ∧ ((stAll bs).map (Value.int .i64)).toArray.all (·.oneCell') = true := by
  refine ⟨by rw [iA]; simp [stAll], by rw [List.size_toArray, List.size_toArray, List.length_map, List.length_map, List.length_replicate]; simp [stAll], ?_⟩
  rw [Array.all_eq_true_iff_forall_mem]
  intro v hv
  rw [List.mem_toArray] at hv
  obtain ⟨z, _, rfl⟩ := List.mem_map.1 hv
  rfl

theorem cells_behind (W : World) (D B : Nat) (x : Int) (h1 : D ≠ B) (h2 : D ≠ B + 1) (r1 : Boxed W B 3 (.int .i64 0)) (r2 : Boxed W (B + 1) 25 (.int .i64 0)) :
    (((W.setCell ⟨B, 0, none⟩ (.int .i64 x)).setCell ⟨B + 1, 0, none⟩ (.int .i64 0)).putObj D (.deferred none)).cell? ⟨B, 0, none⟩ = some (.int .i64 x) ∧ (((W.setCell ⟨B, 0, none⟩ (.int .i64 x)).setCell ⟨B + 1, 0, none⟩ (.int .i64 0)).putObj D (.deferred none)).cell? ⟨B + 1, 0, none⟩ = some (.int .i64 0) := by
  have v1 : Boxed ((W.setCell ⟨B, 0, none⟩ (.int .i64 x)).setCell ⟨B + 1, 0, none⟩ (.int .i64 0)) B 3 (.int .i64 x) := (Below.heap_setCell _ ⟨B + 1, 0, none⟩ _ B (by show B ≠ B + 1; omega)).trans (r1.set _)
  have v2 : Boxed ((W.setCell ⟨B, 0, none⟩ (.int .i64 x)).setCell ⟨B + 1, 0, none⟩ (.int .i64 0)) (B + 1) 25 (.int .i64 0) := Boxed.set _ ((Below.heap_setCell _ ⟨B, 0, none⟩ _ (B + 1) (by show B + 1 ≠ B; omega)).trans r2)
  exact ⟨(v1.kept (grownBy_putObj' _ D _) (fun e => by injection e with e; omega)).cell, (v2.kept (grownBy_putObj' _ D _) (fun e => by injection e with e; omega)).cell⟩
theorem cnt_start {w w3 w4 : World} {A A' : Option Addr} {n c q S n' c' : Nat} {bs : List UInt8} (r1 : Boxed w3 w.heap.size 3 (.int .i64 0)) (r2 : Boxed w3 (w.heap.size + 1) 25 (.int .i64 0)) (rb : BoxR w3 S A n c q) (hb : Below w.heap.size w w3) (hS : w.heap.size + 2 ≤ S) (hs3 : S + 1 ≤ w3.heap.size)
    (hw4 : w4 = (((w3.alloc (.cells ((stAll bs).map (Value.int .i64)).toArray 73)).alloc (.cells #[.int .i64 0] 3)).alloc (.cells #[.int .i64 ((n : Int) + 1)] 3)).alloc (.cells #[.slice A' n' c'] 22)) :
    CntI w S w3.heap.size A n c q bs 0 (n + 1) w4 ∧ Boxed w4 (w3.heap.size + 3) 22 (.slice A' n' c') ∧ w4.heap.size = w3.heap.size + 4 := by
  obtain ⟨v1, h1⟩ : ∃ v, v = w3.alloc (.cells ((stAll bs).map (Value.int .i64)).toArray 73) := ⟨_, rfl⟩
  obtain ⟨v2, h2⟩ : ∃ v, v = v1.alloc (.cells #[.int .i64 0] 3) := ⟨_, rfl⟩
  obtain ⟨v3, h3⟩ : ∃ v, v = v2.alloc (.cells #[.int .i64 ((n : Int) + 1)] 3) := ⟨_, rfl⟩
  rw [← h1, ← h2, ← h3] at hw4
  have s1 : v1.heap.size = w3.heap.size + 1 := by rw [h1, World.size_alloc]
  have s2 : v2.heap.size = w3.heap.size + 2 := by rw [h2, World.size_alloc, s1]
  have s3 : v3.heap.size = w3.heap.size + 3 := by rw [h3, World.size_alloc, s2]
  have s4 : w4.heap.size = w3.heap.size + 4 := by rw [hw4, World.size_alloc, s3]
  have t1 : Row (Value.int .i64) v1 w3.heap.size 73 (stAll bs) := by rw [h1]; exact Row.new w3 _ _
  have t2 := Boxed.new v1 3 (.int .i64 0)
  have t3 := Boxed.new v2 3 (.int .i64 ((n : Int) + 1))
  have t4 := Boxed.new v3 22 (.slice A' n' c')
  rw [← h2, s1] at t2
  rw [← h3, s2] at t3
  rw [← hw4, s3] at t4
  have g1 : Below w3.heap.size w3 v1 := by rw [h1]; exact (Below.refl _ _).alloc (Nat.le_refl _) _
  have g2 : Below v1.heap.size v1 v2 := by rw [h2]; exact (Below.refl _ _).alloc (Nat.le_refl _) _
  have g3 : Below v2.heap.size v2 v3 := by rw [h3]; exact (Below.refl _ _).alloc (Nat.le_refl _) _
  have g4 : Below v3.heap.size v3 w4 := by rw [hw4]; exact (Below.refl _ _).alloc (Nat.le_refl _) _
  have ga : Below w3.heap.size w3 w4 := ((g1.trans (g2.mono (by omega))).trans (g3.mono (by omega))).trans (g4.mono (by omega))
  refine ⟨⟨Boxed.below' r1 ga (by omega), Boxed.below' r2 ga (by omega), rb.below ga (by omega), ?_, ?_, ?_, hb.trans (ga.mono hb.size), by omega⟩, t4, s4⟩
  · exact ((t1.below g2 (by omega)).below g3 (by omega)).below g4 (by omega)
  · exact Boxed.below' (Boxed.below' t2 g3 (by omega)) g4 (by omega)
  · have := Boxed.below' t3 g4 (by omega)
    rw [show ((n + 1 : Nat) : Int) = (n : Int) + 1 by omega]; exact this

theorem cell_setCell_far {W : World} {p q : Addr} (v : Value) (h : q.block ≠ p.block) : (W.setCell p v).cell? q = W.cell? q := by
  have := Below.heap_setCell W p v q.block h
  simp only [World.cell?]
  rw [this]
theorem frozen_setCell_far {W : World} {p q : Addr} (v : Value) (h : q.block ≠ p.block) : (W.setCell p v).frozen? q = W.frozen? q := by
  have := Below.heap_setCell W p v q.block h
  simp only [World.frozen?]
  rw [this]
/-- the values of the region that narrows the rows. -/
def cntV (A : Option Addr) (n c q T m lo hi x1 x2 x3 : Nat) : Nat → Value
  | 0 => .int .u8 (m : Int)
  | 1 => .pointer (some ⟨T, m, none⟩)
  | 2 => .int .i64 (1 + (x1 : Int))
  | 3 => .agg #[.slice A n c, .int .i64 (q : Int)]
  | 4 => .int .i64 (lo : Int)
  | 5 => .int .u8 (m : Int)
  | 6 => .int .i64 (x2 : Int)
  | 7 => .int .i64 (1 + (x1 : Int) + (x2 : Int))
  | 8 => .int .u8 (m : Int)
  | 9 => .pointer (some ⟨T, m, none⟩)
  | 10 => .int .i64 (1 + (x1 : Int))
  | 11 => .agg #[.slice A n c, .int .i64 (q : Int)]
  | 12 => .int .i64 (hi : Int)
  | 13 => .int .u8 (m : Int)
  | 14 => .int .i64 (x3 : Int)
  | 15 => .int .i64 (1 + (x1 : Int) + (x3 : Int))
  | _ => undef
/-- the world behind the first store, and behind both. -/
def cntW (T lo' hi' : Nat) : Bool → Bool → World → World
  | false, false, x => x
  | true, false, x => x.setCell ⟨T + 1, 0, none⟩ (.int .i64 (lo' : Int))
  | false, true, x => x
  | true, true, x => (x.setCell ⟨T + 1, 0, none⟩ (.int .i64 (lo' : Int))).setCell ⟨T + 2, 0, none⟩ (.int .i64 (hi' : Int))
def cntC (W : World) (T lo' hi' : Nat) (listed : Array Bool) (w' : World) : Prop :=
  (∃ g : Gr W, w' = cntW T lo' hi' (listed.getD 16 false) (listed.getD 17 false) g.w) ∧ (listed.getD 16 false = true → ∀ j, (j < 8 ∨ 11 ≤ j ∧ j < 15) → listed.getD j false = true) ∧ (listed.getD 17 false = true → listed.getD 16 false = true ∧ ∀ j, j < 16 → listed.getD j false = true) ∧ (listed.getD 14 false = true → ∀ j, 11 ≤ j → j < 14 → listed.getD j false = true)
section
variable {W w' : World} {T lo' hi' : Nat} {listed : Array Bool}
theorem getD_rep (n j : Nat) : (Array.replicate n false).getD j false = false := by
  rw [Array.getD_eq_getD_getElem?, Array.getElem?_replicate]
  split <;> rfl
theorem cntC.start (W : World) (T lo' hi' : Nat) : cntC W T lo' hi' (Array.replicate 18 false) W.drew := by
  have h : ∀ j, (Array.replicate 18 false).getD j false = false := getD_rep 18
  refine ⟨⟨⟨W.drew, (Drawn.drewN W 1).below _⟩, ?_⟩, fun e => ?_, fun e => ?_, fun e => ?_⟩
  · rw [h, h]; rfl
  · rw [h] at e; cases e
  · rw [h] at e; cases e
  · rw [h] at e; cases e
theorem cntC.off17 (h : cntC W T lo' hi' listed w') {j : Nat} (hun : listed.getD j false = false) (hj : j < 16) : listed.getD 17 false = false := by
  cases hc : listed.getD 17 false with
  | false => rfl
  | true => have := (h.2.2.1 hc).2 j hj; rw [hun] at this; cases this
theorem cntC.off16 (h : cntC W T lo' hi' listed w') {j : Nat} (hun : listed.getD j false = false) (hj : j < 8 ∨ 11 ≤ j ∧ j < 15) : listed.getD 16 false = false := by
  cases hc : listed.getD 16 false with
  | false => rfl
  | true => have := h.2.1 hc j hj; rw [hun] at this; cases this
theorem cntC.early (h : cntC W T lo' hi' listed w') {j : Nat} (hun : listed.getD j false = false) (hj : j < 8 ∨ 11 ≤ j ∧ j < 15) : ∃ g : Gr W, w' = g.w := by
  have h1 := h.off16 hun hj
  have h2 := h.off17 hun (by omega)
  obtain ⟨g, hg⟩ := h.1
  rw [h1, h2] at hg
  exact ⟨g, hg⟩
theorem cntC.set (h : cntC W T lo' hi' listed w') {i : Nat} (hi : i < 16 ∧ i ≠ 14) (hs : i < listed.size) : cntC W T lo' hi' (listed.setIfInBounds i true) w' := by
  have e : ∀ j, listed.getD j false = true → (listed.setIfInBounds i true).getD j false = true := fun j hj => by rw [getD_set' _ _ _ hs, hj]; split <;> rfl
  have e16 : (listed.setIfInBounds i true).getD 16 false = listed.getD 16 false := by rw [getD_set' _ _ _ hs, if_neg (by omega)]
  have e17 : (listed.setIfInBounds i true).getD 17 false = listed.getD 17 false := by rw [getD_set' _ _ _ hs, if_neg (by omega)]
  have e14 : (listed.setIfInBounds i true).getD 14 false = listed.getD 14 false := by rw [getD_set' _ _ _ hs, if_neg (by omega)]
  refine ⟨?_, ?_, ?_, ?_⟩
  · rw [e16, e17]; exact h.1
  · rw [e16]; exact fun hc j hj => e j (h.2.1 hc j hj)
  · rw [e16, e17]; exact fun hc => ⟨(h.2.2.1 hc).1, fun j hj => e j ((h.2.2.1 hc).2 j hj)⟩
  · rw [e14]; exact fun hc j h1 h2 => e j (h.2.2.2 hc j h1 h2)
theorem cntC.call (h : cntC W T lo' hi' listed w') {i : Nat} (hi : i < 16) (hj : i < 8 ∨ 11 ≤ i ∧ i < 15) (hun : listed.getD i false = false) (hs : i < listed.size) (h14 : i = 14 → ∀ j, 11 ≤ j → j < 14 → listed.getD j false = true) (g : Gr W) : cntC W T lo' hi' (listed.setIfInBounds i true) g.w := by
  have h1 := h.off16 hun hj
  have h2 := h.off17 hun hi
  have e16 : (listed.setIfInBounds i true).getD 16 false = false := by rw [getD_set' _ _ _ hs, if_neg (by omega)]; exact h1
  have e17 : (listed.setIfInBounds i true).getD 17 false = false := by rw [getD_set' _ _ _ hs, if_neg (by omega)]; exact h2
  refine ⟨⟨g, by rw [e16, e17]; rfl⟩, fun e => ?_, fun e => ?_, fun e j h3 h4 => ?_⟩
  · rw [e16] at e; cases e
  · rw [e17] at e; cases e
  · have : listed.getD j false = true := by
      by_cases hi14 : i = 14
      · exact h14 hi14 j h3 h4
      · rw [getD_set' _ _ _ hs, if_neg hi14] at e
        exact h.2.2.2 e j h3 h4
    rw [getD_set' _ _ _ hs, this]; split <;> rfl
theorem cntC.mem (h : cntC W T lo' hi' listed w') {j : Nat} (hun : listed.getD j false = false) (hj : j < 16) {m : Nat} {v : Value} (hv : ∀ g : Gr W, g.w.cell? ⟨T, m, none⟩ = some v) : w'.cell? ⟨T, m, none⟩ = some v := by
  have h2 := h.off17 hun hj
  obtain ⟨g, hg⟩ := h.1
  rw [h2] at hg
  cases hc : listed.getD 16 false with
  | false => rw [hc] at hg; rw [hg]; exact hv g
  | true =>
    rw [hc] at hg
    rw [hg]
    show (g.w.setCell ⟨T + 1, 0, none⟩ _).cell? _ = _
    have := Below.heap_setCell g.w ⟨T + 1, 0, none⟩ (.int .i64 (lo' : Int)) T (by show T ≠ T + 1; omega)
    have hv' := hv g
    simp only [World.cell?] at hv' ⊢
    rw [this]; exact hv'
end

set_option maxRecDepth 100000 in
set_option maxHeartbeats 4000000 in
theorem count_any (A A' : Option Addr) (n c n' c' : Nat) (p : Int) (bs pat : List UInt8) (w : World) (hx : Bytes w A n c bs) (hy : Bytes w A' n' c' pat) (hn : n ≤ 1000000000) (hn' : n' ≤ 1000000000) :
    Calls Try.prog 18 #[.slice A n c, .int .i64 p, .slice A' n' c'] w fun e w' => e = .returned (.tuple #[.int .i64 (cntRes bs p pat), .int .i64 (cntErr bs p pat)]) ∧ Below w.heap.size w w' := by
  have Hn := Lib.hid hx.1
  have Hn' := Lib.hid hy.1
  obtain ⟨k1, k2, hb0, hs0⟩ := two w (.cells #[.int .i64 0] 3) (.cells #[.int .i64 0] 25)
  have hcal := inverseP_any A n c p bs _ (hx.below hb0) hn
  have Hcal := Lib.hid hcal; clear hcal
  have z1 := zA
  refine calls_of_marks Try.func18 rfl ?_
  simp only [Try.ntmps18, List.size_toArray, List.length_cons, List.length_nil, Nat.reduceAdd, Nat.reduceSub, Array.replicate_succ, Array.replicate_zero, List.push_toArray, List.append_toArray, List.nil_append, List.cons_append]
  go_wp2_with fail
  refine Hcal.out.mono ?_
  rintro e w1 ⟨A3, n3, c3, rfl, -, hb1⟩
  rw [hs0] at hb1
  have r1 : Boxed w1 w.heap.size 3 (.int .i64 0) := (hb1.block _ (by omega)).trans k1
  have r2 : Boxed w1 (w.heap.size + 1) 25 (.int .i64 0) := (hb1.block _ (by omega)).trans k2
  have hbw1 : Below w.heap.size w w1 := hb0.trans (hb1.mono (by omega))
  have hsw1 := hb1.size
  rw [hs0] at hsw1
  have b1 := r1.cell
  have b2 := r2.cell
  have f1 := r1.frozen
  have f2 := r2.frozen
  clear Hcal k1 k2 hb0 hb1 hs0
  have ends : Hid (∀ x : Int, Below w.heap.size w ((w1.setCell ⟨w.heap.size, 0, none⟩ (.int .i64 0)).setCell ⟨w.heap.size + 1, 0, none⟩ (.int .i64 x))) := fun x => (hbw1.setCell (p := ⟨w.heap.size, 0, none⟩) (by show _ ≤ w.heap.size; omega) _).setCell (p := ⟨w.heap.size + 1, 0, none⟩) (by show _ ≤ w.heap.size + 1; omega) _
  by_cases h0 : invErr bs p = 0
  · have hl0 : limE n p = 0 := by
      unfold invErr at h0
      rw [Hn.out] at h0
      by_cases h : limE n p = 0
      · exact h
      · rw [if_neg h] at h0; exact absurd h0 h
    obtain ⟨hn2, hp0, hpn⟩ := limE_zero hl0
    clear hl0
    rw [h0]
    by_cases h1 : 65536 < n'
    · have hR : Hid (cntRes bs p pat = 0 ∧ cntErr bs p pat = 5) := by
        show _ ∧ _
        have e1 : cntErr bs p pat = 5 := by unfold cntErr; rw [if_neg (by rw [h0]; simp), Hn'.out, if_pos h1]
        unfold cntRes
        rw [e1, if_neg (by decide)]; exact ⟨rfl, rfl⟩
      have d1 : decide ((65536 : Int) < (n' : Int)) = true := by simp; omega
      have d2 : decide (65536 < n') = true := by simp; omega
      clear h0
      go_wp2_with fail
      rw [hR.out.1, hR.out.2]
      refine .inl ⟨rfl, .tuple #[.int .i64 0, .int .i64 5], ?_, rfl, ends.out 5⟩
      simp [results, Try.results18, go_sem, b1, b2]
    · have hR : Hid (cntRes bs p pat = (cntN p.toNat bs pat : Int) ∧ cntErr bs p pat = 0) := by
        show _ ∧ _
        have e1 : cntErr bs p pat = 0 := by unfold cntErr; rw [if_neg (by rw [h0]; simp), Hn'.out, if_neg h1]
        unfold cntRes
        rw [e1, if_pos rfl]; exact ⟨rfl, rfl⟩
      have d1 : decide ((65536 : Int) < (n' : Int)) = false := by simp; omega
      have d2 : decide (65536 < n') = false := by simp; omega
      clear h0 ends
      obtain ⟨q, rfl⟩ : ∃ q : Nat, p = (q : Int) := ⟨p.toNat, by omega⟩
      rw [Int.toNat_natCast] at hR
      have hcal := starts_any A n c q bs _ ((hx.below hbw1).alloc (.cells #[.slice A n c, .int .i64 (q : Int)] 66)) hn2
      unfold rowsV at hcal
      have Hcal := Lib.hid hcal; clear hcal
      go_wp2_with fail
      refine Hcal.out.mono ?_
      rintro e w3 ⟨rfl, hb3⟩
      rw [World.size_alloc] at hb3
      have hs3 := hb3.size
      rw [World.size_alloc] at hs3
      have hS : w.heap.size + 2 ≤ w1.heap.size := hsw1
      have rb : BoxR w3 w1.heap.size A n c q := by
        have := Row.new (enc := id) w1 66 [.slice A n c, .int .i64 (q : Int)]
        exact this.below hb3 (Nat.lt_succ_self _)
      have gg : Below w1.heap.size w1 w3 := ((Below.refl _ _).alloc (Nat.le_refl _) _).trans (hb3.mono (Nat.le_succ _))
      have r1' := Boxed.below' r1 gg (by omega)
      have r2' := Boxed.below' r2 gg (by omega)
      have hbw3 : Below w.heap.size w w3 := hbw1.trans (gg.mono (by omega))
      obtain ⟨S, hSe⟩ : ∃ S, S = w1.heap.size := ⟨_, rfl⟩
      rw [← hSe] at rb hS hs3 ⊢
      clear r1 r2 b1 b2 f1 f2 Hcal hb3 gg hSe hbw1 hsw1
      have rz := Lib.hid (zeroRow (heap_alloc_new w3 (.cells zeroC 73)))
      have Hall : Hid ((Try.prog.info? 73).map (·.size) = some ((stAll bs).map (Value.int .i64)).toArray.size ∧ ((List.replicate 256 (0 : Int)).map (Value.int .i64)).toArray.size = ((stAll bs).map (Value.int .i64)).toArray.size ∧ ((stAll bs).map (Value.int .i64)).toArray.all (·.oneCell') = true) := stAll_store bs
      go_wp2_with (refine wpList_store_row rfl 73 (.tmp 11) (.tmp 32) rfl _ ((stAll bs).map (Value.int .i64)).toArray rfl rfl _ _ rz.out Hall.out.1 Hall.out.2.1 Hall.out.2.2 ?_; rw [World.setRow_alloc_new])
      refine (backward_any _ _ _ _).mono ?_
      rintro e w4 ⟨rfl, hw4⟩
      have Hw4 := Lib.hid hw4; clear hw4
      go_wp2_with fail
      obtain ⟨hI0, hbx4, hs4⟩ := cnt_start (n := n) (c := c) (q := q) r1' r2' rb hbw3 hS hs3 Hw4.out
      have Hs4 := Lib.hid hs4; clear hs4
      have Hstart : Hid (CntI w S w3.heap.size A n c q bs (rngTo q bs pat 0).1 (rngTo q bs pat 0).2 w4) := by show CntI _ _ _ _ _ _ _ _ _ _ _; rw [rngTo, Hn.out]; exact hI0
      have hbel4 := hI0.below
      obtain ⟨T, hT⟩ : ∃ T, T = w3.heap.size := ⟨_, rfl⟩
      rw [← hT] at Hs4 hbx4 Hstart hs3 ⊢
      clear Hw4 r1' r2' rb hbw3 rz Hall hI0 hT z1
      have hbs : Hid (bs.length ≤ 65536) := by show _ ≤ _; rw [Hn.out]; exact hn2
      refine wp_rangeFunc_row2 (G := fun u v t => ((t.setIfInBounds 38 u).setIfInBounds 39 v).setIfInBounds 15 v) (u := fun k => .int .i64 ((n' : Int) - 1 - k)) (v := fun k => .int .u8 (gb pat (n' - 1 - k))) rfl (enters_of Try.func68 (by kernel_rfl) rfl) (backward1_gives w A' n' c' pat hy hn' (T + 3) (by omega))
        (fun o1 o2 => ⟨(hbx4.alloc _).alloc _, (hbel4.alloc hbel4.size _).alloc (by have := hbel4.size; simp; omega) _⟩)
        (fun A B hab => by rw [hab]; exact KeepsFrom.refl _ _)
        (fun h1 h2 => ⟨h2.1.trans h1.1, h1.2.trans h2.2⟩)
        (fun W l o o' hl hlo ho => ⟨World.putObj_heap_other (by rw [Hs4.out] at hl; omega), ((Below.refl _ _).grown (grownBy_putObj' W l o') (by have := (Array.getElem?_eq_some_iff.1 hlo).1; rw [Hs4.out] at hl; omega) (fun k e => by cases e; rw [Hs4.out] at hl; omega))⟩)
        (fun k => CntI w S T A n c q bs (rngTo q bs pat k).1 (rngTo q bs pat k).2) (fun c' k W => c' = .ret ∧ cntN q bs pat = 0 ∧ CntI w S T A n c q bs (rngTo q bs pat (k - 1)).1 (rngTo q bs pat (k - 1)).2 W) ?hI ?hIx (fun k A B h hab => by rw [hab]; exact h) (fun _ _ _ _ h hab => by rw [hab]; exact h) Hstart.out ?assign ?body ?done ?stop
      case hI => exact fun s W W' row h hg hr => h.kept hS hs3 hg (fun r e => by have := (hr r e).1; rw [Hs4.out] at this; omega)
      case hIx => exact fun c' s W W' row h hg hr => ⟨h.1, h.2.1, h.2.2.kept hS hs3 hg (fun r e => by have := (hr r e).1; rw [Hs4.out] at this; omega)⟩
      case assign =>
        intro l k W K hK
        simp only [List.setIfInBounds_toArray, List.set_cons_succ, List.set_cons_zero] at hK ⊢
        gi_wp2
        exact hK
      case done =>
        intro D W hD hI hdef
        rw [Hs4.out] at hD
        have q1 := hI.low.cell
        have q2 := hI.high.cell
        have q3 := hI.r1.cell
        have q4 := hI.r2.cell
        have q5 := hI.r1.frozen
        have q6 := hI.r2.frozen
        have hle := rngTo_le q bs pat hbs.out n'
        have hbw := hI.below
        have hcn : Hid ((cntN q bs pat : Int) = max 0 (((rngTo q bs pat n').2 : Int) - ((rngTo q bs pat n').1 : Int))) := by show _ = _; unfold cntN; rw [Hn'.out]; omega
        obtain ⟨lo, hlo⟩ : ∃ lo, lo = (rngTo q bs pat n').1 := ⟨_, rfl⟩
        obtain ⟨hi, hhi⟩ : ∃ hi, hi = (rngTo q bs pat n').2 := ⟨_, rfl⟩
        rw [← hlo] at q1 hle hcn
        rw [← hhi] at q2 hle hcn
        clear hlo hhi
        go_wp2_with fail
        rw [hR.out.1, hR.out.2, hcn.out]
        have hne1 : D ≠ w.heap.size := by omega
        have hne2 : D ≠ w.heap.size + 1 := by omega
        refine .inr ⟨D, rfl, ?_, .tuple #[.int .i64 (max 0 ((hi : Int) - (lo : Int))), .int .i64 0], ?_, rfl, ?_⟩
        · exact (Below.heap_setCell _ ⟨w.heap.size + 1, 0, none⟩ _ D hne2).trans ((Below.heap_setCell _ ⟨w.heap.size, 0, none⟩ _ D hne1).trans hdef)
        · have u1 := cells_behind W D w.heap.size (max 0 ((hi : Int) - (lo : Int))) hne1 hne2 hI.r1 hI.r2
          simp [results, Try.results18, go_sem, u1.1, u1.2]
        · refine Below.grown ?_ (grownBy_putObj' _ D _) (by simp [World.setCell]; have := hbw.size; omega) (fun k e => by cases e; omega)
          exact (hbw.setCell (p := ⟨w.heap.size, 0, none⟩) (by show _ ≤ w.heap.size; omega) _).setCell (p := ⟨w.heap.size + 1, 0, none⟩) (by show _ ≤ w.heap.size + 1; omega) _
      case stop =>
        intro D c' k W hD hk hI hdef
        obtain ⟨rfl, hz, hI⟩ := hI
        rw [Hs4.out] at hD
        have q3 := hI.r1.cell
        have q4 := hI.r2.cell
        go_wp2_with fail
        rw [hR.out.1, hR.out.2, hz]
        refine .inr ⟨D, rfl, hdef, .tuple #[.int .i64 0, .int .i64 0], ?_, rfl, hI.below.grown (grownBy_putObj' _ D _) hI.below.size (fun k e => by cases e; omega)⟩
        have v1 : Boxed (W.putObj D (.deferred none)) w.heap.size 3 (.int .i64 0) := hI.r1.kept (grownBy_putObj' _ D _) (fun e => by injection e with e; omega)
        have v2 : Boxed (W.putObj D (.deferred none)) (w.heap.size + 1) 25 (.int .i64 0) := hI.r2.kept (grownBy_putObj' _ D _) (fun e => by injection e with e; omega)
        simp [results, Try.results18, go_sem, v1.cell, v2.cell]
      case body =>
        intro l k W hk hl hI
        have HI := Lib.hid hI
        simp only [List.setIfInBounds_toArray, List.set_cons_succ, List.set_cons_zero]
        have q1 := hI.low.cell
        have q2 := hI.high.cell
        have q3 := hI.r1.cell
        have q4 := hI.r2.cell
        have q5 := hI.r1.frozen
        have q6 := hI.r2.frozen
        have hle := rngTo_le q bs pat hbs.out k
        rw [gb_bn]
        have hempty : Hid ((rngTo q bs pat k).2 ≤ (rngTo q bs pat k).1 → cntN q bs pat = 0) := fun h => by
          have := rngTo_empty h (m := pat.length) (by rw [Hn'.out]; omega)
          unfold cntN; omega
        have hnx : Hid (rngTo q bs pat (k + 1) = (1 + lessN bs (bn pat (n' - 1 - k)) + befN q bs (rngTo q bs pat k).1 (bn pat (n' - 1 - k)), 1 + lessN bs (bn pat (n' - 1 - k)) + befN q bs (rngTo q bs pat k).2 (bn pat (n' - 1 - k)))) := by show _ = _; rw [rngTo, Hn'.out]
        have hm := bn_lt pat (n' - 1 - k)
        obtain ⟨m, hme⟩ : ∃ m, m = bn pat (n' - 1 - k) := ⟨_, rfl⟩
        obtain ⟨lo, hlo⟩ : ∃ lo, lo = (rngTo q bs pat k).1 := ⟨_, rfl⟩
        obtain ⟨hi, hhi⟩ : ∃ hi, hi = (rngTo q bs pat k).2 := ⟨_, rfl⟩
        rw [← hme] at hm hnx ⊢
        rw [← hlo] at q1 hle hnx HI hempty
        rw [← hhi] at q2 hle hnx HI hempty
        have Hlo := Lib.hid hlo
        have Hhi := Lib.hid hhi
        clear hlo hhi hI hme
        by_cases hge : hi ≤ lo
        · have d1 : decide ((hi : Int) ≤ (lo : Int)) = true := by simp; omega
          have d2 : decide (hi ≤ lo) = true := by simp; omega
          gi_wp2
          rw [Hs4.out]
          refine ⟨(HI.out.stop hS hs3).1, rfl, hempty.out hge, ?_⟩
          rw [Nat.add_sub_cancel, ← Hlo.out, ← Hhi.out]
          exact (HI.out.stop hS hs3).2
        · have d1 : decide ((hi : Int) ≤ (lo : Int)) = false := by simp; omega
          have d2 : decide (hi ≤ lo) = false := by simp; omega
          have g1 : ∀ g : Gr W, g.w.cell? ⟨T + 1, 0, none⟩ = some (.int .i64 (lo : Int)) := fun g => (HI.out.grow g.h).low.cell
          have g2 : ∀ g : Gr W, g.w.cell? ⟨T + 1 + 1, 0, none⟩ = some (.int .i64 (hi : Int)) := fun g => (HI.out.grow g.h).high.cell
          have g3 : ∀ g : Gr W, g.w.frozen? ⟨T + 1, 0, none⟩ = false := fun g => (HI.out.grow g.h).low.frozen
          have g4 : ∀ g : Gr W, g.w.frozen? ⟨T + 1 + 1, 0, none⟩ = false := fun g => (HI.out.grow g.h).high.frozen
          have g5 : ∀ g : Gr W, g.w.cell? ⟨S, 0, none⟩ = some (.slice A n c) := fun g => (HI.out.grow g.h).box.cell (j := 0) undef (by simp)
          have g6 : ∀ g : Gr W, g.w.cell? ⟨S, 1, none⟩ = some (.int .i64 (q : Int)) := fun g => (HI.out.grow g.h).box.cell (j := 1) undef (by simp)
          have g7 : ∀ g : Gr W, g.w.cell? ⟨T, m, none⟩ = some (.int .i64 (1 + (lessN bs m : Int))) := fun g => by
            have := (HI.out.grow g.h).st.cell (j := m) 0 (by simp [stAll]; exact hm)
            rw [this]; show some (Value.int .i64 (gi _ _)) = _; rw [gi_stAll hm, stB_eq]
          have hcalls : Hid (∀ (g : Gr W) (r : Nat), Calls Try.prog 43 #[.agg #[.slice A n c, .int .i64 (q : Int)], .int .i64 (r : Int), .int .u8 (m : Int)] g.w fun e w' => e = .returned (.int .i64 (befN q bs r m : Int)) ∧ ∃ g' : Gr W, w' = g'.w) := fun g r => by
            refine (before_any A n c q r m bs g.w (hx.below (HI.out.grow g.h).below) hn2 (by omega)).mono ?_
            rintro e w' ⟨rfl, hb⟩
            exact ⟨rfl, ⟨w', g.h.trans (hb.mono g.h.size)⟩, rfl⟩
          have l1 := lessN_le bs m
          have l2 := befN_le q bs lo m
          have l3 := befN_le q bs hi m
          have hbs' := hbs.out
          have hstep : Hid (∀ g : Gr W, _) := fun g : Gr W => HI.out.step hS hs3 g.h (1 + lessN bs m + befN q bs lo m) (1 + lessN bs m + befN q bs hi m)
          obtain ⟨x1, hx1⟩ : ∃ x, x = lessN bs m := ⟨_, rfl⟩
          obtain ⟨x2, hx2⟩ : ∃ x, x = befN q bs lo m := ⟨_, rfl⟩
          obtain ⟨x3, hx3⟩ : ∃ x, x = befN q bs hi m := ⟨_, rfl⟩
          have hc1 : Hid (∀ g : Gr W, Calls Try.prog 43 #[.agg #[.slice A n c, .int .i64 (q : Int)], .int .i64 (lo : Int), .int .u8 (m : Int)] g.w fun e w' => e = .returned (.int .i64 (x2 : Int)) ∧ ∃ g' : Gr W, w' = g'.w) := fun g => by rw [hx2]; exact hcalls.out g lo
          have hc2 : Hid (∀ g : Gr W, Calls Try.prog 43 #[.agg #[.slice A n c, .int .i64 (q : Int)], .int .i64 (hi : Int), .int .u8 (m : Int)] g.w fun e w' => e = .returned (.int .i64 (x3 : Int)) ∧ ∃ g' : Gr W, w' = g'.w) := fun g => by rw [hx3]; exact hcalls.out g hi
          rw [← hx1, ← hx2, ← hx3] at hstep hnx
          rw [← hx1] at g7 l1
          rw [← hx2] at l2
          rw [← hx3] at l3
          clear hx1 hx2 hx3 hcalls HI hempty hge
          gi_wp2
          refine wpIn_region_inv (SlotInv 63 43 16 [(10, .pointer (some ⟨S, 0, none⟩)), (11, .pointer (some ⟨T, 0, none⟩)), (12, .pointer (some ⟨T + 1, 0, none⟩)), (13, .pointer (some ⟨T + 1 + 1, 0, none⟩)), (15, .int .u8 (m : Int))] (cntV A n c q T m lo hi x1 x2 x3) (cntC W T (1 + x1 + x2) (1 + x1 + x3))) (by kernel_rfl) (by kernel_rfl) (by kernel_rfl) ?start ?step ?last
          case start =>
            refine ⟨rfl, ?_, fun j _ h => ?_, ?_⟩
            · intro x hx
              simp only [List.mem_cons, List.not_mem_nil, or_false] at hx
              rcases hx with rfl | rfl | rfl | rfl | rfl <;> rfl
            · exact absurd ((getD_rep _ j).symm.trans h) (by decide)
            · exact cntC.start W T _ _
          case last =>
            intro listed a w' hall hJ
            obtain ⟨⟨g, rfl⟩, -⟩ := hJ.world
            rw [hall 16 (by decide), hall 17 (by decide)]
            gi_wp2
            rw [Hs4.out]
            refine ⟨(hstep.out g).1, (hstep.out g).2.1, ?_⟩
            show CntI w S T A n c q bs (rngTo q bs pat (k + 1)).1 (rngTo q bs pat (k + 1)).2 _
            rw [hnx.out]
            exact (hstep.out g).2.2
          case step =>
            intro i o listed a w' ho hun hd hsz hJ
            have hsz' : listed.size = 18 := hsz
            have hi18 : i < 18 := (List.getElem?_eq_some_iff.1 ho).1
            have b10 : a.eval (.tmp 10) = .pointer (some ⟨S, 0, none⟩) := hJ.base (10, _) (by simp)
            have b11 : a.eval (.tmp 11) = .pointer (some ⟨T, 0, none⟩) := hJ.base (11, _) (by simp)
            have b12 : a.eval (.tmp 12) = .pointer (some ⟨T + 1, 0, none⟩) := hJ.base (12, _) (by simp)
            have b13 : a.eval (.tmp 13) = .pointer (some ⟨T + 1 + 1, 0, none⟩) := hJ.base (13, _) (by simp)
            have b15 : a.eval (.tmp 15) = .int .u8 (m : Int) := hJ.base (15, _) (by simp)
            have put := fun (i : Nat) (hi : i < 16) (w'' : World) (hC : cntC W T (1 + x1 + x2) (1 + x1 + x3) (listed.setIfInBounds i true) w'') => hJ.put hi (by decide) (by intro x hx; simp only [List.mem_cons, List.not_mem_nil, or_false] at hx; rcases hx with rfl | rfl | rfl | rfl | rfl <;> simp) (by omega : i < listed.size) hC
            simp only [Act.eval, Array.getD_eq_getD_getElem?] at b10 b11 b12 b13 b15
            match i, hi18 with
            | 0, _ =>
              injection (show some _ = some o from ho) with ho'
              subst ho'
              refine ⟨by simp [Region.wanted], wp_value (v := cntV A n c q T m lo hi x1 x2 x3 0) ?_ (put 0 (by omega) _ (hJ.world.set (by decide) (by omega)))⟩
              simp [go_sem, cntV, b10, b11, b12, b13, b15, hm]
            | 1, _ =>
              injection (show some _ = some o from ho) with ho'
              subst ho'
              have e0 := hJ.got 0 (by omega) (hd ⟨0, .data⟩ (by simp) rfl)
              simp only [cntV, Act.eval, Array.getD_eq_getD_getElem?] at e0
              refine ⟨by simp [Region.wanted], wp_value (v := cntV A n c q T m lo hi x1 x2 x3 1) ?_ (put 1 (by omega) _ (hJ.world.set (by decide) (by omega)))⟩
              simp [go_sem, cntV, e0, b10, b11, b12, b13, b15, hm]
              intro h
              omega
            | 2, _ =>
              injection (show some _ = some o from ho) with ho'
              subst ho'
              have e1 := hJ.got 1 (by omega) (hd ⟨1, .data⟩ (by simp) rfl)
              simp only [cntV, Act.eval, Array.getD_eq_getD_getElem?] at e1
              obtain ⟨g, hg⟩ := hJ.world.early (j := 2) hun (by decide)
              refine ⟨by simp [Region.wanted], wp_value (v := cntV A n c q T m lo hi x1 x2 x3 2) ?_ (put 2 (by omega) _ (hJ.world.set (by decide) (by omega)))⟩
              simp [go_sem, cntV, e1, b10, b11, b12, b13, b15, hm, hg, g1, g2, g5, g6, g7]
            | 3, _ =>
              injection (show some _ = some o from ho) with ho'
              subst ho'
              obtain ⟨g, hg⟩ := hJ.world.early (j := 3) hun (by decide)
              refine ⟨by simp [Region.wanted], wp_value (v := cntV A n c q T m lo hi x1 x2 x3 3) ?_ (put 3 (by omega) _ (hJ.world.set (by decide) (by omega)))⟩
              simp [go_sem, cntV, b10, b11, b12, b13, b15, hm, hg, g1, g2, g5, g6, g7]
            | 4, _ =>
              injection (show some _ = some o from ho) with ho'
              subst ho'
              obtain ⟨g, hg⟩ := hJ.world.early (j := 4) hun (by decide)
              refine ⟨by simp [Region.wanted], wp_value (v := cntV A n c q T m lo hi x1 x2 x3 4) ?_ (put 4 (by omega) _ (hJ.world.set (by decide) (by omega)))⟩
              simp [go_sem, cntV, b10, b11, b12, b13, b15, hm, hg, g1, g2, g5, g6, g7]
            | 5, _ =>
              injection (show some _ = some o from ho) with ho'
              subst ho'
              refine ⟨by simp [Region.wanted], wp_value (v := cntV A n c q T m lo hi x1 x2 x3 5) ?_ (put 5 (by omega) _ (hJ.world.set (by decide) (by omega)))⟩
              simp [go_sem, cntV, b10, b11, b12, b13, b15, hm]
            | 6, _ =>
              injection (show some _ = some o from ho) with ho'
              subst ho'
              have e3 := hJ.got 3 (by omega) (hd ⟨3, .data⟩ (by simp) rfl)
              have e4 := hJ.got 4 (by omega) (hd ⟨4, .data⟩ (by simp) rfl)
              have e5 := hJ.got 5 (by omega) (hd ⟨5, .data⟩ (by simp) rfl)
              simp only [cntV, Act.eval, Array.getD_eq_getD_getElem?] at e3 e4 e5
              obtain ⟨g, rfl⟩ := hJ.world.early (j := 6) hun (by decide)
              refine ⟨by simp [Region.wanted], wp_enter (f := 43) (by simp [go_sem, e3, e4, e5]) (hc1.out g) ?_⟩
              rintro w'' ⟨g', rfl⟩
              exact put 6 (by omega) _ (hJ.world.call (by decide) (by decide) hun (by omega) (fun e => absurd e (by decide)) g')
            | 7, _ =>
              injection (show some _ = some o from ho) with ho'
              subst ho'
              have e2 := hJ.got 2 (by omega) (hd ⟨2, .data⟩ (by simp) rfl)
              have e6 := hJ.got 6 (by omega) (hd ⟨6, .data⟩ (by simp) rfl)
              simp only [cntV, Act.eval, Array.getD_eq_getD_getElem?] at e2 e6
              refine ⟨by simp [Region.wanted], wp_value (v := cntV A n c q T m lo hi x1 x2 x3 7) ?_ (put 7 (by omega) _ (hJ.world.set (by decide) (by omega)))⟩
              simp [go_sem, cntV, e2, e6]
              rw [IntKind.wrap_i64]; omega
            | 8, _ =>
              injection (show some _ = some o from ho) with ho'
              subst ho'
              refine ⟨by simp [Region.wanted], wp_value (v := cntV A n c q T m lo hi x1 x2 x3 8) ?_ (put 8 (by omega) _ (hJ.world.set (by decide) (by omega)))⟩
              simp [go_sem, cntV, b10, b11, b12, b13, b15, hm]
            | 9, _ =>
              injection (show some _ = some o from ho) with ho'
              subst ho'
              have e8 := hJ.got 8 (by omega) (hd ⟨8, .data⟩ (by simp) rfl)
              simp only [cntV, Act.eval, Array.getD_eq_getD_getElem?] at e8
              refine ⟨by simp [Region.wanted], wp_value (v := cntV A n c q T m lo hi x1 x2 x3 9) ?_ (put 9 (by omega) _ (hJ.world.set (by decide) (by omega)))⟩
              simp [go_sem, cntV, e8, b10, b11, b12, b13, b15, hm]
              intro h
              omega
            | 10, _ =>
              injection (show some _ = some o from ho) with ho'
              subst ho'
              have e9 := hJ.got 9 (by omega) (hd ⟨9, .data⟩ (by simp) rfl)
              simp only [cntV, Act.eval, Array.getD_eq_getD_getElem?] at e9
              have c10 := hJ.world.mem hun (by decide) g7
              refine ⟨by simp [Region.wanted], wp_value (v := cntV A n c q T m lo hi x1 x2 x3 10) ?_ (put 10 (by omega) _ (hJ.world.set (by decide) (by omega)))⟩
              simp [go_sem, cntV, e9, b10, b11, b12, b13, b15, hm, c10]
            | 11, _ =>
              injection (show some _ = some o from ho) with ho'
              subst ho'
              obtain ⟨g, hg⟩ := hJ.world.early (j := 11) hun (by decide)
              refine ⟨by simp [Region.wanted], wp_value (v := cntV A n c q T m lo hi x1 x2 x3 11) ?_ (put 11 (by omega) _ (hJ.world.set (by decide) (by omega)))⟩
              simp [go_sem, cntV, b10, b11, b12, b13, b15, hm, hg, g1, g2, g5, g6, g7]
            | 12, _ =>
              injection (show some _ = some o from ho) with ho'
              subst ho'
              obtain ⟨g, hg⟩ := hJ.world.early (j := 12) hun (by decide)
              refine ⟨by simp [Region.wanted], wp_value (v := cntV A n c q T m lo hi x1 x2 x3 12) ?_ (put 12 (by omega) _ (hJ.world.set (by decide) (by omega)))⟩
              simp [go_sem, cntV, b10, b11, b12, b13, b15, hm, hg, g1, g2, g5, g6, g7]
            | 13, _ =>
              injection (show some _ = some o from ho) with ho'
              subst ho'
              refine ⟨by simp [Region.wanted], wp_value (v := cntV A n c q T m lo hi x1 x2 x3 13) ?_ (put 13 (by omega) _ (hJ.world.set (by decide) (by omega)))⟩
              simp [go_sem, cntV, b10, b11, b12, b13, b15, hm]
            | 14, _ =>
              injection (show some _ = some o from ho) with ho'
              subst ho'
              have e11 := hJ.got 11 (by omega) (hd ⟨11, .data⟩ (by simp) rfl)
              have e12 := hJ.got 12 (by omega) (hd ⟨12, .data⟩ (by simp) rfl)
              have e13 := hJ.got 13 (by omega) (hd ⟨13, .data⟩ (by simp) rfl)
              simp only [cntV, Act.eval, Array.getD_eq_getD_getElem?] at e11 e12 e13
              obtain ⟨g, rfl⟩ := hJ.world.early (j := 14) hun (by decide)
              refine ⟨by simp [Region.wanted], wp_enter (f := 43) (by simp [go_sem, e11, e12, e13]) (hc2.out g) ?_⟩
              rintro w'' ⟨g', rfl⟩
              exact put 14 (by omega) _ (hJ.world.call (by decide) (by decide) hun (by omega) (fun _ j h1 h2 => by
                rcases (by omega : j = 11 ∨ j = 12 ∨ j = 13) with rfl | rfl | rfl
                · exact hd ⟨11, .data⟩ (by simp) rfl
                · exact hd ⟨12, .data⟩ (by simp) rfl
                · exact hd ⟨13, .data⟩ (by simp) rfl) g')
            | 15, _ =>
              injection (show some _ = some o from ho) with ho'
              subst ho'
              have e10 := hJ.got 10 (by omega) (hd ⟨10, .data⟩ (by simp) rfl)
              have e14 := hJ.got 14 (by omega) (hd ⟨14, .data⟩ (by simp) rfl)
              simp only [cntV, Act.eval, Array.getD_eq_getD_getElem?] at e10 e14
              refine ⟨by simp [Region.wanted], wp_value (v := cntV A n c q T m lo hi x1 x2 x3 15) ?_ (put 15 (by omega) _ (hJ.world.set (by decide) (by omega)))⟩
              simp [go_sem, cntV, e10, e14]
              rw [IntKind.wrap_i64]; omega
            | 16, _ =>
              injection (show some _ = some o from ho) with ho'
              subst ho'
              have e7 := hJ.got 7 (by omega) (hd ⟨7, .data⟩ (by simp) rfl)
              simp only [cntV, Act.eval, Array.getD_eq_getD_getElem?] at e7
              have o17 : listed.getD 17 false = false := by
                cases hc : listed.getD 17 false with
                | false => rfl
                | true => have := (hJ.world.2.2.1 hc).1; rw [hun] at this; cases this
              obtain ⟨g, hg⟩ := hJ.world.1
              rw [hun, o17] at hg
              have hg' : w' = g.w := hg
              refine ⟨by simp [Region.wanted], wp_store (w' := g.w.setCell ⟨T + 1, 0, none⟩ (.int .i64 (1 + (x1 : Int) + (x2 : Int)))) ?_ (hJ.none (Nat.le_refl _) (by omega) ?_)⟩
              · simp [go_sem, e7, b12, hg', g1, g3]
              · refine ⟨⟨g, ?_⟩, fun _ j hj => ?_, fun e => ?_, fun e j h1 h2 => ?_⟩
                · rw [getD_set' _ _ _ (by omega), getD_set' _ _ _ (by omega), if_pos rfl, if_neg (by decide), o17]
                  rw [show (1 : Int) + (x1 : Int) + (x2 : Int) = ((1 + x1 + x2 : Nat) : Int) by omega]
                  rfl
                · have hjl : listed.getD j false = true := by
                    have h14 := fun e he hb => hd e he hb
                    rcases (by omega : j = 0 ∨ j = 1 ∨ j = 2 ∨ j = 3 ∨ j = 4 ∨ j = 5 ∨ j = 6 ∨ j = 7 ∨ (11 ≤ j ∧ j < 15)) with rfl | rfl | rfl | rfl | rfl | rfl | rfl | rfl | hj2
                    · exact hd ⟨0, .phase⟩ (by simp) rfl
                    · exact hd ⟨1, .phase⟩ (by simp) rfl
                    · exact hd ⟨2, .phase⟩ (by simp) rfl
                    · exact hd ⟨3, .phase⟩ (by simp) rfl
                    · exact hd ⟨4, .phase⟩ (by simp) rfl
                    · exact hd ⟨5, .phase⟩ (by simp) rfl
                    · exact hd ⟨6, .phase⟩ (by simp) rfl
                    · exact hd ⟨7, .phase⟩ (by simp) rfl
                    · have l14 : listed.getD 14 false = true := hd ⟨14, .chain⟩ (by simp) rfl
                      rcases (by omega : j = 14 ∨ (11 ≤ j ∧ j < 14)) with rfl | ⟨h1, h2⟩
                      · exact l14
                      · exact hJ.world.2.2.2 l14 j h1 h2
                  rw [getD_set' _ _ _ (by omega), hjl]; split <;> rfl
                · rw [getD_set' _ _ _ (by omega), if_neg (by decide), o17] at e; cases e
                · have := hJ.world.2.2.2 (hd ⟨14, .chain⟩ (by simp) rfl) j h1 h2
                  rw [getD_set' _ _ _ (by omega), this]; split <;> rfl
            | 17, _ =>
              injection (show some _ = some o from ho) with ho'
              subst ho'
              have e15 := hJ.got 15 (by omega) (hd ⟨15, .data⟩ (by simp) rfl)
              simp only [cntV, Act.eval, Array.getD_eq_getD_getElem?] at e15
              have o16 : listed.getD 16 false = true := hd ⟨16, .chain⟩ (by simp) rfl
              obtain ⟨g, hg⟩ := hJ.world.1
              rw [hun, o16] at hg
              have hg' : w' = g.w.setCell ⟨T + 1, 0, none⟩ (.int .i64 ((1 + x1 + x2 : Nat) : Int)) := hg
              have k2 : w'.cell? ⟨T + 1 + 1, 0, none⟩ = some (.int .i64 (hi : Int)) := by
                rw [hg', cell_setCell_far _ (by show T + 1 + 1 ≠ T + 1; omega)]; exact g2 g
              have k4 : w'.frozen? ⟨T + 1 + 1, 0, none⟩ = false := by
                rw [hg', frozen_setCell_far _ (by show T + 1 + 1 ≠ T + 1; omega)]; exact g4 g
              refine ⟨by simp [Region.wanted], wp_store (w' := w'.setCell ⟨T + 1 + 1, 0, none⟩ (.int .i64 (1 + (x1 : Int) + (x3 : Int)))) ?_ (hJ.none (by omega) (by omega) ?_)⟩
              · simp [go_sem, e15, b13, k2, k4]
              · refine ⟨⟨g, ?_⟩, fun _ j hj => ?_, fun _ => ⟨?_, fun j hj => ?_⟩, fun _ j h1 h2 => ?_⟩
                · rw [getD_set' _ _ _ (by omega), getD_set' _ _ _ (by omega), if_pos rfl, if_neg (by decide), o16, hg']
                  rw [show (1 : Int) + (x1 : Int) + (x3 : Int) = ((1 + x1 + x3 : Nat) : Int) by omega]
                  rfl
                · rw [getD_set' _ _ _ (by omega), hJ.world.2.1 o16 j hj]; split <;> rfl
                · rw [getD_set' _ _ _ (by omega), o16]; split <;> rfl
                · have hjl : listed.getD j false = true := by
                    match j, hj with
                    | 0, _ => exact hd ⟨0, .phase⟩ (by simp) rfl
                    | 1, _ => exact hd ⟨1, .phase⟩ (by simp) rfl
                    | 2, _ => exact hd ⟨2, .phase⟩ (by simp) rfl
                    | 3, _ => exact hd ⟨3, .phase⟩ (by simp) rfl
                    | 4, _ => exact hd ⟨4, .phase⟩ (by simp) rfl
                    | 5, _ => exact hd ⟨5, .phase⟩ (by simp) rfl
                    | 6, _ => exact hd ⟨6, .phase⟩ (by simp) rfl
                    | 7, _ => exact hd ⟨7, .phase⟩ (by simp) rfl
                    | 8, _ => exact hd ⟨8, .phase⟩ (by simp) rfl
                    | 9, _ => exact hd ⟨9, .phase⟩ (by simp) rfl
                    | 10, _ => exact hd ⟨10, .phase⟩ (by simp) rfl
                    | 11, _ => exact hd ⟨11, .phase⟩ (by simp) rfl
                    | 12, _ => exact hd ⟨12, .phase⟩ (by simp) rfl
                    | 13, _ => exact hd ⟨13, .phase⟩ (by simp) rfl
                    | 14, _ => exact hd ⟨14, .phase⟩ (by simp) rfl
                    | 15, _ => exact hd ⟨15, .phase⟩ (by simp) rfl
                    | k + 16, h => exact absurd h (by omega)
                  rw [getD_set' _ _ _ (by omega), hjl]; split <;> rfl
                · have := hJ.world.2.2.2 (hd ⟨14, .phase⟩ (by simp) rfl) j h1 h2
                  rw [getD_set' _ _ _ (by omega), this]; split <;> rfl
  · have hR : Hid (cntRes bs p pat = 0 ∧ cntErr bs p pat = invErr bs p) := by
      show _ ∧ _
      have e1 : cntErr bs p pat = invErr bs p := by unfold cntErr; rw [if_pos h0]
      unfold cntRes
      rw [e1, if_neg h0]; exact ⟨rfl, rfl⟩
    obtain ⟨x, hx'⟩ : ∃ x, x = invErr bs p := ⟨_, rfl⟩
    rw [← hx'] at h0 hR ⊢
    clear hx'
    have d0 : (x != 0) = true := by simp; exact h0
    clear h0
    go_wp2_with fail
    rw [hR.out.1, hR.out.2]
    refine .inl ⟨rfl, .tuple #[.int .i64 0, .int .i64 x], ?_, rfl, ends.out x⟩
    simp [results, Try.results18, go_sem, b1, b2]
end Go.Proofs.Ytoodfmilleodaaa

/- Bm. -/
import Derived.Test.YtckkmafppfcecaaGreatDoorCN18
/- The walk of Count of layer 33. -/
namespace Go.Proofs.YtckkmafppfcecaaGreatDoor.Bwt
open Go.RowKit Go.Proofs Go.Shelf
set_option linter.unusedVariables false
set_option linter.unusedSimpArgs false
attribute [local go_sem] Oper.semAt_some

theorem two (w : World) (o1 o2 : Obj) : ((w.alloc o1).alloc o2).heap[w.heap.size]? = some o1 ∧ ((w.alloc o1).alloc o2).heap[w.heap.size + 1]? = some o2 ∧ Below w.heap.size w ((w.alloc o1).alloc o2) ∧ ((w.alloc o1).alloc o2).heap.size = w.heap.size + 2 := by
  have s1 : (w.alloc o1).heap.size = w.heap.size + 1 := by simp
  have t2 := heap_alloc_new (w.alloc o1) o2
  have t1 := heap_alloc_new w o1
  rw [s1] at t2
  refine ⟨?_, t2, ?_, by simp⟩
  · rw [Below.heap_alloc _ _ _ (by omega)]; exact t1
  · exact (((Below.refl _ _).alloc (Nat.le_refl _) _).alloc (by omega) _)

theorem stAll_store (bs : List UInt8) : (Tryz.prog.info? 360).map (·.size) = some ((stAll bs).map (Value.int .i64)).toArray.size ∧ ((List.replicate 256 (0 : Int)).map (Value.int .i64)).toArray.size = ((stAll bs).map (Value.int .i64)).toArray.size ∧ ((stAll bs).map (Value.int .i64)).toArray.all (·.oneCell') = true := by
  refine ⟨by rw [iA]; simp [stAll], by rw [List.size_toArray, List.size_toArray, List.length_map, List.length_map, List.length_replicate]; simp [stAll], ?_⟩
  rw [Array.all_eq_true_iff_forall_mem]
  intro v hv
  rw [List.mem_toArray] at hv
  obtain ⟨z, _, rfl⟩ := List.mem_map.1 hv
  rfl

theorem cells_behind (W : World) (D B : Nat) (x : Int) (h1 : D ≠ B) (h2 : D ≠ B + 1) (r1 : Boxed W B 3 (.int .i64 0)) (r2 : Boxed W (B + 1) 26 (.int .i64 0)) :
    (((W.setCell ⟨B, 0, none⟩ (.int .i64 x)).setCell ⟨B + 1, 0, none⟩ (.int .i64 0)).putObj D (.deferred none)).cell? ⟨B, 0, none⟩ = some (.int .i64 x) ∧ (((W.setCell ⟨B, 0, none⟩ (.int .i64 x)).setCell ⟨B + 1, 0, none⟩ (.int .i64 0)).putObj D (.deferred none)).cell? ⟨B + 1, 0, none⟩ = some (.int .i64 0) := by
  have v1 : Boxed ((W.setCell ⟨B, 0, none⟩ (.int .i64 x)).setCell ⟨B + 1, 0, none⟩ (.int .i64 0)) B 3 (.int .i64 x) := (Below.heap_setCell _ ⟨B + 1, 0, none⟩ _ B (by show B ≠ B + 1; omega)).trans (r1.set _)
  have v2 : Boxed ((W.setCell ⟨B, 0, none⟩ (.int .i64 x)).setCell ⟨B + 1, 0, none⟩ (.int .i64 0)) (B + 1) 26 (.int .i64 0) := Boxed.set _ ((Below.heap_setCell _ ⟨B, 0, none⟩ _ (B + 1) (by show B + 1 ≠ B; omega)).trans r2)
  exact ⟨(v1.kept (grownBy_putObj' _ D _) (fun e => by injection e with e; omega)).cell, (v2.kept (grownBy_putObj' _ D _) (fun e => by injection e with e; omega)).cell⟩
theorem cnt_start {w w3 w4 : World} {A A' : Option Addr} {n c q S n' c' : Nat} {bs : List UInt8} (r1 : Boxed w3 w.heap.size 3 (.int .i64 0)) (r2 : Boxed w3 (w.heap.size + 1) 26 (.int .i64 0)) (rb : BoxR w3 S A n c q) (hb : Below w.heap.size w w3) (hS : w.heap.size + 2 ≤ S) (hs3 : S + 1 ≤ w3.heap.size)
    (hw4 : w4 = (((w3.alloc (.cells ((stAll bs).map (Value.int .i64)).toArray 360)).alloc (.cells #[.int .i64 0] 3)).alloc (.cells #[.int .i64 ((n : Int) + 1)] 3)).alloc (.cells #[.slice A' n' c'] 23)) :
    CntI w S w3.heap.size A n c q bs 0 (n + 1) w4 ∧ Boxed w4 (w3.heap.size + 3) 23 (.slice A' n' c') ∧ w4.heap.size = w3.heap.size + 4 := by
  obtain ⟨v1, h1⟩ : ∃ v, v = w3.alloc (.cells ((stAll bs).map (Value.int .i64)).toArray 360) := ⟨_, rfl⟩
  obtain ⟨v2, h2⟩ : ∃ v, v = v1.alloc (.cells #[.int .i64 0] 3) := ⟨_, rfl⟩
  obtain ⟨v3, h3⟩ : ∃ v, v = v2.alloc (.cells #[.int .i64 ((n : Int) + 1)] 3) := ⟨_, rfl⟩
  rw [← h1, ← h2, ← h3] at hw4
  have s1 : v1.heap.size = w3.heap.size + 1 := by rw [h1, World.size_alloc]
  have s2 : v2.heap.size = w3.heap.size + 2 := by rw [h2, World.size_alloc, s1]
  have s3 : v3.heap.size = w3.heap.size + 3 := by rw [h3, World.size_alloc, s2]
  have s4 : w4.heap.size = w3.heap.size + 4 := by rw [hw4, World.size_alloc, s3]
  have t1 : Row (Value.int .i64) v1 w3.heap.size 360 (stAll bs) := by rw [h1]; exact Row.new w3 _ _
  have t2 := Boxed.new v1 3 (.int .i64 0)
  have t3 := Boxed.new v2 3 (.int .i64 ((n : Int) + 1))
  have t4 := Boxed.new v3 23 (.slice A' n' c')
  rw [← h2, s1] at t2
  rw [← h3, s2] at t3
  rw [← hw4, s3] at t4
  have g1 : Below w3.heap.size w3 v1 := by rw [h1]; exact (Below.refl _ _).alloc (Nat.le_refl _) _
  have g2 : Below v1.heap.size v1 v2 := by rw [h2]; exact (Below.refl _ _).alloc (Nat.le_refl _) _
  have g3 : Below v2.heap.size v2 v3 := by rw [h3]; exact (Below.refl _ _).alloc (Nat.le_refl _) _
  have g4 : Below v3.heap.size v3 w4 := by rw [hw4]; exact (Below.refl _ _).alloc (Nat.le_refl _) _
  have ga : Below w3.heap.size w3 w4 := ((g1.trans (g2.mono (by omega))).trans (g3.mono (by omega))).trans (g4.mono (by omega))
  refine ⟨⟨Boxed.below' r1 ga (by omega), Boxed.below' r2 ga (by omega), rb.below ga (by omega), ?_, ?_, ?_, hb.trans (ga.mono hb.size), by omega⟩, t4, s4⟩
  · exact ((t1.below g2 (by omega)).below g3 (by omega)).below g4 (by omega)
  · exact Boxed.below' (Boxed.below' t2 g3 (by omega)) g4 (by omega)
  · have := Boxed.below' t3 g4 (by omega)
    rw [show ((n + 1 : Nat) : Int) = (n : Int) + 1 by omega]; exact this

theorem cell_setCell_far {W : World} {p q : Addr} (v : Value) (h : q.block ≠ p.block) : (W.setCell p v).cell? q = W.cell? q := by
  have := Below.heap_setCell W p v q.block h
  simp only [World.cell?]
  rw [this]
theorem frozen_setCell_far {W : World} {p q : Addr} (v : Value) (h : q.block ≠ p.block) : (W.setCell p v).frozen? q = W.frozen? q := by
  have := Below.heap_setCell W p v q.block h
  simp only [World.frozen?]
  rw [this]
/-- the values of the region that narrows the rows. -/
def cntV (A : Option Addr) (n c q T m lo hi x1 x2 x3 : Nat) : Nat → Value
  | 0 => .int .u8 (m : Int)
  | 1 => .pointer (some ⟨T, m, none⟩)
  | 2 => .int .i64 (1 + (x1 : Int))
  | 3 => .agg #[.slice A n c, .int .i64 (q : Int)]
  | 4 => .int .i64 (lo : Int)
  | 5 => .int .u8 (m : Int)
  | 6 => .int .i64 (x2 : Int)
  | 7 => .int .i64 (1 + (x1 : Int) + (x2 : Int))
  | 8 => .int .u8 (m : Int)
  | 9 => .pointer (some ⟨T, m, none⟩)
  | 10 => .int .i64 (1 + (x1 : Int))
  | 11 => .agg #[.slice A n c, .int .i64 (q : Int)]
  | 12 => .int .i64 (hi : Int)
  | 13 => .int .u8 (m : Int)
  | 14 => .int .i64 (x3 : Int)
  | 15 => .int .i64 (1 + (x1 : Int) + (x3 : Int))
  | _ => undef
/-- the world behind the first store, and behind both. -/
def cntW (T lo' hi' : Nat) : Bool → Bool → World → World
  | false, false, x => x
  | true, false, x => x.setCell ⟨T + 1, 0, none⟩ (.int .i64 (lo' : Int))
  | false, true, x => x
  | true, true, x => (x.setCell ⟨T + 1, 0, none⟩ (.int .i64 (lo' : Int))).setCell ⟨T + 2, 0, none⟩ (.int .i64 (hi' : Int))
def cntC (W : World) (T lo' hi' : Nat) (listed : Array Bool) (w' : World) : Prop :=
  (∃ g : Gr W, w' = cntW T lo' hi' (listed.getD 16 false) (listed.getD 17 false) g.w) ∧ (listed.getD 16 false = true → ∀ j, (j < 8 ∨ 11 ≤ j ∧ j < 15) → listed.getD j false = true) ∧ (listed.getD 17 false = true → listed.getD 16 false = true ∧ ∀ j, j < 16 → listed.getD j false = true) ∧ (listed.getD 14 false = true → ∀ j, 11 ≤ j → j < 14 → listed.getD j false = true)
section
variable {W w' : World} {T lo' hi' : Nat} {listed : Array Bool}
theorem getD_rep (n j : Nat) : (Array.replicate n false).getD j false = false := by
  rw [Array.getD_eq_getD_getElem?, Array.getElem?_replicate]
  split <;> rfl
theorem cntC.start (W : World) (T lo' hi' : Nat) : cntC W T lo' hi' (Array.replicate 18 false) W.drew := by
  have h : ∀ j, (Array.replicate 18 false).getD j false = false := getD_rep 18
  refine ⟨⟨⟨W.drew, (Drawn.drewN W 1).below _⟩, ?_⟩, fun e => ?_, fun e => ?_, fun e => ?_⟩
  · rw [h, h]; rfl
  · rw [h] at e; cases e
  · rw [h] at e; cases e
  · rw [h] at e; cases e
theorem cntC.off17 (h : cntC W T lo' hi' listed w') {j : Nat} (hun : listed.getD j false = false) (hj : j < 16) : listed.getD 17 false = false := by
  cases hc : listed.getD 17 false with
  | false => rfl
  | true => have := (h.2.2.1 hc).2 j hj; rw [hun] at this; cases this
theorem cntC.off16 (h : cntC W T lo' hi' listed w') {j : Nat} (hun : listed.getD j false = false) (hj : j < 8 ∨ 11 ≤ j ∧ j < 15) : listed.getD 16 false = false := by
  cases hc : listed.getD 16 false with
  | false => rfl
  | true => have := h.2.1 hc j hj; rw [hun] at this; cases this
theorem cntC.early (h : cntC W T lo' hi' listed w') {j : Nat} (hun : listed.getD j false = false) (hj : j < 8 ∨ 11 ≤ j ∧ j < 15) : ∃ g : Gr W, w' = g.w := by
  have h1 := h.off16 hun hj
  have h2 := h.off17 hun (by omega)
  obtain ⟨g, hg⟩ := h.1
  rw [h1, h2] at hg
  exact ⟨g, hg⟩
theorem cntC.set (h : cntC W T lo' hi' listed w') {i : Nat} (hi : i < 16 ∧ i ≠ 14) (hs : i < listed.size) : cntC W T lo' hi' (listed.setIfInBounds i true) w' := by
  have e : ∀ j, listed.getD j false = true → (listed.setIfInBounds i true).getD j false = true := fun j hj => by rw [getD_set' _ _ _ hs, hj]; split <;> rfl
  have e16 : (listed.setIfInBounds i true).getD 16 false = listed.getD 16 false := by rw [getD_set' _ _ _ hs, if_neg (by omega)]
  have e17 : (listed.setIfInBounds i true).getD 17 false = listed.getD 17 false := by rw [getD_set' _ _ _ hs, if_neg (by omega)]
  have e14 : (listed.setIfInBounds i true).getD 14 false = listed.getD 14 false := by rw [getD_set' _ _ _ hs, if_neg (by omega)]
  refine ⟨?_, ?_, ?_, ?_⟩
  · rw [e16, e17]; exact h.1
  · rw [e16]; exact fun hc j hj => e j (h.2.1 hc j hj)
  · rw [e16, e17]; exact fun hc => ⟨(h.2.2.1 hc).1, fun j hj => e j ((h.2.2.1 hc).2 j hj)⟩
  · rw [e14]; exact fun hc j h1 h2 => e j (h.2.2.2 hc j h1 h2)
theorem cntC.call (h : cntC W T lo' hi' listed w') {i : Nat} (hi : i < 16) (hj : i < 8 ∨ 11 ≤ i ∧ i < 15) (hun : listed.getD i false = false) (hs : i < listed.size) (h14 : i = 14 → ∀ j, 11 ≤ j → j < 14 → listed.getD j false = true) (g : Gr W) : cntC W T lo' hi' (listed.setIfInBounds i true) g.w := by
  have h1 := h.off16 hun hj
  have h2 := h.off17 hun hi
  have e16 : (listed.setIfInBounds i true).getD 16 false = false := by rw [getD_set' _ _ _ hs, if_neg (by omega)]; exact h1
  have e17 : (listed.setIfInBounds i true).getD 17 false = false := by rw [getD_set' _ _ _ hs, if_neg (by omega)]; exact h2
  refine ⟨⟨g, by rw [e16, e17]; rfl⟩, fun e => ?_, fun e => ?_, fun e j h3 h4 => ?_⟩
  · rw [e16] at e; cases e
  · rw [e17] at e; cases e
  · have : listed.getD j false = true := by
      by_cases hi14 : i = 14
      · exact h14 hi14 j h3 h4
      · rw [getD_set' _ _ _ hs, if_neg hi14] at e
        exact h.2.2.2 e j h3 h4
    rw [getD_set' _ _ _ hs, this]; split <;> rfl
theorem cntC.mem (h : cntC W T lo' hi' listed w') {j : Nat} (hun : listed.getD j false = false) (hj : j < 16) {m : Nat} {v : Value} (hv : ∀ g : Gr W, g.w.cell? ⟨T, m, none⟩ = some v) : w'.cell? ⟨T, m, none⟩ = some v := by
  have h2 := h.off17 hun hj
  obtain ⟨g, hg⟩ := h.1
  rw [h2] at hg
  cases hc : listed.getD 16 false with
  | false => rw [hc] at hg; rw [hg]; exact hv g
  | true =>
    rw [hc] at hg
    rw [hg]
    show (g.w.setCell ⟨T + 1, 0, none⟩ _).cell? _ = _
    have := Below.heap_setCell g.w ⟨T + 1, 0, none⟩ (.int .i64 (lo' : Int)) T (by show T ≠ T + 1; omega)
    have hv' := hv g
    simp only [World.cell?] at hv' ⊢
    rw [this]; exact hv'
end

end Go.Proofs.YtckkmafppfcecaaGreatDoor.Bwt

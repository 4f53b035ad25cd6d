/- before and slices.Backward of layer 33. -/
import Derived.Test.YtoodfmilleodaaaBi
namespace Go.Proofs.Ytoodfmilleodaaa
open Go.RowKit Go.Proofs Go.Shelf
set_option linter.unusedVariables false
attribute [local go_sem] Oper.semAt_some

/-- how many of the first k bytes stand ahead of row r and are d. -/
def befTo (p : Nat) (bs : List UInt8) (r d k : Nat) : Nat := (List.range k).countP fun i => decide (rowN p i < r ∧ bn bs i = d)
theorem befTo_next (p : Nat) (bs : List UInt8) (r d k : Nat) : befTo p bs r d (k + 1) = befTo p bs r d k + if rowN p k < r ∧ bn bs k = d then 1 else 0 := by
  unfold befTo
  rw [List.range_succ, List.countP_append, List.countP_singleton]
  simp
theorem befTo_le (p : Nat) (bs : List UInt8) (r d k : Nat) : befTo p bs r d k ≤ k := by
  unfold befTo
  have := List.countP_le_length (p := fun i => decide (rowN p i < r ∧ bn bs i = d)) (l := List.range k)
  simpa using this
def befN (p : Nat) (bs : List UInt8) (r d : Nat) : Nat := befTo p bs r d bs.length
theorem rowN_mono {p i j : Nat} (h : i < j) : rowN p i < rowN p j := by unfold rowN; split <;> split <;> omega
theorem befTo_stop {p : Nat} {bs : List UInt8} {r d k : Nat} (h : r ≤ rowN p k) : ∀ {m}, k ≤ m → befTo p bs r d m = befTo p bs r d k
  | 0, hm => by obtain rfl : k = 0 := by omega
                rfl
  | m + 1, hm => by
    rcases Nat.lt_or_ge k (m + 1) with h1 | h1
    · rw [befTo_next, befTo_stop h (m := m) (by omega), if_neg, Nat.add_zero]
      rintro ⟨h2, _⟩
      rcases Nat.lt_or_ge k m with h3 | h3
      · have := rowN_mono (p := p) h3; omega
      · obtain rfl : k = m := by omega
        omega
    · obtain rfl : k = m + 1 := by omega
      rfl

/-- between two rounds: the boxes of row and byte, and the count. -/
structure BefI (w : World) (A : Option Addr) (n c p r d : Nat) (bs : List UInt8) (x : Nat) (W : World) : Prop where
  row : Boxed W (w.heap.size + 1) 3 (.int .i64 (r : Int))
  byt : Boxed W (w.heap.size + 2) 5 (.int .u8 (d : Int))
  cnt : Boxed W (w.heap.size + 3) 3 (.int .i64 (x : Int))
  below : Below w.heap.size w W
  size : w.heap.size + 5 ≤ W.heap.size
theorem BefI.kept {w W W' : World} {A : Option Addr} {n c p r d x : Nat} {bs : List UInt8} {row : Option Nat} (h : BefI w A n c p r d bs x W) (hg : W.grownBy W' row) (hrow : ∀ r, row = some r → w.heap.size + 5 ≤ r) : BefI w A n c p r d bs x W' := by
  have ne : ∀ j, j < w.heap.size + 5 → some j ≠ row := fun j hj e => by have := hrow j e.symm; omega
  exact ⟨h.row.kept hg (ne _ (by omega)), h.byt.kept hg (ne _ (by omega)), h.cnt.kept hg (ne _ (by omega)), h.below.grown hg h.below.size (fun r e => by have := hrow r e; omega), Nat.le_trans h.size hg.size⟩
theorem BefI.step {w W : World} {A : Option Addr} {n c p r d x : Nat} {bs : List UInt8} (h : BefI w A n c p r d bs x W) :
    KeepsFrom (w.heap.size + 5) W (W.setCell ⟨w.heap.size + 3, 0, none⟩ (.int .i64 ((x + 1 : Nat) : Int))) ∧ boxKp w.heap.size (w.heap.size + 4) W (W.setCell ⟨w.heap.size + 3, 0, none⟩ (.int .i64 ((x + 1 : Nat) : Int))) ∧ BefI w A n c p r d bs (x + 1) (W.setCell ⟨w.heap.size + 3, 0, none⟩ (.int .i64 ((x + 1 : Nat) : Int))) := by
  have hsw : (W.setCell ⟨w.heap.size + 3, 0, none⟩ (.int .i64 ((x + 1 : Nat) : Int))).heap.size = W.heap.size := by simp [World.setCell]
  have oth : ∀ j, j ≠ w.heap.size + 3 → (W.setCell ⟨w.heap.size + 3, 0, none⟩ (.int .i64 ((x + 1 : Nat) : Int))).heap[j]? = W.heap[j]? := fun j hj => Below.heap_setCell W ⟨w.heap.size + 3, 0, none⟩ _ j hj
  have hb : Below w.heap.size W (W.setCell ⟨w.heap.size + 3, 0, none⟩ (.int .i64 ((x + 1 : Nat) : Int))) := (Below.refl _ _).setCell (p := ⟨w.heap.size + 3, 0, none⟩) (by show _ ≤ w.heap.size + 3; omega) _
  exact ⟨⟨by rw [hsw]; exact Nat.le_refl _, fun j o hj ho _ => (oth j (by omega)).trans ho⟩, ⟨oth _ (by omega), hb⟩, (oth _ (by omega)).trans h.row, (oth _ (by omega)).trans h.byt, h.cnt.set _, h.below.trans hb, by rw [hsw]; exact h.size⟩
theorem bef_start {w w3 : World} {A : Option Addr} {n c p r d : Nat} {bs : List UInt8}
    (hw3 : w3 = ((((w.alloc (.cells #[.slice A n c, .int .i64 (p : Int)] 66)).alloc (.cells #[.int .i64 (r : Int)] 3)).alloc (.cells #[.int .u8 (d : Int)] 5)).alloc (.cells #[.int .i64 0] 3)).alloc (.cells #[.slice A n c, .int .i64 (p : Int)] 66)) :
    BefI w A n c p r d bs 0 w3 ∧ BoxR w3 (w.heap.size + 4) A n c p ∧ w3.heap.size = w.heap.size + 5 := by
  obtain ⟨w1, h1⟩ : ∃ w1, w1 = w.alloc (.cells #[.slice A n c, .int .i64 (p : Int)] 66) := ⟨_, rfl⟩
  obtain ⟨w2, h2⟩ : ∃ w2, w2 = w1.alloc (.cells #[.int .i64 (r : Int)] 3) := ⟨_, rfl⟩
  obtain ⟨w4, h4⟩ : ∃ w4, w4 = w2.alloc (.cells #[.int .u8 (d : Int)] 5) := ⟨_, rfl⟩
  obtain ⟨w5, h5⟩ : ∃ w5, w5 = w4.alloc (.cells #[.int .i64 0] 3) := ⟨_, rfl⟩
  rw [← h1, ← h2, ← h4, ← h5] at hw3
  have s1 : w1.heap.size = w.heap.size + 1 := by rw [h1, World.size_alloc]
  have s2 : w2.heap.size = w.heap.size + 2 := by rw [h2, World.size_alloc, s1]
  have s4 : w4.heap.size = w.heap.size + 3 := by rw [h4, World.size_alloc, s2]
  have s5 : w5.heap.size = w.heap.size + 4 := by rw [h5, World.size_alloc, s4]
  have t2 := Boxed.new w1 3 (.int .i64 (r : Int))
  have t4 := Boxed.new w2 5 (.int .u8 (d : Int))
  have t5 := Boxed.new w4 3 (.int .i64 0)
  rw [← h2, s1] at t2
  rw [← h4, s2] at t4
  rw [← h5, s4] at t5
  have r2 : BoxR w3 (w.heap.size + 4) A n c p := by
    have := Row.new (enc := id) w5 66 [.slice A n c, .int .i64 (p : Int)]
    rw [s5] at this
    rw [hw3]; exact this
  have g1 : Below w.heap.size w w1 := by rw [h1]; exact (Below.refl _ _).alloc (Nat.le_refl _) _
  have g2 : Below w1.heap.size w1 w2 := by rw [h2]; exact (Below.refl _ _).alloc (Nat.le_refl _) _
  have g4 : Below w2.heap.size w2 w4 := by rw [h4]; exact (Below.refl _ _).alloc (Nat.le_refl _) _
  have g5 : Below w4.heap.size w4 w5 := by rw [h5]; exact (Below.refl _ _).alloc (Nat.le_refl _) _
  have g3 : Below w5.heap.size w5 w3 := by rw [hw3]; exact (Below.refl _ _).alloc (Nat.le_refl _) _
  refine ⟨⟨?_, ?_, ?_, ?_, ?_⟩, r2, by rw [hw3, World.size_alloc, s5]⟩
  · exact Boxed.below' (Boxed.below' (Boxed.below' t2 g4 (by omega)) g5 (by omega)) g3 (by omega)
  · exact Boxed.below' (Boxed.below' t4 g5 (by omega)) g3 (by omega)
  · exact Boxed.below' t5 g3 (by omega)
  · exact (((g1.trans (g2.mono (by omega))).trans (g4.mono (by omega))).trans (g5.mono (by omega))).trans (g3.mono (by omega))
  · rw [hw3, World.size_alloc, s5]; omega

set_option maxHeartbeats 2000000 in
theorem before_any (A : Option Addr) (n c p r d : Nat) (bs : List UInt8) (w : World) (hx : Bytes w A n c bs) (hn : n ≤ 65536) (hp : p ≤ n) :
    Calls Try.prog 43 #[rowsV A n c p, .int .i64 (r : Int), .int .u8 (d : Int)] w fun e w' => e = .returned (.int .i64 (befN p bs r d : Int)) ∧ Below w.heap.size w w' := by
  unfold rowsV
  have Hn := Lib.hid hx.1
  refine calls_of_marks Try.func43 rfl ?_
  simp only [Try.ntmps43, List.size_toArray, List.length_cons, List.length_nil, Nat.reduceAdd, Nat.reduceSub, Array.replicate_succ, Array.replicate_zero, List.push_toArray, List.append_toArray, List.nil_append, List.cons_append]
  go_wp2_with fail
  refine (all_any _ _ _ _ _).mono ?_
  rintro e w3 ⟨rfl, hw3⟩
  have Hw3 := Lib.hid hw3; clear hw3
  go_wp2_with fail
  obtain ⟨hI0, hbx3, hs3⟩ := bef_start (bs := bs) Hw3.out
  have Hs3 := Lib.hid hs3; clear hs3
  clear Hw3
  have fin : Hid (∀ (D : Nat) (W : World) (x : Nat), w.heap.size + 5 ≤ D → BefI w A n c p r d bs x W → x = befN p bs r d → W.heap[D]? = some (.deferred (some [])) → Below w.heap.size w (W.putObj D (.deferred none))) := fun D W x hD h he hdef =>
    h.below.grown (grownBy_putObj' W D _) h.below.size (fun k e => by cases e; omega)
  refine wp_rangeFunc_row2 (G := fun u v t => (((t.setIfInBounds 12 u).setIfInBounds 13 v).setIfInBounds 8 u).setIfInBounds 9 v) (u := fun k => .int .i64 (rowN p k : Int)) (v := fun k => .int .u8 (gb bs k)) rfl (enters_of Try.func85 (by kernel_rfl) rfl) (all1_gives w A n c p bs hx (by omega) hp (w.heap.size + 4) (by omega))
    (fun o1 o2 => ⟨(Row.alloc (Row.alloc hbx3 _) _), (hI0.below.alloc hI0.below.size _).alloc (by have := hI0.below.size; simp; omega) _⟩)
    (fun A B hab => by rw [hab]; exact KeepsFrom.refl _ _)
    (fun h1 h2 => ⟨h2.1.trans h1.1, h1.2.trans h2.2⟩)
    (fun W l o o' hl hlo ho => ⟨World.putObj_heap_other (by rw [Hs3.out] at hl; omega), ((Below.refl _ _).grown (grownBy_putObj' W l o') (by have := (Array.getElem?_eq_some_iff.1 hlo).1; rw [Hs3.out] at hl; omega) (fun k e => by cases e; rw [Hs3.out] at hl; omega))⟩)
    (fun k => BefI w A n c p r d bs (befTo p bs r d k)) (fun c' _ W => c' = .exit 0 ∧ BefI w A n c p r d bs (befN p bs r d) W) ?hI ?hIx (fun k A B h hab => by rw [hab]; exact h) (fun _ _ _ _ h hab => by rw [hab]; exact h) hI0 ?assign ?body ?done ?stop
  case hI => exact fun s W W' row h hg hr => h.kept hg (fun r e => by have := (hr r e).1; rw [Hs3.out] at this; omega)
  case hIx => exact fun c' s W W' row h hg hr => ⟨h.1, h.2.kept hg (fun r e => by have := (hr r e).1; rw [Hs3.out] at this; omega)⟩
  case assign =>
    intro l k W K hK
    simp only [List.setIfInBounds_toArray, List.set_cons_succ, List.set_cons_zero] at hK ⊢
    gi_wp2
    exact hK
  case done =>
    intro D W hD hI hdef
    have q1 := hI.cnt.cell
    rw [Hs3.out] at hD
    have he : Hid (befTo p bs r d n = befN p bs r d) := by show _ = _; unfold befN; rw [Hn.out]
    go_wp2_with fail
    refine markPost_mark hdef (v := .int .i64 (befTo p bs r d n : Int)) (fun W => by simp [results, Try.results43, go_sem]) rfl ?_
    exact ⟨by rw [he.out], fin.out D W _ hD hI he.out hdef⟩
  case stop =>
    intro D c' k W hD hk hI hdef
    obtain ⟨rfl, hI⟩ := hI
    have q1 := hI.cnt.cell
    rw [Hs3.out] at hD
    go_wp2_with fail
    refine markPost_mark hdef (v := .int .i64 (befN p bs r d : Int)) (fun W => by simp [results, Try.results43, go_sem]) rfl ?_
    exact ⟨rfl, fin.out D W _ hD hI rfl hdef⟩
  case body =>
    intro l k W hk hl hI
    have HI := Lib.hid hI
    obtain ⟨h1, h2, h3, hbelW, hsW⟩ := hI
    simp only [List.setIfInBounds_toArray, List.set_cons_succ, List.set_cons_zero]
    have q1 := h1.cell
    have q2 := h2.cell
    have q3 := h3.cell
    have z3 := h3.frozen
    rw [gb_bn]
    have hnx := befTo_next p bs r d k
    have hxl := befTo_le p bs r d k
    have hstop := befTo_stop (p := p) (bs := bs) (r := r) (d := d) (k := k) (m := bs.length)
    rw [Hn.out] at hstop
    have Hst := Lib.hid hstop; clear hstop
    obtain ⟨x, hx'⟩ : ∃ x, x = befTo p bs r d k := ⟨_, rfl⟩
    have Hx := Lib.hid hx'
    rw [← hx'] at q3 hnx hxl HI
    clear hx'
    obtain ⟨m, hm⟩ : ∃ m, m = bn bs k := ⟨_, rfl⟩
    obtain ⟨s, hs⟩ : ∃ s, s = rowN p k := ⟨_, rfl⟩
    rw [← hm] at hnx ⊢
    rw [← hs] at hnx Hst ⊢
    have Hnx := Lib.hid hnx
    clear hm hs hnx h1 h2 h3
    by_cases hge : r ≤ s
    · have d1 : decide ((r : Int) ≤ (s : Int)) = true := by simp; omega
      have d2 : decide (r ≤ s) = true := by simp; omega
      have he : Hid (befN p bs r d = x) := by show _ = _; unfold befN; rw [Hn.out, Hst.out hge (by omega), Hx.out]
      gi_wp2
      rw [Hs3.out]
      refine ⟨KeepsFrom.refl _ _, rfl, ?_⟩
      rw [he.out]; exact HI.out
    · have d1 : decide ((r : Int) ≤ (s : Int)) = false := by simp; omega
      have d2 : decide (r ≤ s) = false := by simp; omega
      by_cases heq : m = d
      · have d3 : ((m : Int) == (d : Int)) = true := by simp; omega
        have d4 : (m == d) = true := by simp; omega
        have he : Hid (befTo p bs r d (k + 1) = x + 1) := by show _ = _; rw [Hnx.out, if_pos ⟨by omega, heq⟩]
        have hstep := Lib.hid HI.out.step
        clear HI heq
        rw [show ((x + 1 : Nat) : Int) = (x : Int) + 1 by omega] at hstep
        gi_wp2
        rw [Hs3.out]
        refine ⟨hstep.out.1, hstep.out.2.1, ?_⟩
        show BefI w A n c p r d bs (befTo p bs r d (k + 1)) _
        rw [he.out]
        exact hstep.out.2.2
      · have d3 : ((m : Int) == (d : Int)) = false := by simp; omega
        have d4 : (m == d) = false := by simp; omega
        have he : Hid (befTo p bs r d (k + 1) = x) := by show _ = _; rw [Hnx.out, if_neg (fun h => heq h.2), Nat.add_zero]
        clear heq
        gi_wp2
        rw [Hs3.out]
        refine ⟨KeepsFrom.refl _ _, ⟨rfl, Below.refl _ _⟩, ?_⟩
        show BefI w A n c p r d bs (befTo p bs r d (k + 1)) _
        rw [he.out]
        exact HI.out

theorem backward_any (A : Option Addr) (n c : Nat) (w : World) :
    Calls Try.prog 42 #[.slice A n c] w fun e w' => e = .returned (.func (.func 68) #[] #[.pointer (some ⟨w.heap.size, 0, none⟩)]) ∧ w' = w.alloc (.cells #[.slice A n c] 22) := by
  go_enter Try.func42, Try.ntmps42
  go_wp2_with fail
  go_ret
  exact ⟨rfl, rfl⟩

set_option maxHeartbeats 2000000 in
theorem backward1_gives (w0 : World) (A : Option Addr) (n c : Nat) (bs : List UInt8) (hx : Bytes w0 A n c bs) (hn : n ≤ 1000000000) (bx : Nat) (hbx : w0.heap.size ≤ bx) :
    Gives Try.prog 68 #[.pointer (some ⟨bx, 0, none⟩)] (fun k => #[.int .i64 ((n : Int) - 1 - k), .int .u8 (gb bs (n - 1 - k))]) n (fun X Y => Y = X) (boxKp w0.heap.size bx) (fun W => Boxed W bx 22 (.slice A n c) ∧ Below w0.heap.size w0 W) := by
  intro l J Jx W ⟨hbox, hbel⟩ hJ hJx hY h0
  have HY := Lib.hid hY; clear hY
  have b0 := hbox.cell
  refine callsIn_of_wp Try.func68 rfl trivial ?_ rfl
  simp only [Try.ntmps68, List.size_toArray, List.length_cons, List.length_nil, Nat.reduceAdd, Nat.reduceSub, Array.replicate_succ, Array.replicate_zero, List.push_toArray, List.append_toArray, List.nil_append, List.cons_append]
  gi_wp2
  gi_loopw [3] (fun i wr => ∃ k : Nat, k ≤ n ∧ i = .int .i64 ((n : Int) - 1 - k) ∧ J k wr ∧ Boxed wr bx 22 (.slice A n c) ∧ Below w0.heap.size w0 wr) (fun i _ => (intOf i + 1).toNat)
  case atStart => exact ⟨0, by omega, by simp, h0, hbox, hbel⟩
  case round =>
    clear b0 hbox hbel h0
    obtain ⟨k, hk, rfl, hJk, hbox, hbel⟩ := hrel
    have b1 := hbox.cell
    by_cases hlt : k < n
    · obtain ⟨b, off, rfl, -, hcell⟩ := (hx.below hbel).get (k := n - 1 - k) (by omega)
      have c1 := hcell (n - 1 - k) (by omega)
      clear hcell
      have hy0 := HY.out k wr hlt hJk
      obtain ⟨j, hj⟩ : ∃ j, j = n - 1 - k := ⟨_, rfl⟩
      rw [← hj] at c1 hy0
      have e1 : (n : Int) - 1 - k = (j : Int) := by omega
      rw [e1] at hy0 ⊢
      have hjn : j < n := by omega
      have Hj := Lib.hid hj; clear hj
      have He1 := Lib.hid e1; clear e1
      have d0 : decide ((0 : Int) ≤ (j : Int)) = true := by simp
      obtain ⟨fn, tmps, assign, body, hy, hR⟩ := hy0
      have HK : Hid (k < n) := hlt
      clear hlt hk
      gi_wp2
      refine hR.mono ?_
      rintro e W3 (⟨rfl, hJ3, hk3⟩ | ⟨rfl, hJx3⟩)
      · clear hR hy
        gi_wp2
        go_roundw
        case rel => exact ⟨k + 1, HK.out, by have := He1.out; congr 1; omega, hJ3, hk3.1.trans hbox, hbel.trans hk3.2⟩
        case measure => simp [intOf]
      · clear hR hy
        gi_wp2
        refine bodyPost_ret (results_none rfl _ _ _) rfl ?_
        exact ⟨⟨_, rfl⟩, .inr ⟨k + 1, HK.out, hJx3⟩⟩
    · obtain rfl : k = n := by omega
      rw [show (k : Int) - 1 - k = -1 by omega]
      gi_wp2
      go_end0
      exact ⟨⟨_, rfl⟩, .inl hJk⟩
end Go.Proofs.Ytoodfmilleodaaa

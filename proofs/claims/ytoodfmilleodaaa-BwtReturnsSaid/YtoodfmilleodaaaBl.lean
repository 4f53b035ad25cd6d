/- Count of layer 33. -/
import Derived.Test.YtoodfmilleodaaaBj
namespace Go.Proofs.Ytoodfmilleodaaa
open Go.RowKit Go.Proofs Go.Shelf
set_option linter.unusedVariables false
attribute [local go_sem] Oper.semAt_some

/-- a world that has only grown. -/
structure Gr (W : World) where
  w : World
  h : Below W.heap.size W w
instance (W : World) : Nonempty (Gr W) := ⟨⟨W, Below.refl _ _⟩⟩
/-- a region inside a round that draws its order: its first operations only make memory, the rest come in one forced order. -/
theorem wpIn_round_grow {P : Program} {Q : Exit → Act → World → Prop} {m l0 : Nat} {id : Nat} {a : Act} {w : World} {l : List Oper} (n : Nat) (hm : P.follows .mixedOrders = true) (hB : Region.lexTailB .any l.toArray n = true) (hnd : noDefer l = true)
    (h : wpQuiet P l.toArray (fun w' => ∃ g : Gr w, w' = g.w) (fun a' => ∀ w', (∃ g : Gr w, w' = g.w) → wpList P l.toArray (OnlyNormal Q) (l.drop n) a' w') (l.take n) a) : (Code.region id l.toArray true).wpIn (Fence.wide.inRound l0) m P Q a w := by
  simp only [Region.lexTailB, Bool.and_eq_true, decide_eq_true_eq] at hB
  obtain ⟨⟨⟨⟨hsel, hn⟩, hs⟩, hc⟩, hlex⟩ := hB
  have hn' : n < l.length := by simpa using hn
  have htl : (l.take n).length = n := by simp; omega
  have hdl : (l.drop n).length = l.toArray.size - n := by simp
  have inv0 : HeadInv .any l.toArray n (Array.replicate l.toArray.size false) :=
    ⟨by simp, fun j oj _ hl => (by rw [getD_replicate_false] at hl; cases hl), fun t _ ht => getD_in (by simpa using ht) (getD_replicate_false _ _)⟩
  have H := anyQL_lex (md := .any) (g := l.toArray.size - n) hsel hs hc hn (l.take n) 0 _ a (fun j hj => by
    have hj' : j < n := by rw [htl] at hj; exact hj
    simp [hj']) (by simpa using htl) inv0 (by rw [htl]; exact hlex) h
  refine wpIn_mono (Q := OnlyNormal Q) ?_ (fun e a w h => by obtain ⟨rfl, h⟩ := h; exact h)
  refine wpIn_region_any hm ?_
  have := any_of_head (Q' := OnlyNormal Q) (g := l.toArray.size - n) (fun listed a' w' hw' hL => by
    have := wpAny_of_seq (md := .any) (Q' := OnlyNormal Q) (l.drop n) n listed a' w' (fun j => by simp [List.getElem?_drop]) (by rw [hdl]; exact hL.1) (hL.2 w' hw')
    rwa [hdl] at this) _ _ _ { w with drawn := w.drawn + 1 } ⟨⟨_, (Drawn.drewN w 1).below _⟩, rfl⟩ H
  rw [htl, show n + (l.toArray.size - n) = l.toArray.size by omega] at this
  exact anyIn_of_any OnlyNormal.out (noDefer_spec hnd) _ _ _ _ this

/-- the rows whose suffixes begin with the last k bytes of a pattern. -/
def rngTo (p : Nat) (bs pat : List UInt8) : Nat → Nat × Nat
  | 0 => (0, bs.length + 1)
  | k + 1 => (1 + lessN bs (bn pat (pat.length - 1 - k)) + befN p bs (rngTo p bs pat k).1 (bn pat (pat.length - 1 - k)), 1 + lessN bs (bn pat (pat.length - 1 - k)) + befN p bs (rngTo p bs pat k).2 (bn pat (pat.length - 1 - k)))
def cntN (p : Nat) (bs pat : List UInt8) : Nat := (rngTo p bs pat pat.length).2 - (rngTo p bs pat pat.length).1
theorem befN_le (p : Nat) (bs : List UInt8) (r d : Nat) : befN p bs r d ≤ bs.length := befTo_le _ _ _ _ _
theorem befN_mono (p : Nat) (bs : List UInt8) {r s : Nat} (d : Nat) (h : r ≤ s) : befN p bs r d ≤ befN p bs s d := by
  unfold befN befTo
  exact List.countP_mono_left fun i _ hi => by simp at hi ⊢; exact ⟨by omega, hi.2⟩
theorem rngTo_empty {p : Nat} {bs pat : List UInt8} {k : Nat} (h : (rngTo p bs pat k).2 ≤ (rngTo p bs pat k).1) : ∀ {m}, k ≤ m → (rngTo p bs pat m).2 ≤ (rngTo p bs pat m).1
  | 0, hm => by obtain rfl : k = 0 := by omega
                exact h
  | m + 1, hm => by
    rcases Nat.lt_or_ge k (m + 1) with h1 | h1
    · have := rngTo_empty h (m := m) (by omega)
      have := befN_mono p bs (bn pat (pat.length - 1 - m)) this
      rw [rngTo]
      dsimp only
      omega
    · obtain rfl : k = m + 1 := by omega
      exact h
theorem rngTo_le (p : Nat) (bs pat : List UInt8) (hn : bs.length ≤ 65536) : ∀ k, (rngTo p bs pat k).1 ≤ 200000 ∧ (rngTo p bs pat k).2 ≤ 200000
  | 0 => by simp [rngTo]; omega
  | k + 1 => by
    have h1 := lessN_le bs (bn pat (pat.length - 1 - k))
    have h2 := befN_le p bs (rngTo p bs pat k).1 (bn pat (pat.length - 1 - k))
    have h3 := befN_le p bs (rngTo p bs pat k).2 (bn pat (pat.length - 1 - k))
    rw [rngTo]
    dsimp only
    omega
def cntErr (bs : List UInt8) (p : Int) (pat : List UInt8) : Int := if invErr bs p ≠ 0 then invErr bs p else if 65536 < pat.length then 5 else 0
def cntRes (bs : List UInt8) (p : Int) (pat : List UInt8) : Int := if cntErr bs p pat = 0 then (cntN p.toNat bs pat : Int) else 0

/-- between two rounds of Count. -/
structure CntI (w : World) (S T : Nat) (A : Option Addr) (n c p : Nat) (bs : List UInt8) (lo hi : Nat) (W : World) : Prop where
  r1 : Boxed W w.heap.size 3 (.int .i64 0)
  r2 : Boxed W (w.heap.size + 1) 25 (.int .i64 0)
  box : BoxR W S A n c p
  st : Row (Value.int .i64) W T 73 (stAll bs)
  low : Boxed W (T + 1) 3 (.int .i64 (lo : Int))
  high : Boxed W (T + 2) 3 (.int .i64 (hi : Int))
  below : Below w.heap.size w W
  size : T + 4 ≤ W.heap.size
section
variable {w W W' : World} {S T : Nat} {A : Option Addr} {n c p : Nat} {bs : List UInt8} {lo hi : Nat}
theorem CntI.kept {row : Option Nat} (hS : w.heap.size + 2 ≤ S) (hT : S + 1 ≤ T) (h : CntI w S T A n c p bs lo hi W) (hg : W.grownBy W' row) (hrow : ∀ r, row = some r → T + 4 ≤ r) : CntI w S T A n c p bs lo hi W' := by
  have ne : ∀ j, j < T + 4 → some j ≠ row := fun j hj e => by have := hrow j e.symm; omega
  exact ⟨h.r1.kept hg (ne _ (by omega)), h.r2.kept hg (ne _ (by omega)), h.box.grown hg (ne _ (by omega)), h.st.grown hg (ne _ (by omega)), h.low.kept hg (ne _ (by omega)), h.high.kept hg (ne _ (by omega)), h.below.grown hg h.below.size (fun r e => by have := hrow r e; omega), Nat.le_trans h.size hg.size⟩
theorem CntI.grow (h : CntI w S T A n c p bs lo hi W) (hg : Below W.heap.size W W') : CntI w S T A n c p bs lo hi W' :=
  ⟨Boxed.below' h.r1 hg h.r1.lt, Boxed.below' h.r2 hg h.r2.lt, h.box.below hg h.box.lt, h.st.below hg h.st.lt, Boxed.below' h.low hg h.low.lt, Boxed.below' h.high hg h.high.lt, h.below.trans (hg.mono h.below.size), Nat.le_trans h.size hg.size⟩
theorem CntI.step (hS : w.heap.size + 2 ≤ S) (hT : S + 1 ≤ T) (h : CntI w S T A n c p bs lo hi W) (hg : Below W.heap.size W W') (lo' hi' : Nat) :
    KeepsFrom (T + 4) W ((W'.setCell ⟨T + 1, 0, none⟩ (.int .i64 (lo' : Int))).setCell ⟨T + 2, 0, none⟩ (.int .i64 (hi' : Int))) ∧ boxKp w.heap.size (T + 3) W ((W'.setCell ⟨T + 1, 0, none⟩ (.int .i64 (lo' : Int))).setCell ⟨T + 2, 0, none⟩ (.int .i64 (hi' : Int))) ∧ CntI w S T A n c p bs lo' hi' ((W'.setCell ⟨T + 1, 0, none⟩ (.int .i64 (lo' : Int))).setCell ⟨T + 2, 0, none⟩ (.int .i64 (hi' : Int))) := by
  have h' := h.grow hg
  have hsz := h.size
  have hgs := hg.size
  have hbs := h.below.size
  have hsw : ((W'.setCell ⟨T + 1, 0, none⟩ (.int .i64 (lo' : Int))).setCell ⟨T + 2, 0, none⟩ (.int .i64 (hi' : Int))).heap.size = W'.heap.size := by simp [World.setCell]
  have oth : ∀ j, j ≠ T + 1 → j ≠ T + 2 → ((W'.setCell ⟨T + 1, 0, none⟩ (.int .i64 (lo' : Int))).setCell ⟨T + 2, 0, none⟩ (.int .i64 (hi' : Int))).heap[j]? = W'.heap[j]? := fun j h1 h2 => (Below.heap_setCell _ ⟨T + 2, 0, none⟩ _ j h2).trans (Below.heap_setCell _ ⟨T + 1, 0, none⟩ _ j h1)
  have hb : Below w.heap.size W ((W'.setCell ⟨T + 1, 0, none⟩ (.int .i64 (lo' : Int))).setCell ⟨T + 2, 0, none⟩ (.int .i64 (hi' : Int))) := ((hg.mono hbs).setCell (p := ⟨T + 1, 0, none⟩) (by show _ ≤ T + 1; omega) _).setCell (p := ⟨T + 2, 0, none⟩) (by show _ ≤ T + 2; omega) _
  refine ⟨⟨by rw [hsw]; exact hgs, fun j o hj ho _ => (oth j (by omega) (by omega)).trans ((hg.block j (Array.getElem?_eq_some_iff.1 ho).1).trans ho)⟩, ⟨(oth _ (by omega) (by omega)).trans (hg.block _ (by omega)), hb⟩, ?_⟩
  exact ⟨(oth _ (by omega) (by omega)).trans h'.r1, (oth _ (by omega) (by omega)).trans h'.r2, (oth _ (by omega) (by omega)).trans h'.box, (oth _ (by omega) (by omega)).trans h'.st,
    (Below.heap_setCell _ ⟨T + 2, 0, none⟩ _ (T + 1) (by show T + 1 ≠ T + 2; omega)).trans (h'.low.set _), Boxed.set _ ((Below.heap_setCell _ ⟨T + 1, 0, none⟩ _ (T + 2) (by show T + 2 ≠ T + 1; omega)).trans h'.high), h.below.trans hb, by rw [hsw]; omega⟩
theorem CntI.stop (hS : w.heap.size + 2 ≤ S) (hT : S + 1 ≤ T) (h : CntI w S T A n c p bs lo hi W) :
    KeepsFrom (T + 4) W ((W.setCell ⟨w.heap.size, 0, none⟩ (.int .i64 0)).setCell ⟨w.heap.size + 1, 0, none⟩ (.int .i64 0)) ∧ CntI w S T A n c p bs lo hi ((W.setCell ⟨w.heap.size, 0, none⟩ (.int .i64 0)).setCell ⟨w.heap.size + 1, 0, none⟩ (.int .i64 0)) := by
  have hsw : ((W.setCell ⟨w.heap.size, 0, none⟩ (.int .i64 0)).setCell ⟨w.heap.size + 1, 0, none⟩ (.int .i64 0)).heap.size = W.heap.size := by simp [World.setCell]
  have oth : ∀ j, j ≠ w.heap.size → j ≠ w.heap.size + 1 → ((W.setCell ⟨w.heap.size, 0, none⟩ (.int .i64 0)).setCell ⟨w.heap.size + 1, 0, none⟩ (.int .i64 0)).heap[j]? = W.heap[j]? := fun j h1 h2 => (Below.heap_setCell _ ⟨w.heap.size + 1, 0, none⟩ _ j h2).trans (Below.heap_setCell _ ⟨w.heap.size, 0, none⟩ _ j h1)
  have hb : Below w.heap.size W ((W.setCell ⟨w.heap.size, 0, none⟩ (.int .i64 0)).setCell ⟨w.heap.size + 1, 0, none⟩ (.int .i64 0)) := ((Below.refl _ _).setCell (p := ⟨w.heap.size, 0, none⟩) (by show _ ≤ w.heap.size; omega) _).setCell (p := ⟨w.heap.size + 1, 0, none⟩) (by show _ ≤ w.heap.size + 1; omega) _
  refine ⟨⟨by rw [hsw]; exact Nat.le_refl _, fun j o hj ho _ => (oth j (by omega) (by omega)).trans ho⟩, ?_⟩
  exact ⟨(Below.heap_setCell _ ⟨w.heap.size + 1, 0, none⟩ _ w.heap.size (by show w.heap.size ≠ w.heap.size + 1; omega)).trans (h.r1.set _), Boxed.set _ ((Below.heap_setCell _ ⟨w.heap.size, 0, none⟩ _ (w.heap.size + 1) (by show w.heap.size + 1 ≠ w.heap.size; omega)).trans h.r2),
    (oth _ (by omega) (by omega)).trans h.box, (oth _ (by omega) (by omega)).trans h.st, (oth _ (by omega) (by omega)).trans h.low, (oth _ (by omega) (by omega)).trans h.high, h.below.trans hb, by rw [hsw]; exact h.size⟩
end
end Go.Proofs.Ytoodfmilleodaaa

/- Bg Bh Bi Bj Bl Bn Bm. -/
import Derived.Test.YtohadkmaemmfgaaGreatDoorRA16
import Derived.Sort.WalkB12
import Derived.Lib.SlicesMore
import Derived.Deep.LoopGhost
import Derived.Shelf.RegionOpenPlain
import Derived.Lib.Walk
import Derived.Lib.OwnBridge
import Derived.Laws.MakeOwn
set_option maxRecDepth 100000
set_option maxHeartbeats 4000000
namespace Go.Proofs.YtohadkmaemmfgaaGreatDoor.Bwt
open Go.Shelf Go.RowKit Go.Lib Go.Sort
set_option linter.unusedVariables false
theorem run_make_cap {α : Type} {enc : α → Value} {P : Program} {t e : TypeId} {zero : α} {bytes : Nat} (ht : P.underlying t = some (.slice e)) (hi : (P.info? e).map (fun i => (i.zero, i.size, i.bytes)) = some (some (enc zero), 1, bytes))
    (h1 : (enc zero).cells = #[enc zero]) (c : Nat) (hb : (bytes : Int) * c ≤ 281474976710656) (hm : (c : Int) ≤ 9223372036854775807) (W : World) :
    (Instr.makeSlice t (.int .i64 0) (.int .i64 (c : Int))).run P W = .ok (.slice (some ⟨W.heap.size, 0, none⟩) 0 c) (W.alloc (rowObj enc e (List.replicate c zero))) := by
  obtain ⟨i, hi0, hz, hs, hby⟩ := info_parts hi
  rw [run_make W t e i (enc zero) ht hi0 hz .i64 .i64 0 c (by omega) (by omega) (by rw [hby]; exact hb) hm, hs, madeCells_rep _ _ h1]
  simp [rowObj]
theorem _root_.Go.Proofs.YtohadkmaemmfgaaGreatDoor.Own.made {α : Type} {enc : α → Value} (w : World) (e : TypeId) (zero : α) (c : Nat) {B : Nat} (hB : B ≤ w.heap.size) (hc : c ≤ maxLen) : Own enc (w.alloc (rowObj enc e (List.replicate c zero))) B e (some ⟨w.heap.size, 0, none⟩) 0 c [] :=
  World.ownsRow_made w _ c hB hc (by simp)
theorem _root_.Go.Proofs.YtohadkmaemmfgaaGreatDoor.Own.type {α : Type} {enc : α → Value} {w : World} {B : Nat} {e : TypeId} {A : Option Addr} {n c : Nat} {xs : List α} (h : Own enc w B e A n c xs) {g : Nat} (hg : (Value.slice A n c).ownBlock = some g) : B ≤ g ∧ ∃ cur, w.heap[g]? = some (.cells cur e (0, 0)) := by
  rcases h.2 with ⟨h1, _⟩ | ⟨g', cap, cur, h1, h2, h3, _⟩
  · rw [h1] at hg; cases hg
  · rw [h1] at hg
    injection hg with hg
    have hg' : g' = g := hg
    subst hg'
    exact ⟨h2, cur, h3⟩
section
variable {α : Type} {enc : α → Value} {P : Program} {w : World} {B : Nat} {e t : TypeId} {A : Option Addr} {n c : Nat} {xs : List α} {zero : α} {bytes : Nat} {F : Fence} {nF : Nat}
  {ops : Array Oper} {rest : List Oper} {o : Oper} {a : Act} {K : Act → World → Prop} {Q : Exit → Act → World → Prop} {E : Prop}
theorem wpListIn_pushg (hgd : o.guard = none) (s x : Operand) (ho : o.op = .call { callee := .builtin .append, args := #[s, x], argTypes := #[t, t] })
    (ht : P.underlying t = some (.slice e)) (hi : (P.info? e).map (fun i => (i.zero, i.size, i.bytes)) = some (some (enc zero), 1, bytes)) (h1 : ∀ x, (enc x).oneCell' = true) (hz : (enc zero).cells.size = 1)
    (hs : a.eval s = .slice A n c) (hown : Own enc w B e A n c xs) (hB : B ≤ w.heap.size) (y : α) (v : Value) (hv : enc y = v)
    (hx : a.eval x = .slice (some ⟨w.heap.size, 0, none⟩) 1 1) (hl : n + 1 ≤ maxLen) (hby : (n + 1) * bytes ≤ 140737488355328)
    (h : ∀ A2 c2 w', Own enc w' B e A2 (n + 1) c2 (xs ++ [y]) → w.grownBy w' (Value.slice A n c).ownBlock → wpListIn F nF P ops Q rest (a.put o.dst (.slice A2 (n + 1) c2)) w') : wpListIn F nF P ops Q (o :: rest) a (w.alloc (.cells #[v] e)) := by
  subst hv
  refine wpListIn_plain hgd fun K' hK' => ?_
  obtain ⟨A2, c2, w', hrun, h2, h3, h4⟩ := run_append_own_one (P := P) o.type ht hi h1 hz hown hB y hl hby
  unfold Oper.wpIn
  refine ⟨by simp [Oper.about, ho, resolve, Target.leads, Sem.run_pure], ?_⟩
  rw [Oper.semAt_plain F _ _ (by rw [ho]; intro c hc'; cases hc')]
  simp [execOp, ho, resolve, invoke, builtin, hs, hx, hrun, Result.andThen]
  exact hK' _ _ (h A2 c2 w' h2 (grownBy.trans' (World.grownBy_alloc w _ _) h4))
end
end Go.Proofs.YtohadkmaemmfgaaGreatDoor.Bwt
namespace Go.Proofs.YtohadkmaemmfgaaGreatDoor.Bwt
open Go.RowKit Go.Proofs Go.Shelf
set_option linter.unusedVariables false
attribute [local go_sem] Oper.semAt_some
structure InvI (w : World) (A : Option Addr) (n c p : Nat) (bs : List UInt8) (k : Nat) (W : World) : Prop where
  box : BoxR W w.heap.size A n c p
  box2 : BoxR W (w.heap.size + 3) A n c p
  out : ∃ A2 c2, Boxed W (w.heap.size + 2) 23 (.slice A2 k c2) ∧ Own encB W (w.heap.size + 1) 5 A2 k c2 (backTo p bs k)
  below : Below w.heap.size w W
  size : w.heap.size + 4 ≤ W.heap.size
section
variable {w W W' : World} {A : Option Addr} {n c p : Nat} {bs : List UInt8} {k : Nat}
theorem InvI.kept {row : Option Nat} (h : InvI w A n c p bs k W) (hg : W.grownBy W' row) (hrow : ∀ r, row = some r → w.heap.size + 4 ≤ r) (hc : ∀ r o, row = some r → W.heap[r]? = some o → o.isCells = false) : InvI w A n c p bs k W' := by
  obtain ⟨h1, h2, ⟨A2, c2, h3, h4⟩, h5, h6⟩ := h
  have ne : ∀ j, j < w.heap.size + 4 → some j ≠ row := fun j hj e => by have := hrow j e.symm; omega
  refine ⟨h1.grown hg (ne _ (by omega)), h2.grown hg (ne _ (by omega)), ⟨A2, c2, h3.kept hg (ne _ (by omega)), h4.keepBwt fun g o hB ho hcell => ?_⟩, h5.grown hg h5.size (fun r e => by have := hrow r e; omega), Nat.le_trans h6 hg.size⟩
  refine (hg.block g (Array.getElem?_eq_some_iff.1 ho).1 (fun e => ?_)).trans ho
  have := hc g o e.symm ho
  rw [hcell] at this
  cases this
theorem InvI.grow (h : InvI w A n c p bs k W) (hg : Below W.heap.size W W') : InvI w A n c p bs k W' := by
  obtain ⟨h1, h2, ⟨A2, c2, h3, h4⟩, h5, h6⟩ := h
  exact ⟨h1.below hg h1.lt, h2.below hg h2.lt, ⟨A2, c2, Boxed.below' h3 hg (Boxed.lt h3), h4.below hg⟩, h5.trans (hg.mono h5.size), Nat.le_trans h6 hg.size⟩
end
end Go.Proofs.YtohadkmaemmfgaaGreatDoor.Bwt
namespace Go.Proofs.YtohadkmaemmfgaaGreatDoor.Bwt
open Go.RowKit Go.Proofs Go.Shelf
set_option linter.unusedVariables false

end Go.Proofs.YtohadkmaemmfgaaGreatDoor.Bwt
namespace Go.Proofs.YtohadkmaemmfgaaGreatDoor.Bwt
open Go.RowKit Go.Proofs Go.Shelf
set_option linter.unusedVariables false
attribute [local go_sem] Oper.semAt_some
structure BefI (w : World) (A : Option Addr) (n c p r d : Nat) (bs : List UInt8) (x : Nat) (W : World) : Prop where
  row : Boxed W (w.heap.size + 1) 3 (.int .i64 (r : Int))
  byt : Boxed W (w.heap.size + 2) 5 (.int .u8 (d : Int))
  cnt : Boxed W (w.heap.size + 3) 3 (.int .i64 (x : Int))
  below : Below w.heap.size w W
  size : w.heap.size + 5 ≤ W.heap.size
theorem BefI.kept {w W W' : World} {A : Option Addr} {n c p r d x : Nat} {bs : List UInt8} {row : Option Nat} (h : BefI w A n c p r d bs x W) (hg : W.grownBy W' row) (hrow : ∀ r, row = some r → w.heap.size + 5 ≤ r) : BefI w A n c p r d bs x W' := by
  have ne : ∀ j, j < w.heap.size + 5 → some j ≠ row := fun j hj e => by have := hrow j e.symm; omega
  exact ⟨h.row.kept hg (ne _ (by omega)), h.byt.kept hg (ne _ (by omega)), h.cnt.kept hg (ne _ (by omega)), h.below.grown hg h.below.size (fun r e => by have := hrow r e; omega), Nat.le_trans h.size hg.size⟩
end Go.Proofs.YtohadkmaemmfgaaGreatDoor.Bwt
namespace Go.Proofs.YtohadkmaemmfgaaGreatDoor.Bwt
open Go.RowKit Go.Proofs Go.Shelf
set_option linter.unusedVariables false
attribute [local go_sem] Oper.semAt_some
structure Gr (W : World) where
  w : World
  h : Below W.heap.size W w
instance (W : World) : Nonempty (Gr W) := ⟨⟨W, Below.refl _ _⟩⟩
theorem wpIn_round_grow {P : Program} {Q : Exit → Act → World → Prop} {m l0 : Nat} {id : Nat} {a : Act} {w : World} {l : List Oper} (n : Nat) (hm : P.follows .mixedOrders = true) (hB : Region.lexTailB .any l.toArray n = true) (hnd : noDefer l = true)
    (h : wpQuiet P l.toArray (fun w' => ∃ g : Gr w, w' = g.w) (fun a' => ∀ w', (∃ g : Gr w, w' = g.w) → wpList P l.toArray (OnlyNormal Q) (l.drop n) a' w') (l.take n) a) : (Code.region id l.toArray true).wpIn (Fence.wide.inRound l0) m P Q a w := by
  simp only [Region.lexTailB, Bool.and_eq_true, decide_eq_true_eq] at hB
  obtain ⟨⟨⟨⟨hsel, hn⟩, hs⟩, hc⟩, hlex⟩ := hB
  have hn' : n < l.length := by simpa using hn
  have htl : (l.take n).length = n := by simp; omega
  have hdl : (l.drop n).length = l.toArray.size - n := by simp
  have inv0 : HeadInv .any l.toArray n (Array.replicate l.toArray.size false) :=
    ⟨by simp, fun j oj _ hl => (by rw [getD_replicate_false] at hl; cases hl), fun t _ ht => getD_in (by simpa using ht) (getD_replicate_false _ _)⟩
  have H := anyQL_lex (md := .any) (g := l.toArray.size - n) hsel hs hc hn (l.take n) 0 _ a (fun j hj => by
    have hj' : j < n := by rw [htl] at hj; exact hj
    simp [hj']) (by simpa using htl) inv0 (by rw [htl]; exact hlex) h
  refine wpIn_mono (Q := OnlyNormal Q) ?_ (fun e a w h => by obtain ⟨rfl, h⟩ := h; exact h)
  refine wpIn_region_any hm ?_
  have := any_of_head (Q' := OnlyNormal Q) (g := l.toArray.size - n) (fun listed a' w' hw' hL => by
    have := wpAny_of_seq (md := .any) (Q' := OnlyNormal Q) (l.drop n) n listed a' w' (fun j => by simp [List.getElem?_drop]) (by rw [hdl]; exact hL.1) (hL.2 w' hw')
    rwa [hdl] at this) _ _ _ { w with drawn := w.drawn + 1 } ⟨⟨_, (Drawn.drewN w 1).below _⟩, rfl⟩ H
  rw [htl, show n + (l.toArray.size - n) = l.toArray.size by omega] at this
  exact anyIn_of_any OnlyNormal.out (noDefer_spec hnd) _ _ _ _ this
structure CntI (w : World) (S T : Nat) (A : Option Addr) (n c p : Nat) (bs : List UInt8) (lo hi : Nat) (W : World) : Prop where
  r1 : Boxed W w.heap.size 3 (.int .i64 0)
  r2 : Boxed W (w.heap.size + 1) 26 (.int .i64 0)
  box : BoxR W S A n c p
  st : Row (Value.int .i64) W T 322 (stAll bs)
  low : Boxed W (T + 1) 3 (.int .i64 (lo : Int))
  high : Boxed W (T + 2) 3 (.int .i64 (hi : Int))
  below : Below w.heap.size w W
  size : T + 4 ≤ W.heap.size
section
variable {w W W' : World} {S T : Nat} {A : Option Addr} {n c p : Nat} {bs : List UInt8} {lo hi : Nat}
theorem CntI.kept {row : Option Nat} (hS : w.heap.size + 2 ≤ S) (hT : S + 1 ≤ T) (h : CntI w S T A n c p bs lo hi W) (hg : W.grownBy W' row) (hrow : ∀ r, row = some r → T + 4 ≤ r) : CntI w S T A n c p bs lo hi W' := by
  have ne : ∀ j, j < T + 4 → some j ≠ row := fun j hj e => by have := hrow j e.symm; omega
  exact ⟨h.r1.kept hg (ne _ (by omega)), h.r2.kept hg (ne _ (by omega)), h.box.grown hg (ne _ (by omega)), h.st.grown hg (ne _ (by omega)), h.low.kept hg (ne _ (by omega)), h.high.kept hg (ne _ (by omega)), h.below.grown hg h.below.size (fun r e => by have := hrow r e; omega), Nat.le_trans h.size hg.size⟩
theorem CntI.grow (h : CntI w S T A n c p bs lo hi W) (hg : Below W.heap.size W W') : CntI w S T A n c p bs lo hi W' :=
  ⟨Boxed.below' h.r1 hg h.r1.lt, Boxed.below' h.r2 hg h.r2.lt, h.box.below hg h.box.lt, h.st.below hg h.st.lt, Boxed.below' h.low hg h.low.lt, Boxed.below' h.high hg h.high.lt, h.below.trans (hg.mono h.below.size), Nat.le_trans h.size hg.size⟩
end
end Go.Proofs.YtohadkmaemmfgaaGreatDoor.Bwt
namespace Go.Proofs.YtohadkmaemmfgaaGreatDoor.Bwt
open Go.RowKit Go.Proofs
set_option linter.unusedVariables false
def upB (ops : List Oper) : Bool := (List.range ops.length).all fun j => match ops[j]? with | some o => o.after.all fun e => (!Region.binds .any e) || decide (e.on < j) | none => true
theorem getD_set' (listed : Array Bool) (i j : Nat) (hi : i < listed.size) : (listed.setIfInBounds i true).getD j false = if i = j then true else listed.getD j false := by
  simp only [Array.getD_eq_getD_getElem?, Array.getElem?_setIfInBounds]
  by_cases h : i = j
  · subst h; simp [hi]
  · simp [h]
section
variable {P : Program} {Q : Exit → Act → World → Prop} {m l0 : Nat} {l : List Oper}
end
structure SlotInv (N s0 m : Nat) (base : List (Nat × Value)) (v : Nat → Value) (C : Array Bool → World → Prop) (listed : Array Bool) (a : Act) (w : World) : Prop where
  size : a.tmps.size = N
  base : ∀ x ∈ base, a.eval (.tmp x.1) = x.2
  got : ∀ j, j < m → listed.getD j false = true → a.eval (.tmp (s0 + j)) = v j
  world : C listed w
theorem eval_put {a : Act} {d s : Nat} {v : Value} : (a.put (some d) v).eval (.tmp s) = if d = s ∧ s < a.tmps.size then v else a.eval (.tmp s) := by
  simp only [Act.put, Act.eval, Array.getD_eq_getD_getElem?, Array.getElem?_setIfInBounds]
  by_cases h : d = s
  · subst h
    by_cases h2 : d < a.tmps.size
    · simp [h2]
    · simp [h2]
  · simp [h]
theorem SlotInv.put {N s0 m : Nat} {base : List (Nat × Value)} {v : Nat → Value} {C : Array Bool → World → Prop} {listed : Array Bool} {a : Act} {w w' : World} (h : SlotInv N s0 m base v C listed a w) {i : Nat} (hi : i < m) (hN : s0 + m ≤ N) (hb : ∀ x ∈ base, x.1 < s0 ∨ s0 + m ≤ x.1) (hs : i < listed.size)
    (hC : C (listed.setIfInBounds i true) w') : SlotInv N s0 m base v C (listed.setIfInBounds i true) (a.put (some (s0 + i)) (v i)) w' := by
  refine ⟨by simp [Act.put, h.size], fun x hx => ?_, fun j hj hl => ?_, hC⟩
  · rw [eval_put, if_neg (by have := hb x hx; omega)]
    exact h.base x hx
  · rw [eval_put]
    by_cases e : i = j
    · subst e
      rw [if_pos ⟨rfl, by rw [h.size]; omega⟩]
    · rw [if_neg (by omega)]
      rw [getD_set' _ _ _ hs, if_neg e] at hl
      exact h.got j hj hl
theorem SlotInv.none {N s0 m : Nat} {base : List (Nat × Value)} {v : Nat → Value} {C : Array Bool → World → Prop} {listed : Array Bool} {a : Act} {w w' : World} (h : SlotInv N s0 m base v C listed a w) {i : Nat} (hi : m ≤ i) (hs : i < listed.size)
    (hC : C (listed.setIfInBounds i true) w') : SlotInv N s0 m base v C (listed.setIfInBounds i true) (a.put none undef) w' :=
  ⟨h.size, h.base, fun j hj hl => by rw [getD_set' _ _ _ hs, if_neg (by omega)] at hl; exact h.got j hj hl, hC⟩
end Go.Proofs.YtohadkmaemmfgaaGreatDoor.Bwt
namespace Go.Proofs.YtohadkmaemmfgaaGreatDoor.Bwt
open Go.RowKit Go.Proofs Go.Shelf
set_option linter.unusedVariables false
set_option linter.unusedSimpArgs false
attribute [local go_sem] Oper.semAt_some
theorem two (w : World) (o1 o2 : Obj) : ((w.alloc o1).alloc o2).heap[w.heap.size]? = some o1 ∧ ((w.alloc o1).alloc o2).heap[w.heap.size + 1]? = some o2 ∧ Below w.heap.size w ((w.alloc o1).alloc o2) ∧ ((w.alloc o1).alloc o2).heap.size = w.heap.size + 2 := by
  have s1 : (w.alloc o1).heap.size = w.heap.size + 1 := by simp
  have t2 := heap_alloc_new (w.alloc o1) o2
  have t1 := heap_alloc_new w o1
  rw [s1] at t2
  refine ⟨?_, t2, ?_, by simp⟩
  · rw [Below.heap_alloc _ _ _ (by omega)]; exact t1
  · exact (((Below.refl _ _).alloc (Nat.le_refl _) _).alloc (by omega) _)
def cntW (T lo' hi' : Nat) : Bool → Bool → World → World
  | false, false, x => x
  | true, false, x => x.setCell ⟨T + 1, 0, none⟩ (.int .i64 (lo' : Int))
  | false, true, x => x
  | true, true, x => (x.setCell ⟨T + 1, 0, none⟩ (.int .i64 (lo' : Int))).setCell ⟨T + 2, 0, none⟩ (.int .i64 (hi' : Int))
def cntC (W : World) (T lo' hi' : Nat) (listed : Array Bool) (w' : World) : Prop :=
  (∃ g : Gr W, w' = cntW T lo' hi' (listed.getD 16 false) (listed.getD 17 false) g.w) ∧ (listed.getD 16 false = true → ∀ j, (j < 8 ∨ 11 ≤ j ∧ j < 15) → listed.getD j false = true) ∧ (listed.getD 17 false = true → listed.getD 16 false = true ∧ ∀ j, j < 16 → listed.getD j false = true) ∧ (listed.getD 14 false = true → ∀ j, 11 ≤ j → j < 14 → listed.getD j false = true)
section
variable {W w' : World} {T lo' hi' : Nat} {listed : Array Bool}
theorem getD_rep (n j : Nat) : (Array.replicate n false).getD j false = false := by
  rw [Array.getD_eq_getD_getElem?, Array.getElem?_replicate]
  split <;> rfl
theorem cntC.start (W : World) (T lo' hi' : Nat) : cntC W T lo' hi' (Array.replicate 18 false) W.drew := by
  have h : ∀ j, (Array.replicate 18 false).getD j false = false := getD_rep 18
  refine ⟨⟨⟨W.drew, (Drawn.drewN W 1).below _⟩, ?_⟩, fun e => ?_, fun e => ?_, fun e => ?_⟩
  · rw [h, h]; rfl
  · rw [h] at e; cases e
  · rw [h] at e; cases e
  · rw [h] at e; cases e
theorem cntC.off17 (h : cntC W T lo' hi' listed w') {j : Nat} (hun : listed.getD j false = false) (hj : j < 16) : listed.getD 17 false = false := by
  cases hc : listed.getD 17 false with
  | false => rfl
  | true => have := (h.2.2.1 hc).2 j hj; rw [hun] at this; cases this
theorem cntC.off16 (h : cntC W T lo' hi' listed w') {j : Nat} (hun : listed.getD j false = false) (hj : j < 8 ∨ 11 ≤ j ∧ j < 15) : listed.getD 16 false = false := by
  cases hc : listed.getD 16 false with
  | false => rfl
  | true => have := h.2.1 hc j hj; rw [hun] at this; cases this
theorem cntC.set (h : cntC W T lo' hi' listed w') {i : Nat} (hi : i < 16 ∧ i ≠ 14) (hs : i < listed.size) : cntC W T lo' hi' (listed.setIfInBounds i true) w' := by
  have e : ∀ j, listed.getD j false = true → (listed.setIfInBounds i true).getD j false = true := fun j hj => by rw [getD_set' _ _ _ hs, hj]; split <;> rfl
  have e16 : (listed.setIfInBounds i true).getD 16 false = listed.getD 16 false := by rw [getD_set' _ _ _ hs, if_neg (by omega)]
  have e17 : (listed.setIfInBounds i true).getD 17 false = listed.getD 17 false := by rw [getD_set' _ _ _ hs, if_neg (by omega)]
  have e14 : (listed.setIfInBounds i true).getD 14 false = listed.getD 14 false := by rw [getD_set' _ _ _ hs, if_neg (by omega)]
  refine ⟨?_, ?_, ?_, ?_⟩
  · rw [e16, e17]; exact h.1
  · rw [e16]; exact fun hc j hj => e j (h.2.1 hc j hj)
  · rw [e16, e17]; exact fun hc => ⟨(h.2.2.1 hc).1, fun j hj => e j ((h.2.2.1 hc).2 j hj)⟩
  · rw [e14]; exact fun hc j h1 h2 => e j (h.2.2.2 hc j h1 h2)
theorem cntC.call (h : cntC W T lo' hi' listed w') {i : Nat} (hi : i < 16) (hj : i < 8 ∨ 11 ≤ i ∧ i < 15) (hun : listed.getD i false = false) (hs : i < listed.size) (h14 : i = 14 → ∀ j, 11 ≤ j → j < 14 → listed.getD j false = true) (g : Gr W) : cntC W T lo' hi' (listed.setIfInBounds i true) g.w := by
  have h1 := h.off16 hun hj
  have h2 := h.off17 hun hi
  have e16 : (listed.setIfInBounds i true).getD 16 false = false := by rw [getD_set' _ _ _ hs, if_neg (by omega)]; exact h1
  have e17 : (listed.setIfInBounds i true).getD 17 false = false := by rw [getD_set' _ _ _ hs, if_neg (by omega)]; exact h2
  refine ⟨⟨g, by rw [e16, e17]; rfl⟩, fun e => ?_, fun e => ?_, fun e j h3 h4 => ?_⟩
  · rw [e16] at e; cases e
  · rw [e17] at e; cases e
  · have : listed.getD j false = true := by
      by_cases hi14 : i = 14
      · exact h14 hi14 j h3 h4
      · rw [getD_set' _ _ _ hs, if_neg hi14] at e
        exact h.2.2.2 e j h3 h4
    rw [getD_set' _ _ _ hs, this]; split <;> rfl
theorem cntC.mem (h : cntC W T lo' hi' listed w') {j : Nat} (hun : listed.getD j false = false) (hj : j < 16) {m : Nat} {v : Value} (hv : ∀ g : Gr W, g.w.cell? ⟨T, m, none⟩ = some v) : w'.cell? ⟨T, m, none⟩ = some v := by
  have h2 := h.off17 hun hj
  obtain ⟨g, hg⟩ := h.1
  rw [h2] at hg
  cases hc : listed.getD 16 false with
  | false => rw [hc] at hg; rw [hg]; exact hv g
  | true =>
    rw [hc] at hg
    rw [hg]
    show (g.w.setCell ⟨T + 1, 0, none⟩ _).cell? _ = _
    have := Below.heap_setCell g.w ⟨T + 1, 0, none⟩ (.int .i64 (lo' : Int)) T (by show T ≠ T + 1; omega)
    have hv' := hv g
    simp only [World.cell?] at hv' ⊢
    rw [this]; exact hv'
end
end Go.Proofs.YtohadkmaemmfgaaGreatDoor.Bwt

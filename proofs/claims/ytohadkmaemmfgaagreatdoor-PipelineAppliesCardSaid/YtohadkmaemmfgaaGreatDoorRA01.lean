/- Qt Ka Rf Ks. -/
import Derived.StillTail
import Derived.Deep.Quiet
import Derived.BigQuiet
import Derived.Deep.RegionWith
import Derived.Test.YtohadkmaemmfgaaGreatDoorProg
import Derived.Test.YtohadkmaemmfgaaGreatDoorRA00
import Derived.WalkLawsBesides
import Derived.Laws.Tables
import Derived.Laws.Rows
import Derived.Deep.WholeRow
import Derived.RangeFuncNested
import Derived.RangeFuncBound
import Derived.RangeFuncCalls
import Derived.RangeFuncLeaves
import Derived.OwnWalkIn
import Derived.TacticsInMore
import Derived.LoopNIn
import Derived.LoopIn
import Derived.WalkKit
import Derived.Lib.Hide
set_option maxRecDepth 100000
set_option maxHeartbeats 4000000
namespace Go.Proofs.YtohadkmaemmfgaaGreatDoor
section
variable {P : Program} {ops : Array Oper} {md : Region.Mode} {C : World → Prop}
def anyQL (P : Program) (md : Region.Mode) (ops : Array Oper) (C : World → Prop) (n : Nat) (L : Array Bool → Act → Prop) : Nat → Array Bool → Act → Prop
  | 0, listed, a => L listed a
  | f + 1, listed, a => Region.ready md ops listed ≠ [] ∧ ∀ i ∈ Region.ready md ops listed, i < n ∧ qOp P ops C i (anyQL P md ops C n L f (listed.setIfInBounds i true)) a
theorem any_of_head {n g : Nat} {L : Array Bool → Act → Prop} {Q' : Exit → Act → World → Prop} (hL : ∀ listed a w, C w → L listed a → wpAny P md ops Q' g listed a w) :
    ∀ (f : Nat) (listed : Array Bool) (a : Act) (w : World), C w → anyQL P md ops C n L f listed a → wpAny P md ops Q' (f + g) listed a w
  | 0, listed, a, w, hw, h => by rw [Nat.zero_add]; exact hL _ _ _ hw h
  | f + 1, listed, a, w, hw, h => by
    rw [show f + 1 + g = (f + g) + 1 by omega]
    exact ⟨fun h0 => absurd h0 h.1, fun i hi => wpOp_of_qOp hw (fun a' w' hw' h' => any_of_head hL f _ a' w' hw' h') (h.2 i hi).2⟩
theorem anyQL_first {n i : Nat} {oi : Oper} {v : Value} {L : Array Bool → Act → Prop} (hi : ops[i]? = some oi) (hsel : ∀ (j : Nat) (o : Oper) cs b, ops[j]? = some o → o.op ≠ .select cs b)
    (hs : Region.sinkB md ops n = true) (hc : Region.chainB md ops n = true) (hn : n < ops.size) (hin : i < n)
    (hdone : ∀ listed a, L listed a → ∀ j ∈ Region.ready md ops listed, n ≤ j) :
    ∀ (f : Nat) (listed : Array Bool) (a : Act), HeadInv md ops n listed →
      (∀ j oj, ops[j]? = some oj → j ≠ i → listed.getD j true = false → (∀ e ∈ oj.after, Region.binds md e = true → e.on ≠ i) → oi.apart ops oj = true) →
      i ∈ Region.ready md ops listed → YieldsIn P ops C oi v a →
      anyQL P md ops C n L f (listed.setIfInBounds i true) (a.put oi.dst v) → anyQL P md ops C n L (f + 1) listed a := by
  intro f
  induction f with
  | zero =>
    intro listed a inv _ hr hy H
    have hun := (mem_ready.1 hr).1
    refine ⟨fun h => (by rw [h] at hr; cases hr), fun j hj => ?_⟩
    have hjn : j < n := by
      rcases Nat.lt_or_ge j n with h | h
      · exact h
      · exact absurd hj (tail_waits hs hc hn inv _ i rfl hin hun j h)
    refine ⟨hjn, ?_⟩
    by_cases hji : j = i
    · subst hji; exact hy.qOp hi H
    · have := hdone _ _ H j (ready_mono hj hji)
      omega
  | succ f ih =>
    intro listed a inv hfree hr hy H
    have hun := (mem_ready.1 hr).1
    refine ⟨fun h => (by rw [h] at hr; cases hr), fun j hj => ?_⟩
    have hjn : j < n := by
      rcases Nat.lt_or_ge j n with h | h
      · exact h
      · exact absurd hj (tail_waits hs hc hn inv _ i rfl hin hun j h)
    refine ⟨hjn, ?_⟩
    by_cases hji : j = i
    · subst hji; exact hy.qOp hi H
    · have h1 := (H.2 j (ready_mono hj hji)).2
      obtain ⟨hjun, oj, hoj, hall⟩ := mem_ready.1 hj
      have hnot : ∀ e ∈ oj.after, Region.binds md e = true → e.on ≠ i := fun e he hb heq => by
        have h1 := hall e he hb
        rw [heq, getD_both hun] at h1
        cases h1
      have h2 := qOp_put hoj (hfree j oj hoj hji hjun hnot) (fun cs b => hsel i oi cs b hi) (fun cs b => hsel j oj cs b hoj) hy h1
      have hfree' : ∀ k ok, ops[k]? = some ok → k ≠ i → (listed.setIfInBounds j true).getD k true = false →
          (∀ e ∈ ok.after, Region.binds md e = true → e.on ≠ i) → oi.apart ops ok = true := fun k ok hk hki hun hno => by
        refine hfree k ok hk hki ?_ hno
        by_cases hjk : j = k
        · subst hjk; exact hjun
        · rw [getD_set_ne true hjk] at hun; exact hun
      refine qOp_mono (fun a' h3 => ih (listed.setIfInBounds j true) a' (inv.set hj hjn) hfree' (ready_mono hr (Ne.symm hji)) h3.1 ?_) h2
      rw [Array.setIfInBounds_comm _ _ hji]
      exact h3.2
theorem anyQL_lex {n g : Nat} {Lq : Act → Prop} (hsel : Region.noSelect ops = true) (hs : Region.sinkB md ops n = true) (hc : Region.chainB md ops n = true) (hn : n < ops.size) :
    ∀ (l : List Oper) (k : Nat) (listed : Array Bool) (a : Act), (∀ j, j < l.length → l[j]? = ops[k + j]?) → k + l.length = n → HeadInv md ops n listed →
    Region.lexHead md ops g l.length k listed = true → wpQuiet P ops C Lq l a →
    anyQL P md ops C n (fun listed' a' => Region.seqB md ops g n listed' = true ∧ Lq a') l.length listed a
  | [], k, listed, a, _, hk, _, hB, h => by
    have : k = n := by simpa using hk
    subst this
    exact ⟨by simpa [Region.lexHead] using hB, h⟩
  | o :: l, k, listed, a, hl, hk, inv, hB, h => by
    have h0 : ops[k]? = some o := by simpa using (hl 0 (by simp)).symm
    simp only [List.length_cons, Region.lexHead, Bool.and_eq_true] at hB
    obtain ⟨⟨hr, hf⟩, hB'⟩ := hB
    have hkn : k < n := by simp only [List.length_cons] at hk; omega
    have hr' : k ∈ Region.ready md ops listed := by simpa using hr
    have hst : qOp P ops C k (wpQuiet P ops C Lq l) a := by unfold qOp; simp only [h0]; exact h
    obtain ⟨v, hy, hK⟩ := yieldsIn_of_qOp h0 hst
    exact anyQL_first h0 (Region.noSelect_spec hsel) hs hc hn hkn (fun listed' a' hL => seqB_ready hL.1) l.length listed a inv (Region.free_spec h0 hf) hr' hy
      (anyQL_lex hsel hs hc hn l (k + 1) _ _ (fun j hj => by have := hl (j + 1) (by simp; omega); simpa [Nat.add_assoc, Nat.add_comm 1 j] using this) (by simp only [List.length_cons] at hk; omega) (inv.set hr' hkn) hB' hK)
theorem wp_region_quiet_tail {id : Nat} {Q : Exit → Act → World → Prop} {a : Act} {w : World} {l : List Oper} (n : Nat) (hm : P.follows .mixedOrders = true) (hB : Region.lexTailB .any l.toArray n = true)
    (h : wpQuiet P l.toArray (fun w' => ∃ k, w' = w.drewN k) (fun a' => ∀ w', (∃ k, w' = w.drewN k) → wpList P l.toArray Q (l.drop n) a' w') (l.take n) a) : (Code.region id l.toArray true).wp P Q a w := by
  simp only [Region.lexTailB, Bool.and_eq_true, decide_eq_true_eq] at hB
  obtain ⟨⟨⟨⟨hsel, hn⟩, hs⟩, hc⟩, hlex⟩ := hB
  have hn' : n < l.length := by simpa using hn
  have htl : (l.take n).length = n := by simp; omega
  have hdl : (l.drop n).length = l.toArray.size - n := by simp
  have inv0 : HeadInv .any l.toArray n (Array.replicate l.toArray.size false) :=
    ⟨by simp, fun j oj _ hl => (by rw [getD_replicate_false] at hl; cases hl), fun t _ ht => getD_in (by simpa using ht) (getD_replicate_false _ _)⟩
  have H := anyQL_lex (md := .any) (g := l.toArray.size - n) hsel hs hc hn (l.take n) 0 _ a (fun j hj => by
    have hj' : j < n := by rw [htl] at hj; exact hj
    simp [hj']) (by simpa using htl) inv0 (by rw [htl]; exact hlex) h
  refine wp_region_any hm ?_
  have := any_of_head (Q' := Q) (g := l.toArray.size - n) (fun listed a' w' hw' hL => by
    have := wpAny_of_seq (md := .any) (Q' := Q) (l.drop n) n listed a' w' (fun j => by simp [List.getElem?_drop]) (by rw [hdl]; exact hL.1) (hL.2 w' hw')
    rwa [hdl] at this) _ _ _ { w with drawn := w.drawn + 1 } ⟨1, rfl⟩ H
  rw [htl, show n + (l.toArray.size - n) = l.toArray.size by omega] at this
  exact this
end
end Go.Proofs.YtohadkmaemmfgaaGreatDoor
namespace Go.Proofs.YtohadkmaemmfgaaGreatDoor
open Go.RowKit Go.Proofs
set_option linter.unusedVariables false
theorem tB : Tryz.prog.underlying 23 = some (.slice (Tryz.prog.elem 23)) := by kernel_rfl
theorem eB : Tryz.prog.elem 23 = 5 := by kernel_rfl
theorem sB : ∀ W : World, (sizeOf 5).run Tryz.prog W = .ok 1 W := fun _ => by kernel_rfl
theorem uB : Tryz.prog.underlying 23 = some (.slice 5) := by kernel_rfl
theorem u8 : Tryz.prog.underlying 5 = some (.int .u8) := by kernel_rfl
theorem uS : Tryz.prog.underlying 9 = some .string := by kernel_rfl
def encB (b : UInt8) : Value := .int .u8 (b.toNat : Int)
theorem encB_one (s : UInt8) : (encB s).oneCell' = true := rfl
theorem infoB : (Tryz.prog.info? 5).map (fun i => (i.zero, i.size, i.bytes)) = some (some (encB 0), 1, 1) := by kernel_rfl
theorem Own.bytesB {w : World} {B : Nat} {e : TypeId} {A : Option Addr} {n c : Nat} {bs : List UInt8} (h : Own encB w B e A n c bs) : Bytes w A n c bs := ⟨h.length, h.cap, h.cells 0⟩
theorem Bytes.nil (w : World) (c : Nat) : Bytes w none 0 c [] := ⟨rfl, Nat.zero_le _, fun h => absurd h (by omega)⟩
section
variable {α : Type} {enc : α → Value} {P : Program} {w : World} {B : Nat} {e t : TypeId} {A : Option Addr} {n c : Nat} {xs : List α} {zero : α} {bytes : Nat}
  {ops : Array Oper} {rest : List Oper} {o : Oper} {a : Act} {K : Act → World → Prop} {Q : Exit → Act → World → Prop} {E : Prop}
theorem wpList_pushv (hgd : o.guard = none) (s x : Operand) (ho : o.op = .call { callee := .builtin .append, args := #[s, x], argTypes := #[t, t] })
    (ht : P.underlying t = some (.slice e)) (hi : (P.info? e).map (fun i => (i.zero, i.size, i.bytes)) = some (some (enc zero), 1, bytes)) (h1 : ∀ x, (enc x).oneCell' = true) (hz : (enc zero).cells.size = 1)
    (hs : a.eval s = .slice A n c) (hown : Own enc w B e A n c xs) (hB : B ≤ w.heap.size) (y : α) (v : Value) (hv : enc y = v)
    (hx : a.eval x = .slice (some ⟨w.heap.size, 0, none⟩) 1 1) (hl : n + 1 ≤ maxLen) (hby : (n + 1) * bytes ≤ 140737488355328)
    (h : ∀ A2 c2 w', Own enc w' B e A2 (n + 1) c2 (xs ++ [y]) → Below B w w' → wpList P ops Q rest (a.put o.dst (.slice A2 (n + 1) c2)) w') : wpList P ops Q (o :: rest) a (w.alloc (.cells #[v] e)) := by
  subst hv
  exact wpList_push hgd s x ho ht hi h1 hz hs hown hB y hx hl hby h
end
theorem balloc {w w1 : World} (h : Below w.heap.size w w1) (o : Obj) : Below w.heap.size w (w1.alloc o) := h.alloc h.size o
structure Ins where
  op : Int
  arg : Int
deriving DecidableEq
structure Arr where
  word : Bool
  size : Int
deriving DecidableEq
def Cells2 (w : World) (A : Option Addr) (n : Nat) (f g : Nat → Value) : Prop :=
  0 < n → ∃ b off, A = some ⟨b, off, none⟩ ∧ b < w.heap.size ∧ ∀ i, i < n → w.cell? ⟨b, off + i * 2, none⟩ = some (f i) ∧ w.cell? ⟨b, off + i * 2 + 1, none⟩ = some (g i)
def gI (l : List Ins) (k : Nat) : Ins := l.getD k ⟨0, 0⟩
def gA (l : List Arr) (k : Nat) : Arr := l.getD k ⟨false, 0⟩
def Codes (w : World) (A : Option Addr) (n c : Nat) (l : List Ins) : Prop := l.length = n ∧ n ≤ c ∧ (∀ x ∈ l, 0 ≤ x.arg ∧ x.arg < 4294967296 ∧ (Lit.int .i64 x.op).wf = true) ∧ Cells2 w A n (fun i => .int .i64 (gI l i).op) (fun i => .int .u32 (gI l i).arg)
def Arrs (w : World) (A : Option Addr) (n c : Nat) (l : List Arr) : Prop := l.length = n ∧ n ≤ c ∧ (∀ x ∈ l, (Lit.int .i64 x.size).wf = true) ∧ Cells2 w A n (fun i => .bool (gA l i).word) (fun i => .int .i64 (gA l i).size)
section
variable {w w' : World} {A : Option Addr} {n c : Nat} {f g : Nat → Value}
theorem Cells2.below (h : Cells2 w A n f g) (hb : Below w.heap.size w w') : Cells2 w' A n f g := fun hn => by
  obtain ⟨b, off, rfl, hlt, hc⟩ := h hn
  exact ⟨b, off, rfl, Nat.lt_of_lt_of_le hlt hb.size, fun i hi => ⟨(hb.cell (p := ⟨b, off + i * 2, none⟩) hlt).trans (hc i hi).1, (hb.cell (p := ⟨b, off + i * 2 + 1, none⟩) hlt).trans (hc i hi).2⟩⟩
theorem Codes.below {l : List Ins} (h : Codes w A n c l) (hb : Below w.heap.size w w') : Codes w' A n c l := ⟨h.1, h.2.1, h.2.2.1, h.2.2.2.below hb⟩
theorem Arrs.below {l : List Arr} (h : Arrs w A n c l) (hb : Below w.heap.size w w') : Arrs w' A n c l := ⟨h.1, h.2.1, h.2.2.1, h.2.2.2.below hb⟩
theorem Codes.drewN {l : List Ins} (h : Codes w A n c l) (q : Nat) : Codes (w.drewN q) A n c l := h
theorem Arrs.drewN {l : List Arr} (h : Arrs w A n c l) (q : Nat) : Arrs (w.drewN q) A n c l := h
theorem Codes.get {l : List Ins} (h : Codes w A n c l) {k : Nat} (hk : k < n) : ∃ b off, A = some ⟨b, off, none⟩ ∧ b < w.heap.size ∧ ∀ i, i < n → w.cell? ⟨b, off + i * 2, none⟩ = some (.int .i64 (gI l i).op) ∧ w.cell? ⟨b, off + i * 2 + 1, none⟩ = some (.int .u32 (gI l i).arg) := h.2.2.2 (by omega)
theorem Arrs.get {l : List Arr} (h : Arrs w A n c l) {k : Nat} (hk : k < n) : ∃ b off, A = some ⟨b, off, none⟩ ∧ b < w.heap.size ∧ ∀ i, i < n → w.cell? ⟨b, off + i * 2, none⟩ = some (.bool (gA l i).word) ∧ w.cell? ⟨b, off + i * 2 + 1, none⟩ = some (.int .i64 (gA l i).size) := h.2.2.2 (by omega)
theorem gI_mem {l : List Ins} {k : Nat} (hk : k < l.length) : gI l k ∈ l := by unfold gI; rw [List.getD_eq_getElem?_getD, List.getElem?_eq_getElem hk]; exact List.getElem_mem hk
theorem gA_mem {l : List Arr} {k : Nat} (hk : k < l.length) : gA l k ∈ l := by unfold gA; rw [List.getD_eq_getElem?_getD, List.getElem?_eq_getElem hk]; exact List.getElem_mem hk
theorem Codes.arg {l : List Ins} (h : Codes w A n c l) {k : Nat} (hk : k < n) : 0 ≤ (gI l k).arg ∧ (gI l k).arg < 4294967296 ∧ (Lit.int .i64 (gI l k).op).wf = true := h.2.2.1 _ (gI_mem (by rw [h.1]; exact hk))
theorem Arrs.size {l : List Arr} (h : Arrs w A n c l) {k : Nat} (hk : k < n) : (Lit.int .i64 (gA l k).size).wf = true := h.2.2.1 _ (gA_mem (by rw [h.1]; exact hk))
end
structure Opn where
  name : List UInt8
  pops : List UInt8
  pushes : List UInt8
  limit : Nat
  arg : Bool
def Gives (P : Program) (g : Nat) (lb : Array Value) (row : Nat → Array Value) (len : Nat) (Ab Kp : World → World → Prop) (Pre : World → Prop) : Prop :=
  ∀ (l : Nat) (J Jx : Nat → World → Prop) (W : World), Pre W → (∀ k A B, J k A → Ab A B → J k B) → (∀ k A B, Jx k A → Ab A B → Jx k B) →
    (∀ k W1, k < len → J k W1 → YieldAt Fence.wide 7 P l (row k) W1 fun e W' => (e = .returned (.bool true) ∧ J (k + 1) W' ∧ Kp W1 W') ∨ (e = .returned (.bool false) ∧ Jx (k + 1) W')) →
    J 0 W →
    CallsIn Fence.wide 8 P g (#[.func (.yield l) #[] #[]] ++ lb) W fun e W' => (∃ v, e = .returned v) ∧ (J len W' ∨ ∃ k, k ≤ len ∧ Jx k W')
def roundEnd (B : Nat) (Kp : World → World → Prop) (I : Nat → World → Prop) (Ix : Code → Nat → World → Prop) (k : Nat) (W : World) : Exit → Act → World → Prop
  | .normal, _, W' => KeepsFrom B W W' ∧ Kp W W' ∧ I k W'
  | .ret, _, W' => KeepsFrom B W W' ∧ Ix .ret k W'
  | .exit id, _, W' => KeepsFrom B W W' ∧ Ix (.exit id) k W'
  | .goto t, _, W' => KeepsFrom B W W' ∧ Ix (.goto t) k W'
  | .panic _, _, _ => False
  | .outgrown, _, _ => False
theorem wp_rangeFunc_row {P : Program} {g : Operand} {ps : Array Tmp} {assign body : Code} {Q : Exit → Act → World → Prop} {a : Act} {w : World}
    {gf : Nat} {lb : Array Value} (hg : a.eval g = .func (.func gf) #[] lb) (eg : ∀ args w, (callFunc gf args).run P w = .ok (.enter gf args) w)
    {row : Nat → Array Value} {len : Nat} {Ab Kp : World → World → Prop} {Pre : World → Prop} (hseq : Gives P gf lb row len Ab Kp Pre)
    (hPre : ∀ o1 o2, Pre ((w.alloc o1).alloc o2)) (hAb : ∀ A B, Ab A B → KeepsFrom w.heap.size A B)
    (hKt : ∀ {A B C : World}, Kp A B → Kp B C → Kp A C) (hKb : ∀ (W : World) (l : Nat) (o o' : Obj), w.heap.size ≤ l → W.heap[l]? = some o → o.isCells = false → Kp W (W.putObj l o'))
    (hps : ∀ k, (row k).size = ps.size)
    (I : Nat → World → Prop) (Ix : Code → Nat → World → Prop) (hI : OwnFrom w.heap.size I) (hIx : ∀ c, OwnFrom w.heap.size (Ix c))
    (hIA : ∀ k A B, I k A → Ab A B → I k B) (hIxA : ∀ c k A B, Ix c k A → Ab A B → Ix c k B) (h0 : I 0 w) (a₁ : Nat → Act)
    (hassign : ∀ (l k : Nat) (W : World) (K : Act → World → Prop), K (a₁ k) W →
      assign.wpIn (Fence.wide.inRound l) 7 P (Exit.then K (fun _ _ _ => False)) { tmps := (ps.zip (row k)).foldl (fun t (p, v) => t.setIfInBounds p v) a.tmps, defers := [] } W)
    (hbody : ∀ (l k : Nat) (W : World), k < len → w.heap.size ≤ l → I k W → body.wpIn (Fence.wide.inRound l) 7 P (roundEnd w.heap.size Kp I Ix (k + 1) W) (a₁ k) W)
    (hdone : ∀ (D : Nat) (W : World), w.heap.size ≤ D → I len W → W.heap[D]? = some (.deferred (some [])) → Q .normal { a with defers := { target := .collected D, args := #[] } :: a.defers } W)
    (hstop : ∀ (D : Nat) (c : Code) (k : Nat) (W : World), w.heap.size ≤ D → k ≤ len → Ix c k W → W.heap[D]? = some (.deferred (some [])) → c.wp P Q { a with defers := { target := .collected D, args := #[] } :: a.defers } W) :
    (Code.rangeFunc g ps assign body).wp P Q a w := by
  refine (wpIn_wide (n := 9)).1 (wpIn_rangeFunc fun fn hfn => ?_)
  let rec' : LoopState → Option Code → Obj := fun st pe => .loop { state := st, pending := pe, fn, tmps := a.tmps, params := ps, assign, body, defers := w.heap.size }
  have hsz : ((w.alloc (.deferred (some []))).alloc (rec' .ready none)).heap.size = w.heap.size + 2 := by simp
  have hL1 : ((w.alloc (.deferred (some []))).alloc (rec' .ready none)).heap[w.heap.size + 1]? = some (rec' .ready none) := by
    have := World.alloc_heap_new (w.alloc (.deferred (some []))) (rec' .ready none); rwa [World.size_alloc] at this
  have hD1 : ((w.alloc (.deferred (some []))).alloc (rec' .ready none)).heap[w.heap.size]? = some (.deferred (some [])) :=
    (Below.heap_alloc _ _ _ (by simp)).trans (World.alloc_heap_new w _)
  refine ⟨w.heap.size + 1, [{ target := .collected w.heap.size, args := #[] }], ((w.alloc (.deferred (some []))).alloc (rec' .ready none)), { target := .fn (.func gf) lb, args := #[.func (.yield (w.heap.size + 1)) #[] #[]] }, ((w.alloc (.deferred (some []))).alloc (rec' .ready none)), gf,
    #[.func (.yield (w.heap.size + 1)) #[] #[]] ++ lb, ((w.alloc (.deferred (some []))).alloc (rec' .ready none)), run_enterLoop_outer _ _ _ _ _, ?_, fun _ _ => trivial, ?_, fun _ => by decide, ?_⟩
  · simp only [resolve, hg]
    simp [go_sem]
  · simp [invoke, go_sem, eg]
  have keep : ∀ {A B : World}, KeepsFrom w.heap.size A B → ∀ {st pe}, A.heap[w.heap.size + 1]? = some (rec' st pe) → B.heap[w.heap.size + 1]? = some (rec' st pe) := fun h _ _ hl => h.same _ _ (by omega) hl rfl
  have keepD : ∀ {A B : World}, KeepsFrom w.heap.size A B → A.heap[w.heap.size]? = some (.deferred (some [])) → B.heap[w.heap.size]? = some (.deferred (some [])) := fun h hl => h.same _ _ (Nat.le_refl _) hl rfl
  refine (hseq (w.heap.size + 1)
    (fun k W => I k W ∧ W.heap[w.heap.size + 1]? = some (rec' .ready none) ∧ W.heap[w.heap.size]? = some (.deferred (some [])))
    (fun k W => ∃ c, Ix c k W ∧ W.heap[w.heap.size + 1]? = some (rec' .done (some c)) ∧ W.heap[w.heap.size]? = some (.deferred (some [])))
    _ (hPre _ _)
    (fun k A B h hab => ⟨hIA k A B h.1 hab, keep (hAb A B hab) h.2.1, keepD (hAb A B hab) h.2.2⟩)
    (fun k A B h hab => by obtain ⟨c, h1, h2, h3⟩ := h; exact ⟨c, hIxA c k A B h1 hab, keep (hAb A B hab) h2, keepD (hAb A B hab) h3⟩)
    ?_ ⟨hI.alloc _ (hI.alloc _ h0), hL1, hD1⟩).mono ?_
  · rintro k W hk ⟨hi, hl, hd⟩
    refine ⟨fn, _, assign, body, run_yield hl (hps k), roundIn_of_wpIn hfn (hassign _ k W _ ?_)⟩
    refine ⟨_, run_beginRound hl rfl, ?_⟩
    have hlt : w.heap.size + 1 < W.heap.size := (Array.getElem?_eq_some_iff.1 hl).1
    have hl2 : (W.putObj (w.heap.size + 1) (rec' .busy none)).heap[w.heap.size + 1]? = some (rec' .busy none) := World.putObj_heap_same hlt
    have hd2 : (W.putObj (w.heap.size + 1) (rec' .busy none)).heap[w.heap.size]? = some (.deferred (some [])) := (World.putObj_heap_other (by omega)).trans hd
    refine wpIn_mono (hbody _ k (W.putObj (w.heap.size + 1) (rec' .busy none)) hk (by omega) (hI.putObj _ hi (by omega) hl rfl)) ?_
    have fin : ∀ (jump : Option Code) (W3 : World), KeepsFrom w.heap.size (W.putObj (w.heap.size + 1) (rec' .busy none)) W3 →
        W3.heap[w.heap.size + 1]? = some (rec' .busy none) ∧ (Instr.endRound (w.heap.size + 1) jump).run P W3 = .ok (.bool jump.isNone) (W3.putObj (w.heap.size + 1) (rec' (if jump.isNone then .ready else .done) jump)) ∧
        (W3.putObj (w.heap.size + 1) (rec' (if jump.isNone then .ready else .done) jump)).heap[w.heap.size + 1]? = some (rec' (if jump.isNone then .ready else .done) jump) ∧
        (W3.putObj (w.heap.size + 1) (rec' (if jump.isNone then .ready else .done) jump)).heap[w.heap.size]? = some (.deferred (some [])) := fun jump W3 h3 => by
      have hl3 := keep h3 hl2
      exact ⟨hl3, run_endRound jump hl3, World.putObj_heap_same (Array.getElem?_eq_some_iff.1 hl3).1, (World.putObj_heap_other (by omega)).trans (keepD h3 hd2)⟩
    rintro e a3 W3 hp
    cases e with
    | normal =>
      obtain ⟨h1, h2, h3⟩ := hp
      obtain ⟨f1, f2, f3, f4⟩ := fin none W3 h1
      exact ⟨_, _, f2, .inl ⟨rfl, ⟨hI.putObj _ h3 (by omega) f1 rfl, f3, f4⟩, hKt (hKb _ _ _ _ (by omega) hl rfl) (hKt h2 (hKb _ _ _ _ (by omega) f1 rfl))⟩⟩
    | ret =>
      obtain ⟨h1, h3⟩ := hp
      obtain ⟨f1, f2, f3, f4⟩ := fin (some .ret) W3 h1
      exact ⟨_, _, f2, .inr ⟨rfl, _, (hIx _).putObj _ h3 (by omega) f1 rfl, f3, f4⟩⟩
    | exit id =>
      obtain ⟨h1, h3⟩ := hp
      obtain ⟨f1, f2, f3, f4⟩ := fin (some (.exit id)) W3 h1
      exact ⟨_, _, f2, .inr ⟨rfl, _, (hIx _).putObj _ h3 (by omega) f1 rfl, f3, f4⟩⟩
    | goto t =>
      obtain ⟨h1, h3⟩ := hp
      obtain ⟨f1, f2, f3, f4⟩ := fin (some (.goto t)) W3 h1
      exact ⟨_, _, f2, .inr ⟨rfl, _, (hIx _).putObj _ h3 (by omega) f1 rfl, f3, f4⟩⟩
    | panic ch => exact hp.elim
    | outgrown => exact hp.elim
  · rintro e W2 ⟨⟨v, rfl⟩, (⟨hi, hl, hd⟩ | ⟨k, hk, c, hi, hl, hd⟩)⟩
    · exact ⟨none, _, run_endLoop hl (by simp), hdone _ _ (Nat.le_refl _) (hI.putObj _ hi (by omega) hl rfl) ((World.putObj_heap_other (by omega)).trans hd)⟩
    · exact ⟨some c, _, run_endLoop hl (by simp), wpIn_wide.2 (hstop _ c k _ (Nat.le_refl _) hk ((hIx c).putObj _ hi (by omega) hl rfl) ((World.putObj_heap_other (by omega)).trans hd))⟩
def markPost (P : Program) (fn : Func) (R : Ending → World → Prop) : Exit → Act → World → Prop
  | .normal, a, w | .ret, a, w => (a.defers = [] ∧ ∃ v, (results fn a.tmps).run P w = .ok v w ∧ R (.returned v) w) ∨
      (∃ D, a.defers = [{ target := .collected D, args := #[] }] ∧ w.heap[D]? = some (.deferred (some [])) ∧ ∃ v, (results fn a.tmps).run P (w.putObj D (.deferred none)) = .ok v (w.putObj D (.deferred none)) ∧ R (.returned v) (w.putObj D (.deferred none)))
  | _, _, _ => False
theorem calls_of_marks {P : Program} {f : FuncId} {fn : Func} {c : Code} {args : Array Value} {w : World} {R : Ending → World → Prop}
    (hf : P.funcs[f]? = some fn) (hb : fn.body = some c)
    (h : c.wp P (markPost P fn R) { tmps := args ++ Array.replicate (fn.ntmps - args.size) undef, defers := [] } w) : Calls P f args w R := by
  refine (callsIn_wide (n := 9)).1 (callsIn_of_wp_marks hf hb trivial (wpIn_mono (wpIn_wide.2 h) ?_) rfl)
  have key : ∀ (a : Act) (w' : World), markPost P fn R .ret a w' → LeavesInM Fence.wide 9 P fn a.tmps R a.defers .returning w' := fun a w' hp => by
    rcases hp with ⟨hd, v, hr, hR⟩ | ⟨D, hd, hK, v, hr, hR⟩
    · rw [hd]; exact ⟨v, hr, hR⟩
    · rw [hd]; exact ⟨by simp, .inl ⟨D, _, rfl, run_takeDeferred hK, v, hr, hR⟩⟩
  intro e a w' hp
  cases e with
  | normal => exact key a w' hp
  | ret => exact key a w' hp
  | exit id => exact hp.elim
  | goto t => exact hp.elim
  | panic ch => exact hp.elim
  | outgrown => exact hp.elim
theorem markPost_ret {P : Program} {fn : Func} {R : Ending → World → Prop} {a : Act} {w : World} {v : Value} (hr : ∀ W : World, (results fn a.tmps).run P W = .ok v W) (hd : a.defers = []) (hR : R (.returned v) w) : markPost P fn R .ret a w := .inl ⟨hd, v, hr w, hR⟩
theorem markPost_mark {P : Program} {fn : Func} {R : Ending → World → Prop} {a : Act} {w : World} {v : Value} {D : Nat} (hK : w.heap[D]? = some (.deferred (some []))) (hr : ∀ W : World, (results fn a.tmps).run P W = .ok v W) (hd : a.defers = [{ target := .collected D, args := #[] }])
    (hR : R (.returned v) (w.putObj D (.deferred none))) : markPost P fn R .ret a w := .inr ⟨D, hd, hK, v, hr _, hR⟩
def OwnS {α : Type} (enc : α → List Value) (sz : Nat) (w : World) (B : Nat) (e : TypeId) (A : Option Addr) (n c : Nat) (xs : List α) : Prop := w.ownsRow B e sz (.slice A n c) n (xs.flatMap enc)
section
variable {α : Type} {enc : α → List Value} {sz : Nat} {w w' : World} {B : Nat} {e : TypeId} {A : Option Addr} {n c : Nat} {xs : List α}
theorem OwnS.nil (enc : α → List Value) (sz : Nat) (w : World) (B : Nat) (e : TypeId) : OwnS enc sz w B e none 0 0 [] := World.ownsRow_nil w B e sz
theorem flat_length (hl : ∀ x, (enc x).length = sz) : ∀ xs : List α, (xs.flatMap enc).length = xs.length * sz
  | [] => by simp
  | x :: xs => by rw [List.flatMap_cons, List.length_append, hl, flat_length hl xs, List.length_cons, Nat.add_mul]; omega
theorem OwnS.length (h : OwnS enc sz w B e A n c xs) (hl : ∀ x, (enc x).length = sz) (hs : 0 < sz) : xs.length = n := by
  have := h.1
  rw [flat_length hl] at this
  exact Nat.eq_of_mul_eq_mul_right hs this
theorem OwnS.cap (h : OwnS enc sz w B e A n c xs) : n ≤ c := by
  rcases h.2 with ⟨h1, h2⟩ | ⟨g, cap, cur, h1, _, _, h2, _⟩
  · omega
  · injection h1; omega
theorem OwnS.below (h : OwnS enc sz w B e A n c xs) (hb : Below w.heap.size w w') : OwnS enc sz w' B e A n c xs := by
  refine ⟨h.1, ?_⟩
  rcases h.2 with h1 | ⟨g, cap, cur, h1, h2, h3, h4⟩
  · exact .inl h1
  · refine .inr ⟨g, cap, cur, h1, h2, ?_, h4⟩
    rw [hb.block g]
    · exact h3
    · exact (Array.getElem?_eq_some_iff.1 h3).1
theorem OwnS.mono {B' : Nat} (h : OwnS enc sz w B e A n c xs) (hB : B' ≤ B) : OwnS enc sz w B' e A n c xs := by
  refine ⟨h.1, ?_⟩
  rcases h.2 with h1 | ⟨g, cap, cur, h1, h2, h3⟩
  · exact .inl h1
  · exact .inr ⟨g, cap, cur, h1, by omega, h3⟩
theorem flat_get (hl : ∀ x, (enc x).length = sz) (d : α) : ∀ (xs : List α) (i j : Nat), i < xs.length → j < sz → (xs.flatMap enc)[i * sz + j]? = (enc (xs.getD i d))[j]?
  | [], i, j, hi, _ => by simp at hi
  | x :: xs, 0, j, _, hj => by
    rw [List.flatMap_cons, Nat.zero_mul, Nat.zero_add, List.getElem?_append_left (by rw [hl]; exact hj)]
    rfl
  | x :: xs, i + 1, j, hi, hj => by
    rw [List.flatMap_cons, List.getElem?_append_right (by rw [hl, Nat.add_mul]; omega), hl, show (i + 1) * sz + j - sz = i * sz + j by rw [Nat.add_mul]; omega]
    exact flat_get hl d xs i j (by simpa using hi) hj
theorem OwnS.get (h : OwnS enc sz w B e A n c xs) (hl : ∀ x, (enc x).length = sz) (hs : 0 < sz) (d : α) (hn : 0 < n) :
    ∃ g, A = some ⟨g, 0, none⟩ ∧ B ≤ g ∧ g < w.heap.size ∧ ∀ i j u, i < n → (enc (xs.getD i d))[j]? = some u → w.cell? ⟨g, i * sz + j, none⟩ = some u := by
  obtain ⟨g, cap, hv, hBg, hlt⟩ := World.ownsRow.form h hn
  injection hv with hv
  subst hv
  refine ⟨g, rfl, hBg, hlt, fun i j u hi hu => ?_⟩
  have hj : j < sz := by
    have := (List.getElem?_eq_some_iff.1 hu).1
    rwa [hl] at this
  have := World.ownsRow.cells h (g := g) rfl (i * sz + j) u (by rw [flat_get hl d xs i j (by rw [h.length hl hs]; exact hi) hj]; exact hu)
  rwa [addr_add, Nat.zero_add] at this
theorem OwnS.keep {X Y : World} (h : OwnS enc sz X B e A n c xs) (hb : ∀ g o, B ≤ g → X.heap[g]? = some o → o.isCells = true → Y.heap[g]? = some o) : OwnS enc sz Y B e A n c xs := by
  refine ⟨h.1, ?_⟩
  rcases h.2 with h1 | ⟨g, cap, cur, h1, h2, h3, h4⟩
  · exact .inl h1
  · exact .inr ⟨g, cap, cur, h1, h2, hb g _ h2 h3 rfl, h4⟩
theorem run_append_ownS {P : Program} {t : TypeId} (ty : TypeId) {z : Value} {bytes : Nat} (ht : P.underlying t = some (.slice e)) (hi : (P.info? e).map (fun i => (i.zero, i.size, i.bytes)) = some (some z, sz, bytes))
    (h1 : ∀ x, ∀ u ∈ enc x, u.oneCell' = true) (hz : z.cells.size = sz) (hl : ∀ x, (enc x).length = sz) (hs : 0 < sz)
    (hown : OwnS enc sz w B e A n c xs) (hB : B ≤ w.heap.size) (y : α) (hml : n + 1 ≤ maxLen) (hby : (n + 1) * bytes ≤ 140737488355328) :
    ∃ A2 c2 w', (Builtin.append_ #[t, t] ty #[.slice A n c, .slice (some ⟨w.heap.size, 0, none⟩) 1 1]).run P (w.alloc (.cells (enc y).toArray e)) = .ok (.slice A2 (n + 1) c2) w' ∧ OwnS enc sz w' B e A2 (n + 1) c2 (xs ++ [y]) ∧ Below B w w' ∧ w.grownBy w' (Value.slice A n c).ownBlock := by
  obtain ⟨i, hi0, hz0, hs1, hb⟩ := info_parts hi
  have hb0 : Below w.heap.size w (w.alloc (.cells (enc y).toArray e)) := (Below.refl _ _).alloc (Nat.le_refl _) _
  obtain ⟨v', w', hrun, h2, h3, h4, _⟩ := run_append_own_at (P := P) (w.alloc (.cells (enc y).toArray e)) B t ty e i z sz bytes ht hi0 hz0 hs1 hb hz hs _ n _ (hown.below hb0) ⟨w.heap.size, 0, none⟩ 1 1 (enc y) (by rw [hl, Nat.one_mul]) (fun j u hu => by
    rw [addr_add, Nat.zero_add, World.cell?_alloc_mark]
    simpa using hu) (h1 y) hml hby (by simp; omega)
  have hform : ∃ A2 c2, v' = .slice A2 (n + 1) c2 := by
    rcases h2.2 with ⟨rfl, h0⟩ | ⟨g, cap, cur, rfl, _⟩
    · exact ⟨none, 0, by rw [h0]⟩
    · exact ⟨_, _, rfl⟩
  obtain ⟨A2, c2, rfl⟩ := hform
  have hg := grownBy.trans' (World.grownBy_alloc w (.cells (enc y).toArray e) (Value.slice A n c).ownBlock) h3
  refine ⟨A2, c2, w', hrun, ?_, (Below.refl B w).grown hg hB (fun k hk => (World.ownsRow.lt hown k hk).1), hg⟩
  unfold OwnS
  rw [List.flatMap_append, List.flatMap_cons, List.flatMap_nil, List.append_nil]
  exact h2
end
section
variable {α : Type} {enc : α → List Value} {sz : Nat} {P : Program} {w : World} {B : Nat} {e t : TypeId} {A : Option Addr} {n c : Nat} {xs : List α} {z : Value} {bytes : Nat}
  {ops : Array Oper} {rest : List Oper} {o : Oper} {a : Act} {Q : Exit → Act → World → Prop}
theorem wpList_pushS (hgd : o.guard = none) (s x : Operand) (ho : o.op = .call { callee := .builtin .append, args := #[s, x], argTypes := #[t, t] })
    (ht : P.underlying t = some (.slice e)) (hi : (P.info? e).map (fun i => (i.zero, i.size, i.bytes)) = some (some z, sz, bytes))
    (h1 : ∀ x, ∀ u ∈ enc x, u.oneCell' = true) (hz : z.cells.size = sz) (hl : ∀ x, (enc x).length = sz) (hsz : 0 < sz)
    (hs : a.eval s = .slice A n c) (hown : OwnS enc sz w B e A n c xs) (hB : B ≤ w.heap.size) (y : α) (cs : Array Value) (hcs : (enc y).toArray = cs)
    (hx : a.eval x = .slice (some ⟨w.heap.size, 0, none⟩) 1 1) (hml : n + 1 ≤ maxLen) (hby : (n + 1) * bytes ≤ 140737488355328)
    (h : ∀ A2 c2 w', OwnS enc sz w' B e A2 (n + 1) c2 (xs ++ [y]) → Below B w w' → w.grownBy w' (Value.slice A n c).ownBlock → wpList P ops Q rest (a.put o.dst (.slice A2 (n + 1) c2)) w') : wpList P ops Q (o :: rest) a (w.alloc (.cells cs e)) := by
  subst hcs
  refine wpList_plain hgd fun K hK => ?_
  obtain ⟨A2, c2, w', hrun, h2, h3, h4⟩ := run_append_ownS (P := P) o.type ht hi h1 hz hl hsz hown hB y hml hby
  unfold Oper.wp execOp
  simp only [ho, resolve, invoke, builtin, Sem.run_bind, Sem.run_pure, Result.andThen_ok, List.map_toArray, List.map_cons, List.map_nil, hs, hx, hrun]
  exact hK _ _ (h A2 c2 w' h2 h3 h4)
end
end Go.Proofs.YtohadkmaemmfgaaGreatDoor

/- A range over a function, counted by rounds: the law of the statement for an iterator that gives a known row of values, where the iterator may write cells of its own. No program in sight. -/
import Derived.RangeFuncNested
import Derived.RangeFuncBound
import Derived.RangeFuncCalls
import Derived.RangeFuncLeaves
import Derived.OwnWalkIn
import Derived.TacticsInMore
import Derived.LoopNIn
import Derived.LoopIn
import Derived.WalkKit
import Derived.Lib.Hide
namespace Go.Proofs.YtckkmafppfcecaaGreatDoor
open Go.RowKit Go.Proofs
set_option linter.unusedVariables false

/-- function g, with the captured values lb, gives row 0, row 1, .. row (len - 1), and ends; or it is stopped. Ab: what it does to the world between two rounds; Kp: what a round must keep; Pre: what it needs at its start. -/
def Gives (P : Program) (g : Nat) (lb : Array Value) (row : Nat → Array Value) (len : Nat) (Ab Kp : World → World → Prop) (Pre : World → Prop) : Prop :=
  ∀ (l : Nat) (J Jx : Nat → World → Prop) (W : World), Pre W → (∀ k A B, J k A → Ab A B → J k B) → (∀ k A B, Jx k A → Ab A B → Jx k B) →
    (∀ k W1, k < len → J k W1 → YieldAt Fence.wide 7 P l (row k) W1 fun e W' => (e = .returned (.bool true) ∧ J (k + 1) W' ∧ Kp W1 W') ∨ (e = .returned (.bool false) ∧ Jx (k + 1) W')) →
    J 0 W →
    CallsIn Fence.wide 8 P g (#[.func (.yield l) #[] #[]] ++ lb) W fun e W' => (∃ v, e = .returned v) ∧ (J len W' ∨ ∃ k, k ≤ len ∧ Jx k W')

/-- how the body of round k may be left. -/
def roundEnd (B : Nat) (Kp : World → World → Prop) (I : Nat → World → Prop) (Ix : Code → Nat → World → Prop) (k : Nat) (W : World) : Exit → Act → World → Prop
  | .normal, _, W' => KeepsFrom B W W' ∧ Kp W W' ∧ I k W'
  | .ret, _, W' => KeepsFrom B W W' ∧ Ix .ret k W'
  | .exit id, _, W' => KeepsFrom B W W' ∧ Ix (.exit id) k W'
  | .goto t, _, W' => KeepsFrom B W W' ∧ Ix (.goto t) k W'
  | .panic _, _, _ => False
  | .outgrown, _, _ => False

theorem wp_rangeFunc_row {P : Program} {g : Operand} {ps : Array Tmp} {assign body : Code} {Q : Exit → Act → World → Prop} {a : Act} {w : World}
    {gf : Nat} {lb : Array Value} (hg : a.eval g = .func (.func gf) #[] lb) (eg : ∀ args w, (callFunc gf args).run P w = .ok (.enter gf args) w)
    {row : Nat → Array Value} {len : Nat} {Ab Kp : World → World → Prop} {Pre : World → Prop} (hseq : Gives P gf lb row len Ab Kp Pre)
    (hPre : ∀ o1 o2, Pre ((w.alloc o1).alloc o2)) (hAb : ∀ A B, Ab A B → KeepsFrom w.heap.size A B)
    (hKt : ∀ {A B C : World}, Kp A B → Kp B C → Kp A C) (hKb : ∀ (W : World) (l : Nat) (o o' : Obj), w.heap.size ≤ l → W.heap[l]? = some o → o.isCells = false → Kp W (W.putObj l o'))
    (hps : ∀ k, (row k).size = ps.size)
    (I : Nat → World → Prop) (Ix : Code → Nat → World → Prop) (hI : OwnFrom w.heap.size I) (hIx : ∀ c, OwnFrom w.heap.size (Ix c))
    (hIA : ∀ k A B, I k A → Ab A B → I k B) (hIxA : ∀ c k A B, Ix c k A → Ab A B → Ix c k B) (h0 : I 0 w) (a₁ : Nat → Act)
    (hassign : ∀ (l k : Nat) (W : World) (K : Act → World → Prop), K (a₁ k) W →
      assign.wpIn (Fence.wide.inRound l) 7 P (Exit.then K (fun _ _ _ => False)) { tmps := (ps.zip (row k)).foldl (fun t (p, v) => t.setIfInBounds p v) a.tmps, defers := [] } W)
    (hbody : ∀ (l k : Nat) (W : World), k < len → w.heap.size ≤ l → I k W → body.wpIn (Fence.wide.inRound l) 7 P (roundEnd w.heap.size Kp I Ix (k + 1) W) (a₁ k) W)
    (hdone : ∀ (D : Nat) (W : World), w.heap.size ≤ D → I len W → W.heap[D]? = some (.deferred (some [])) → Q .normal { a with defers := { target := .collected D, args := #[] } :: a.defers } W)
    (hstop : ∀ (D : Nat) (c : Code) (k : Nat) (W : World), w.heap.size ≤ D → k ≤ len → Ix c k W → W.heap[D]? = some (.deferred (some [])) → c.wp P Q { a with defers := { target := .collected D, args := #[] } :: a.defers } W) :
    (Code.rangeFunc g ps assign body).wp P Q a w := by
  refine (wpIn_wide (n := 9)).1 (wpIn_rangeFunc fun fn hfn => ?_)
  -- the record of the loop, by its state
  let rec' : LoopState → Option Code → Obj := fun st pe => .loop { state := st, pending := pe, fn, tmps := a.tmps, params := ps, assign, body, defers := w.heap.size }
  have hsz : ((w.alloc (.deferred (some []))).alloc (rec' .ready none)).heap.size = w.heap.size + 2 := by simp
  have hL1 : ((w.alloc (.deferred (some []))).alloc (rec' .ready none)).heap[w.heap.size + 1]? = some (rec' .ready none) := by
    have := World.alloc_heap_new (w.alloc (.deferred (some []))) (rec' .ready none); rwa [World.size_alloc] at this
  have hD1 : ((w.alloc (.deferred (some []))).alloc (rec' .ready none)).heap[w.heap.size]? = some (.deferred (some [])) :=
    (Below.heap_alloc _ _ _ (by simp)).trans (World.alloc_heap_new w _)
  refine ⟨w.heap.size + 1, [{ target := .collected w.heap.size, args := #[] }], ((w.alloc (.deferred (some []))).alloc (rec' .ready none)), { target := .fn (.func gf) lb, args := #[.func (.yield (w.heap.size + 1)) #[] #[]] }, ((w.alloc (.deferred (some []))).alloc (rec' .ready none)), gf,
    #[.func (.yield (w.heap.size + 1)) #[] #[]] ++ lb, ((w.alloc (.deferred (some []))).alloc (rec' .ready none)), run_enterLoop_outer _ _ _ _ _, ?_, fun _ _ => trivial, ?_, fun _ => by decide, ?_⟩
  · simp only [resolve, hg]
    simp [go_sem]
  · simp [invoke, go_sem, eg]
  have keep : ∀ {A B : World}, KeepsFrom w.heap.size A B → ∀ {st pe}, A.heap[w.heap.size + 1]? = some (rec' st pe) → B.heap[w.heap.size + 1]? = some (rec' st pe) := fun h _ _ hl => h.same _ _ (by omega) hl rfl
  have keepD : ∀ {A B : World}, KeepsFrom w.heap.size A B → A.heap[w.heap.size]? = some (.deferred (some [])) → B.heap[w.heap.size]? = some (.deferred (some [])) := fun h hl => h.same _ _ (Nat.le_refl _) hl rfl
  refine (hseq (w.heap.size + 1)
    (fun k W => I k W ∧ W.heap[w.heap.size + 1]? = some (rec' .ready none) ∧ W.heap[w.heap.size]? = some (.deferred (some [])))
    (fun k W => ∃ c, Ix c k W ∧ W.heap[w.heap.size + 1]? = some (rec' .done (some c)) ∧ W.heap[w.heap.size]? = some (.deferred (some [])))
    _ (hPre _ _)
    (fun k A B h hab => ⟨hIA k A B h.1 hab, keep (hAb A B hab) h.2.1, keepD (hAb A B hab) h.2.2⟩)
    (fun k A B h hab => by obtain ⟨c, h1, h2, h3⟩ := h; exact ⟨c, hIxA c k A B h1 hab, keep (hAb A B hab) h2, keepD (hAb A B hab) h3⟩)
    ?_ ⟨hI.alloc _ (hI.alloc _ h0), hL1, hD1⟩).mono ?_
  · rintro k W hk ⟨hi, hl, hd⟩
    refine ⟨fn, _, assign, body, run_yield hl (hps k), roundIn_of_wpIn hfn (hassign _ k W _ ?_)⟩
    refine ⟨_, run_beginRound hl rfl, ?_⟩
    have hlt : w.heap.size + 1 < W.heap.size := (Array.getElem?_eq_some_iff.1 hl).1
    have hl2 : (W.putObj (w.heap.size + 1) (rec' .busy none)).heap[w.heap.size + 1]? = some (rec' .busy none) := World.putObj_heap_same hlt
    have hd2 : (W.putObj (w.heap.size + 1) (rec' .busy none)).heap[w.heap.size]? = some (.deferred (some [])) := (World.putObj_heap_other (by omega)).trans hd
    refine wpIn_mono (hbody _ k (W.putObj (w.heap.size + 1) (rec' .busy none)) hk (by omega) (hI.putObj _ hi (by omega) hl rfl)) ?_
    -- what endRound does
    have fin : ∀ (jump : Option Code) (W3 : World), KeepsFrom w.heap.size (W.putObj (w.heap.size + 1) (rec' .busy none)) W3 →
        W3.heap[w.heap.size + 1]? = some (rec' .busy none) ∧ (Instr.endRound (w.heap.size + 1) jump).run P W3 = .ok (.bool jump.isNone) (W3.putObj (w.heap.size + 1) (rec' (if jump.isNone then .ready else .done) jump)) ∧
        (W3.putObj (w.heap.size + 1) (rec' (if jump.isNone then .ready else .done) jump)).heap[w.heap.size + 1]? = some (rec' (if jump.isNone then .ready else .done) jump) ∧
        (W3.putObj (w.heap.size + 1) (rec' (if jump.isNone then .ready else .done) jump)).heap[w.heap.size]? = some (.deferred (some [])) := fun jump W3 h3 => by
      have hl3 := keep h3 hl2
      exact ⟨hl3, run_endRound jump hl3, World.putObj_heap_same (Array.getElem?_eq_some_iff.1 hl3).1, (World.putObj_heap_other (by omega)).trans (keepD h3 hd2)⟩
    rintro e a3 W3 hp
    cases e with
    | normal =>
      obtain ⟨h1, h2, h3⟩ := hp
      obtain ⟨f1, f2, f3, f4⟩ := fin none W3 h1
      exact ⟨_, _, f2, .inl ⟨rfl, ⟨hI.putObj _ h3 (by omega) f1 rfl, f3, f4⟩, hKt (hKb _ _ _ _ (by omega) hl rfl) (hKt h2 (hKb _ _ _ _ (by omega) f1 rfl))⟩⟩
    | ret =>
      obtain ⟨h1, h3⟩ := hp
      obtain ⟨f1, f2, f3, f4⟩ := fin (some .ret) W3 h1
      exact ⟨_, _, f2, .inr ⟨rfl, _, (hIx _).putObj _ h3 (by omega) f1 rfl, f3, f4⟩⟩
    | exit id =>
      obtain ⟨h1, h3⟩ := hp
      obtain ⟨f1, f2, f3, f4⟩ := fin (some (.exit id)) W3 h1
      exact ⟨_, _, f2, .inr ⟨rfl, _, (hIx _).putObj _ h3 (by omega) f1 rfl, f3, f4⟩⟩
    | goto t =>
      obtain ⟨h1, h3⟩ := hp
      obtain ⟨f1, f2, f3, f4⟩ := fin (some (.goto t)) W3 h1
      exact ⟨_, _, f2, .inr ⟨rfl, _, (hIx _).putObj _ h3 (by omega) f1 rfl, f3, f4⟩⟩
    | panic ch => exact hp.elim
    | outgrown => exact hp.elim
  · rintro e W2 ⟨⟨v, rfl⟩, (⟨hi, hl, hd⟩ | ⟨k, hk, c, hi, hl, hd⟩)⟩
    · exact ⟨none, _, run_endLoop hl (by simp), hdone _ _ (Nat.le_refl _) (hI.putObj _ hi (by omega) hl rfl) ((World.putObj_heap_other (by omega)).trans hd)⟩
    · exact ⟨some c, _, run_endLoop hl (by simp), wpIn_wide.2 (hstop _ c k _ (Nat.le_refl _) hk ((hIx c).putObj _ hi (by omega) hl rfl) ((World.putObj_heap_other (by omega)).trans hd))⟩

/-- how a function with one such loop may be left: ahead of it, or behind it with the mark. -/
def markPost (P : Program) (fn : Func) (R : Ending → World → Prop) : Exit → Act → World → Prop
  | .normal, a, w | .ret, a, w => (a.defers = [] ∧ ∃ v, (results fn a.tmps).run P w = .ok v w ∧ R (.returned v) w) ∨
      (∃ D, a.defers = [{ target := .collected D, args := #[] }] ∧ w.heap[D]? = some (.deferred (some [])) ∧ ∃ v, (results fn a.tmps).run P (w.putObj D (.deferred none)) = .ok v (w.putObj D (.deferred none)) ∧ R (.returned v) (w.putObj D (.deferred none)))
  | _, _, _ => False

theorem calls_of_marks {P : Program} {f : FuncId} {fn : Func} {c : Code} {args : Array Value} {w : World} {R : Ending → World → Prop}
    (hf : P.funcs[f]? = some fn) (hb : fn.body = some c)
    (h : c.wp P (markPost P fn R) { tmps := args ++ Array.replicate (fn.ntmps - args.size) undef, defers := [] } w) : Calls P f args w R := by
  refine (callsIn_wide (n := 9)).1 (callsIn_of_wp_marks hf hb trivial (wpIn_mono (wpIn_wide.2 h) ?_) rfl)
  have key : ∀ (a : Act) (w' : World), markPost P fn R .ret a w' → LeavesInM Fence.wide 9 P fn a.tmps R a.defers .returning w' := fun a w' hp => by
    rcases hp with ⟨hd, v, hr, hR⟩ | ⟨D, hd, hK, v, hr, hR⟩
    · rw [hd]; exact ⟨v, hr, hR⟩
    · rw [hd]; exact ⟨by simp, .inl ⟨D, _, rfl, run_takeDeferred hK, v, hr, hR⟩⟩
  intro e a w' hp
  cases e with
  | normal => exact key a w' hp
  | ret => exact key a w' hp
  | exit id => exact hp.elim
  | goto t => exact hp.elim
  | panic ch => exact hp.elim
  | outgrown => exact hp.elim

theorem markPost_ret {P : Program} {fn : Func} {R : Ending → World → Prop} {a : Act} {w : World} {v : Value} (hr : ∀ W : World, (results fn a.tmps).run P W = .ok v W) (hd : a.defers = []) (hR : R (.returned v) w) : markPost P fn R .ret a w := .inl ⟨hd, v, hr w, hR⟩
theorem markPost_mark {P : Program} {fn : Func} {R : Ending → World → Prop} {a : Act} {w : World} {v : Value} {D : Nat} (hK : w.heap[D]? = some (.deferred (some []))) (hr : ∀ W : World, (results fn a.tmps).run P W = .ok v W) (hd : a.defers = [{ target := .collected D, args := #[] }])
    (hR : R (.returned v) (w.putObj D (.deferred none))) : markPost P fn R .ret a w := .inr ⟨D, hd, hK, v, hr _, hR⟩
end Go.Proofs.YtckkmafppfcecaaGreatDoor

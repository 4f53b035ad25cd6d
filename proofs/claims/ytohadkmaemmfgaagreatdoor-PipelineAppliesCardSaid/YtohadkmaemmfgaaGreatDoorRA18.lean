/- Ne Nf Ng. -/
import Derived.Test.YtohadkmaemmfgaaGreatDoorRA13
import Derived.Test.YtohadkmaemmfgaaGreatDoorRA17
import Derived.Laws.CopyOwn
set_option maxRecDepth 100000
set_option maxHeartbeats 4000000
namespace Go.Proofs.YtohadkmaemmfgaaGreatDoor
open Go.RowKit Go.Proofs
set_option linter.unusedVariables false
set_option linter.unusedSimpArgs false
attribute [local go_sem] Oper.semAt_some
theorem wp_rangeFunc_rowA {P : Program} {g : Operand} {ps : Array Tmp} {assign body : Code} {Q : Exit → Act → World → Prop} {a : Act} {w : World}
    {gf : Nat} {lb : Array Value} (hg : a.eval g = .func (.func gf) #[] lb) (eg : ∀ args w, (callFunc gf args).run P w = .ok (.enter gf args) w)
    {row : Nat → Array Value} {len : Nat} {Ab Kp : World → World → Prop} {Pre : World → Prop} (hseq : Gives P gf lb row len Ab Kp Pre)
    (hPre : ∀ o1 o2, Pre ((w.alloc o1).alloc o2)) (hAb : ∀ A B, Ab A B → KeepsFrom w.heap.size A B)
    (hKt : ∀ {A B C : World}, Kp A B → Kp B C → Kp A C) (hKb : ∀ (W : World) (l : Nat) (o o' : Obj), w.heap.size ≤ l → W.heap[l]? = some o → o.isCells = false → Kp W (W.putObj l o'))
    (hps : ∀ k, (row k).size = ps.size)
    (I : Nat → World → Prop) (Ix : Code → Nat → World → Prop) (hI : OwnFrom w.heap.size I) (hIx : ∀ c, OwnFrom w.heap.size (Ix c))
    (hIA : ∀ k A B, I k A → Ab A B → I k B) (hIxA : ∀ c k A B, Ix c k A → Ab A B → Ix c k B) (h0 : I 0 w) (I1 : Nat → Act → World → Prop) (hI1 : ∀ a₁, OwnFrom w.heap.size (fun k => I1 k a₁))
    (hassign : ∀ (l k : Nat) (W : World) (K : Act → World → Prop), k < len → w.heap.size ≤ l → I k W → (∀ a₁ W₁, I1 k a₁ W₁ → KeepsFrom w.heap.size W W₁ → Kp W W₁ → K a₁ W₁) →
      assign.wpIn (Fence.wide.inRound l) 7 P (Exit.then K (fun _ _ _ => False)) { tmps := (ps.zip (row k)).foldl (fun t (p, v) => t.setIfInBounds p v) a.tmps, defers := [] } W)
    (hbody : ∀ (l k : Nat) (a₁ : Act) (W : World), k < len → w.heap.size ≤ l → I1 k a₁ W → body.wpIn (Fence.wide.inRound l) 7 P (roundEnd w.heap.size Kp I Ix (k + 1) W) a₁ W)
    (hdone : ∀ (D : Nat) (W : World), w.heap.size ≤ D → I len W → W.heap[D]? = some (.deferred (some [])) → Q .normal { a with defers := { target := .collected D, args := #[] } :: a.defers } W)
    (hstop : ∀ (D : Nat) (c : Code) (k : Nat) (W : World), w.heap.size ≤ D → k ≤ len → Ix c k W → W.heap[D]? = some (.deferred (some [])) → c.wp P Q { a with defers := { target := .collected D, args := #[] } :: a.defers } W) :
    (Code.rangeFunc g ps assign body).wp P Q a w := by
  refine (wpIn_wide (n := 9)).1 (wpIn_rangeFunc fun fn hfn => ?_)
  let rec' : LoopState → Option Code → Obj := fun st pe => .loop { state := st, pending := pe, fn, tmps := a.tmps, params := ps, assign, body, defers := w.heap.size }
  have hsz : ((w.alloc (.deferred (some []))).alloc (rec' .ready none)).heap.size = w.heap.size + 2 := by simp
  have hL1 : ((w.alloc (.deferred (some []))).alloc (rec' .ready none)).heap[w.heap.size + 1]? = some (rec' .ready none) := by
    have := World.alloc_heap_new (w.alloc (.deferred (some []))) (rec' .ready none); rwa [World.size_alloc] at this
  have hD1 : ((w.alloc (.deferred (some []))).alloc (rec' .ready none)).heap[w.heap.size]? = some (.deferred (some [])) :=
    (Below.heap_alloc _ _ _ (by simp)).trans (World.alloc_heap_new w _)
  refine ⟨w.heap.size + 1, [{ target := .collected w.heap.size, args := #[] }], ((w.alloc (.deferred (some []))).alloc (rec' .ready none)), { target := .fn (.func gf) lb, args := #[.func (.yield (w.heap.size + 1)) #[] #[]] }, ((w.alloc (.deferred (some []))).alloc (rec' .ready none)), gf,
    #[.func (.yield (w.heap.size + 1)) #[] #[]] ++ lb, ((w.alloc (.deferred (some []))).alloc (rec' .ready none)), run_enterLoop_outer _ _ _ _ _, ?_, fun _ _ => trivial, ?_, fun _ => by decide, ?_⟩
  · simp only [resolve, hg]
    simp [go_sem]
  · simp [invoke, go_sem, eg]
  have keep : ∀ {A B : World}, KeepsFrom w.heap.size A B → ∀ {st pe}, A.heap[w.heap.size + 1]? = some (rec' st pe) → B.heap[w.heap.size + 1]? = some (rec' st pe) := fun h _ _ hl => h.same _ _ (by omega) hl rfl
  have keepD : ∀ {A B : World}, KeepsFrom w.heap.size A B → A.heap[w.heap.size]? = some (.deferred (some [])) → B.heap[w.heap.size]? = some (.deferred (some [])) := fun h hl => h.same _ _ (Nat.le_refl _) hl rfl
  refine (hseq (w.heap.size + 1)
    (fun k W => I k W ∧ W.heap[w.heap.size + 1]? = some (rec' .ready none) ∧ W.heap[w.heap.size]? = some (.deferred (some [])))
    (fun k W => ∃ c, Ix c k W ∧ W.heap[w.heap.size + 1]? = some (rec' .done (some c)) ∧ W.heap[w.heap.size]? = some (.deferred (some [])))
    _ (hPre _ _)
    (fun k A B h hab => ⟨hIA k A B h.1 hab, keep (hAb A B hab) h.2.1, keepD (hAb A B hab) h.2.2⟩)
    (fun k A B h hab => by obtain ⟨c, h1, h2, h3⟩ := h; exact ⟨c, hIxA c k A B h1 hab, keep (hAb A B hab) h2, keepD (hAb A B hab) h3⟩)
    ?_ ⟨hI.alloc _ (hI.alloc _ h0), hL1, hD1⟩).mono ?_
  · rintro k W hk ⟨hi, hl, hd⟩
    refine ⟨fn, _, assign, body, run_yield hl (hps k), roundIn_of_wpIn hfn (hassign _ k W _ hk (by omega) hi fun a₁ W₁ hi1 hkf hkp => ?_)⟩
    replace hl := keep hkf hl
    replace hd := keepD hkf hd
    refine ⟨_, run_beginRound hl rfl, ?_⟩
    have hlt : w.heap.size + 1 < W₁.heap.size := (Array.getElem?_eq_some_iff.1 hl).1
    have hl2 : (W₁.putObj (w.heap.size + 1) (rec' .busy none)).heap[w.heap.size + 1]? = some (rec' .busy none) := World.putObj_heap_same hlt
    have hd2 : (W₁.putObj (w.heap.size + 1) (rec' .busy none)).heap[w.heap.size]? = some (.deferred (some [])) := (World.putObj_heap_other (by omega)).trans hd
    refine wpIn_mono (hbody _ k a₁ (W₁.putObj (w.heap.size + 1) (rec' .busy none)) hk (by omega) ((hI1 a₁).putObj _ hi1 (by omega) hl rfl)) ?_
    have fin : ∀ (jump : Option Code) (W3 : World), KeepsFrom w.heap.size (W₁.putObj (w.heap.size + 1) (rec' .busy none)) W3 →
        W3.heap[w.heap.size + 1]? = some (rec' .busy none) ∧ (Instr.endRound (w.heap.size + 1) jump).run P W3 = .ok (.bool jump.isNone) (W3.putObj (w.heap.size + 1) (rec' (if jump.isNone then .ready else .done) jump)) ∧
        (W3.putObj (w.heap.size + 1) (rec' (if jump.isNone then .ready else .done) jump)).heap[w.heap.size + 1]? = some (rec' (if jump.isNone then .ready else .done) jump) ∧
        (W3.putObj (w.heap.size + 1) (rec' (if jump.isNone then .ready else .done) jump)).heap[w.heap.size]? = some (.deferred (some [])) := fun jump W3 h3 => by
      have hl3 := keep h3 hl2
      exact ⟨hl3, run_endRound jump hl3, World.putObj_heap_same (Array.getElem?_eq_some_iff.1 hl3).1, (World.putObj_heap_other (by omega)).trans (keepD h3 hd2)⟩
    rintro e a3 W3 hp
    cases e with
    | normal =>
      obtain ⟨h1, h2, h3⟩ := hp
      obtain ⟨f1, f2, f3, f4⟩ := fin none W3 h1
      exact ⟨_, _, f2, .inl ⟨rfl, ⟨hI.putObj _ h3 (by omega) f1 rfl, f3, f4⟩, hKt hkp (hKt (hKb _ _ _ _ (by omega) hl rfl) (hKt h2 (hKb _ _ _ _ (by omega) f1 rfl)))⟩⟩
    | ret =>
      obtain ⟨h1, h3⟩ := hp
      obtain ⟨f1, f2, f3, f4⟩ := fin (some .ret) W3 h1
      exact ⟨_, _, f2, .inr ⟨rfl, _, (hIx _).putObj _ h3 (by omega) f1 rfl, f3, f4⟩⟩
    | exit id =>
      obtain ⟨h1, h3⟩ := hp
      obtain ⟨f1, f2, f3, f4⟩ := fin (some (.exit id)) W3 h1
      exact ⟨_, _, f2, .inr ⟨rfl, _, (hIx _).putObj _ h3 (by omega) f1 rfl, f3, f4⟩⟩
    | goto t =>
      obtain ⟨h1, h3⟩ := hp
      obtain ⟨f1, f2, f3, f4⟩ := fin (some (.goto t)) W3 h1
      exact ⟨_, _, f2, .inr ⟨rfl, _, (hIx _).putObj _ h3 (by omega) f1 rfl, f3, f4⟩⟩
    | panic ch => exact hp.elim
    | outgrown => exact hp.elim
  · rintro e W2 ⟨⟨v, rfl⟩, (⟨hi, hl, hd⟩ | ⟨k, hk, c, hi, hl, hd⟩)⟩
    · exact ⟨none, _, run_endLoop hl (by simp), hdone _ _ (Nat.le_refl _) (hI.putObj _ hi (by omega) hl rfl) ((World.putObj_heap_other (by omega)).trans hd)⟩
    · exact ⟨some c, _, run_endLoop hl (by simp), wpIn_wide.2 (hstop _ c k _ (Nat.le_refl _) hk ((hIx c).putObj _ hi (by omega) hl rfl) ((World.putObj_heap_other (by omega)).trans hd))⟩
section
variable {P : Program} {Q : Exit → Act → World → Prop} {m l0 : Nat} {ops : Array Oper} {rest : List Oper} {o : Oper} {a : Act} {w : World}
theorem wpListIn_store_row (hgd : o.guard = none) (ty : TypeId) (x y : Operand) (ho : o.op = .store ty x y)
    (g : Nat) (cells : Array Value) (hx : a.eval x = .pointer (some ⟨g, 0, none⟩)) (hy : a.eval y = .agg cells)
    (t : TypeId) (old : Array Value) (hg : w.heap[g]? = some (.cells old t (0, 0))) (hi : (P.info? ty).map (·.size) = some cells.size)
    (hold : old.size = cells.size) (h1 : cells.all (·.oneCell') = true)
    (h : wpListIn (Fence.wide.inRound l0) m P ops Q rest (a.put o.dst undef) (w.setRow g cells)) : wpListIn (Fence.wide.inRound l0) m P ops Q (o :: rest) a w :=
  wpListIn_plain hgd fun K' hK' => opIn_of_op (fun c e => by rw [ho] at e; cases e) hK' (wp_store_row ty x y ho g cells hx hy t old hg hi hold h1 h)
theorem wpListIn_store_new (hgd : o.guard = none) (ty : TypeId) (x y : Operand) (ho : o.op = .store ty x y)
    (cells : Array Value) (t : TypeId) (old : Array Value) (hx : a.eval x = .pointer (some ⟨w.heap.size, 0, none⟩)) (hy : a.eval y = .agg cells) (hi : (P.info? ty).map (·.size) = some cells.size)
    (hold : old.size = cells.size) (h1 : cells.all (·.oneCell') = true)
    (h : wpListIn (Fence.wide.inRound l0) m P ops Q rest (a.put o.dst undef) (w.alloc (.cells cells t))) : wpListIn (Fence.wide.inRound l0) m P ops Q (o :: rest) a (w.alloc (.cells old t)) := by
  refine wpListIn_store_row hgd ty x y ho w.heap.size cells hx hy t old (heap_alloc_new w _) hi hold h1 ?_
  rw [World.setRow_alloc_new]; exact h
end
theorem tokV_all (t : Tok) : (tokV t).all (·.oneCell') = true := by simp [tokV, Value.oneCell']
theorem tokV_info (t : Tok) : (Tryz.prog.info? 180).map (·.size) = some (tokV t).size := by show _ = some 3; kernel_rfl
theorem tok_lim {bs : List UInt8} {at_ : Nat} {t : Tok} (h : TokAt bs at_ t) : TokLim t := by
  have h1 := h.1
  unfold rightT at h1
  split at h1
  · rename_i h0
    have := of_decide_eq_true h1
    exact ⟨by omega, by omega⟩
  · have := of_decide_eq_true h1
    exact ⟨by omega, by omega⟩
def bstK (f : Tok → Int) (l : List Tok) (k : Nat) : Int × Tok := stB f (l.take k) best0
theorem bstK_next {f : Tok → Int} {l : List Tok} {k : Nat} (h : k < l.length) : bstK f l (k + 1) = if (bstK f l k).1 < 0 ∨ f (tG l k) ≤ (bstK f l k).1 then (f (tG l k), tG l k) else bstK f l k := by
  have e : tG l k = l[k] := by unfold tG; rw [List.getD_eq_getElem?_getD, List.getElem?_eq_getElem h]; rfl
  unfold bstK
  rw [List.take_succ_eq_append_getElem h, stB_append, e]
  rfl
theorem bstK_all (f : Tok → Int) (l : List Tok) : bstK f l l.length = bestP f l := by unfold bstK bestP; rw [List.take_length]
theorem tG_mem {l : List Tok} {k : Nat} (h : k < l.length) : tG l k ∈ l := by
  unfold tG; rw [List.getD_eq_getElem?_getD, List.getElem?_eq_getElem h]; exact List.getElem_mem h
def bestFx (w : World) (at_ : Nat) (Q : Option Addr) (np cp : Nat) (A : Option Addr) (n c : Nat) : List (Nat × Obj) :=
  [(w.heap.size, .cells #[.int .i64 (at_ : Int)] 3), (w.heap.size + 1, .cells #[.slice Q np cp] 52), (w.heap.size + 2, .cells (tokV ⟨0, 0, 0⟩) 180), (w.heap.size + 5, .cells #[.slice A n c] 23), (w.heap.size + 6, .cells #[.int .i64 (at_ : Int)] 3)]
structure BestI (w : World) (at_ : Nat) (Q : Option Addr) (np cp : Nat) (A : Option Addr) (n c : Nat) (s : Int × Tok) (W : World) : Prop where
  fix : ∀ p ∈ bestFx w at_ Q np cp A n c, W.heap[p.1]? = some p.2
  tok : rowV W (w.heap.size + 3) 180 (tokV s.2)
  lst : rowV W (w.heap.size + 4) 3 #[.int .i64 s.1]
  below : Below w.heap.size w W
  size : w.heap.size + 7 ≤ W.heap.size
section
variable {w W W' : World} {at_ np cp n c : Nat} {Q A : Option Addr} {s : Int × Tok}
theorem bestFx_lt : ∀ p ∈ bestFx w at_ Q np cp A n c, p.1 < w.heap.size + 7 ∧ p.1 ≠ w.heap.size + 3 ∧ p.1 ≠ w.heap.size + 4 := by
  intro p hp
  simp only [bestFx, List.mem_cons, List.not_mem_nil, or_false] at hp
  rcases hp with rfl | rfl | rfl | rfl | rfl <;> simp <;> omega
theorem BestI.kept {row : Option Nat} (h : BestI w at_ Q np cp A n c s W) (hg : W.grownBy W' row) (hrow : ∀ r, row = some r → w.heap.size + 7 ≤ r) : BestI w at_ Q np cp A n c s W' := by
  obtain ⟨h1, h2, h3, h4, h5⟩ := h
  have ne : ∀ j, j < w.heap.size + 7 → some j ≠ row := fun j hj e => by have := hrow j e.symm; omega
  exact ⟨fun p hp => (hg.block p.1 (by have := (bestFx_lt p hp).1; omega) (ne _ (bestFx_lt p hp).1)).trans (h1 p hp), (hg.block _ (by omega) (ne _ (by omega))).trans h2, (hg.block _ (by omega) (ne _ (by omega))).trans h3,
    h4.grown hg h4.size (fun r e => by have := hrow r e; omega), Nat.le_trans h5 hg.size⟩
theorem BestI.grow (h : BestI w at_ Q np cp A n c s W) (hb : Below W.heap.size W W') : BestI w at_ Q np cp A n c s W' := by
  obtain ⟨h1, h2, h3, h4, h5⟩ := h
  exact ⟨fun p hp => (hb.block p.1 (by have := (bestFx_lt p hp).1; omega)).trans (h1 p hp), (hb.block _ (by omega)).trans h2, (hb.block _ (by omega)).trans h3, h4.trans (hb.mono (by omega)), by have := hb.size; omega⟩
theorem BestI.step (h : BestI w at_ Q np cp A n c s W) (hb : Below W.heap.size W W') (t : Tok) (x : Int) :
    KeepsFrom (w.heap.size + 7) W ((W'.setRow (w.heap.size + 3) (tokV t)).setCell ⟨w.heap.size + 4, 0, none⟩ (.int .i64 x)) ∧ twoKq w.heap.size (w.heap.size + 5) (w.heap.size + 6) W ((W'.setRow (w.heap.size + 3) (tokV t)).setCell ⟨w.heap.size + 4, 0, none⟩ (.int .i64 x)) ∧ BestI w at_ Q np cp A n c (x, t) ((W'.setRow (w.heap.size + 3) (tokV t)).setCell ⟨w.heap.size + 4, 0, none⟩ (.int .i64 x)) := by
  have hg := h.grow hb
  have hs := h.size
  have hs' := hb.size
  have oth : ∀ j, j ≠ w.heap.size + 3 → j ≠ w.heap.size + 4 → ((W'.setRow (w.heap.size + 3) (tokV t)).setCell ⟨w.heap.size + 4, 0, none⟩ (.int .i64 x)).heap[j]? = W'.heap[j]? := fun j h1 h2 =>
    (Below.heap_setCell _ ⟨w.heap.size + 4, 0, none⟩ _ j h2).trans (setRow_other _ _ _ _ h1)
  have hsz : ((W'.setRow (w.heap.size + 3) (tokV t)).setCell ⟨w.heap.size + 4, 0, none⟩ (.int .i64 x)).heap.size = W'.heap.size := by simp [World.setCell]
  have hbel : Below w.heap.size W ((W'.setRow (w.heap.size + 3) (tokV t)).setCell ⟨w.heap.size + 4, 0, none⟩ (.int .i64 x)) :=
    Below.setCell (p := ⟨w.heap.size + 4, 0, none⟩) (below_setRow (hb.mono (by omega)) (by omega) _) (by show _ ≤ w.heap.size + 4; omega) _
  have e5 : W'.heap[w.heap.size + 5]? = W.heap[w.heap.size + 5]? := hb.block _ (by omega)
  have e6 : W'.heap[w.heap.size + 6]? = W.heap[w.heap.size + 6]? := hb.block _ (by omega)
  refine ⟨⟨by rw [hsz]; exact hs', fun j o hj ho _ => (oth j (by omega) (by omega)).trans ((hb.block j (Array.getElem?_eq_some_iff.1 ho).1).trans ho)⟩, ⟨(oth _ (by omega) (by omega)).trans e5, (oth _ (by omega) (by omega)).trans e6, hbel⟩, fun p hp => ?_, ?_, ?_, h.below.trans hbel, by rw [hsz]; omega⟩
  · obtain ⟨-, q1, q2⟩ := bestFx_lt p hp
    exact (oth _ q1 q2).trans (hg.fix p hp)
  · exact (Below.heap_setCell _ ⟨w.heap.size + 4, 0, none⟩ _ _ (by show w.heap.size + 3 ≠ w.heap.size + 4; omega)).trans (setRow_heap _ _ _ _ _ _ hg.tok)
  · have h4 : rowV (W'.setRow (w.heap.size + 3) (tokV t)) (w.heap.size + 4) 3 #[.int .i64 s.1] := (setRow_other _ _ _ _ (by omega)).trans hg.lst
    exact h4.set 0 (.int .i64 x)
theorem best_start {w6 : World}
    (hw6 : w6 = ((((((w.alloc (.cells #[.int .i64 (at_ : Int)] 3)).alloc (.cells #[.slice Q np cp] 52)).alloc (.cells #[.int .i64 0, .int .i64 0, .int .u8 0] 180)).alloc (.cells #[.int .i64 0, .int .i64 0, .int .u8 0] 180)).alloc (.cells #[.int .i64 (-1)] 3)).alloc (.cells #[.slice A n c] 23)).alloc (.cells #[.int .i64 (at_ : Int)] 3)) :
    BestI w at_ Q np cp A n c best0 w6 ∧ w6.heap.size = w.heap.size + 7 := by
  obtain ⟨w1, h1⟩ : ∃ w1, w1 = w.alloc (.cells #[.int .i64 (at_ : Int)] 3) := ⟨_, rfl⟩
  obtain ⟨w2, h2⟩ : ∃ w2, w2 = w1.alloc (.cells #[.slice Q np cp] 52) := ⟨_, rfl⟩
  obtain ⟨w3, h3⟩ : ∃ w3, w3 = w2.alloc (.cells #[.int .i64 0, .int .i64 0, .int .u8 0] 180) := ⟨_, rfl⟩
  obtain ⟨w4, h4⟩ : ∃ w4, w4 = w3.alloc (.cells #[.int .i64 0, .int .i64 0, .int .u8 0] 180) := ⟨_, rfl⟩
  obtain ⟨w5, h5⟩ : ∃ w5, w5 = w4.alloc (.cells #[.int .i64 (-1)] 3) := ⟨_, rfl⟩
  obtain ⟨wa, ha⟩ : ∃ wa, wa = w5.alloc (.cells #[.slice A n c] 23) := ⟨_, rfl⟩
  rw [← h1, ← h2, ← h3, ← h4, ← h5, ← ha] at hw6
  have s1 : w1.heap.size = w.heap.size + 1 := by rw [h1, World.size_alloc]
  have s2 : w2.heap.size = w.heap.size + 2 := by rw [h2, World.size_alloc, s1]
  have s3 : w3.heap.size = w.heap.size + 3 := by rw [h3, World.size_alloc, s2]
  have s4 : w4.heap.size = w.heap.size + 4 := by rw [h4, World.size_alloc, s3]
  have s5 : w5.heap.size = w.heap.size + 5 := by rw [h5, World.size_alloc, s4]
  have sa : wa.heap.size = w.heap.size + 6 := by rw [ha, World.size_alloc, s5]
  have s6 : w6.heap.size = w.heap.size + 7 := by rw [hw6, World.size_alloc, sa]
  have g1 : Below w.heap.size w w1 := by rw [h1]; exact balloc (Below.refl _ _) _
  have g2 : Below w1.heap.size w1 w2 := by rw [h2]; exact balloc (Below.refl _ _) _
  have g3 : Below w2.heap.size w2 w3 := by rw [h3]; exact balloc (Below.refl _ _) _
  have g4 : Below w3.heap.size w3 w4 := by rw [h4]; exact balloc (Below.refl _ _) _
  have g5 : Below w4.heap.size w4 w5 := by rw [h5]; exact balloc (Below.refl _ _) _
  have ga : Below w5.heap.size w5 wa := by rw [ha]; exact balloc (Below.refl _ _) _
  have g6 : Below wa.heap.size wa w6 := by rw [hw6]; exact balloc (Below.refl _ _) _
  have b56 : Below w5.heap.size w5 w6 := ga.trans (g6.mono (by omega))
  have b46 : Below w4.heap.size w4 w6 := g5.trans (b56.mono (by omega))
  have b36 : Below w3.heap.size w3 w6 := g4.trans (b46.mono (by omega))
  have b26 : Below w2.heap.size w2 w6 := g3.trans (b36.mono (by omega))
  have b16 : Below w1.heap.size w1 w6 := g2.trans (b26.mono (by omega))
  have b06 : Below w.heap.size w w6 := g1.trans (b16.mono (by omega))
  have r1 : rowV w1 w.heap.size 3 #[.int .i64 (at_ : Int)] := by rw [h1]; exact rowV.new w _ _
  have r2 : rowV w2 (w.heap.size + 1) 52 #[.slice Q np cp] := by have := rowV.new w1 52 #[.slice Q np cp]; rw [s1] at this; rw [h2]; exact this
  have r3 : rowV w3 (w.heap.size + 2) 180 (tokV ⟨0, 0, 0⟩) := by have := rowV.new w2 180 (tokV ⟨0, 0, 0⟩); rw [s2] at this; rw [h3]; exact this
  have r4 : rowV w4 (w.heap.size + 3) 180 (tokV ⟨0, 0, 0⟩) := by have := rowV.new w3 180 (tokV ⟨0, 0, 0⟩); rw [s3] at this; rw [h4]; exact this
  have r5 : rowV w5 (w.heap.size + 4) 3 #[.int .i64 (-1)] := by have := rowV.new w4 3 #[.int .i64 (-1)]; rw [s4] at this; rw [h5]; exact this
  have ra : rowV wa (w.heap.size + 5) 23 #[.slice A n c] := by have := rowV.new w5 23 #[.slice A n c]; rw [s5] at this; rw [ha]; exact this
  have r6 : rowV w6 (w.heap.size + 6) 3 #[.int .i64 (at_ : Int)] := by have := rowV.new wa 3 #[.int .i64 (at_ : Int)]; rw [sa] at this; rw [hw6]; exact this
  refine ⟨⟨fun p hp => ?_, r4.below b46 (by omega), r5.below b56 (by omega), b06, by omega⟩, s6⟩
  simp only [bestFx, List.mem_cons, List.not_mem_nil, or_false] at hp
  rcases hp with rfl | rfl | rfl | rfl | rfl
  · exact r1.below b16 (by omega)
  · exact r2.below b26 (by omega)
  · exact r3.below b36 (by omega)
  · exact ra.below g6 (by omega)
  · exact r6
end
end Go.Proofs.YtohadkmaemmfgaaGreatDoor
namespace Go.Proofs.YtohadkmaemmfgaaGreatDoor
open Go.RowKit Go.Proofs
set_option linter.unusedVariables false
set_option linter.unusedSimpArgs false
attribute [local go_sem] Oper.semAt_some
theorem best_any (A : Option Addr) (n c at_ : Nat) (bs : List UInt8) (Q : Option Addr) (np cp : Nat) (pots : List Int) (S : List (Int × Tok)) (w : World) (hx : Bytes w A n c bs) (hn : n ≤ 65536) (ha : at_ < n) (hq : Ints w Q np cp pots) (hnp : np = n + 1)
    (hpot : ∀ i, at_ < i → i ≤ n → gi pots i = potS S (i - at_ - 1)) (hlo : ∀ j, 0 ≤ potS S j ∧ potS S j ≤ 3000000) :
    Calls Tryz.prog 217 #[.slice A n c, .int .i64 (at_ : Int), .slice Q np cp] w fun e w' => e = .returned (.tuple #[.agg (tokV (bestP (costF S) (chL bs at_)).2), .int .i64 (bestP (costF S) (chL bs at_)).1]) ∧ Below w.heap.size w w' := by
  have hl' := hx.1
  have hcost : ∀ k, k < (chL bs at_).length → TokAt bs at_ (tG (chL bs at_) k) := fun k hk => chL_at (by rw [hl']; exact ha) _ (tG_mem hk)
  obtain ⟨F, hF⟩ : ∃ F, F = costF S := ⟨_, rfl⟩
  have HFv : Hid (∀ t, F t = priT t + potS S (tsz t - 1)) := fun t => by rw [hF]; rfl
  have HCT := Lib.hid hcost
  have HX := Lib.hid hx
  have HQ := Lib.hid hq
  have HPOT := Lib.hid hpot
  have HLO := Lib.hid hlo
  have HNP := Lib.hid hnp
  have hnp1 : 0 < np := by omega
  obtain ⟨bq, oq, rfl, -, -⟩ := hq.get hnp1
  have hN : n ≤ 65536 ∧ at_ < n ∧ np ≤ 65537 := ⟨hn, ha, by omega⟩
  rw [← hF]
  clear hF hcost hpot hlo hq hnp hx
  obtain ⟨Q, hQ⟩ : ∃ Q, Q = some (⟨bq, oq, none⟩ : Addr) := ⟨_, rfl⟩
  rw [← hQ] at HQ ⊢
  have HQE := Lib.hid hQ
  clear hQ
  refine calls_of_marks Tryz.func217 rfl ?_
  simp only [Tryz.ntmps217, List.size_toArray, List.length_cons, List.length_nil, Nat.reduceAdd, Nat.reduceSub, Array.replicate_succ, Array.replicate_zero, List.push_toArray, List.append_toArray, List.nil_append, List.cons_append]
  go_wp2_with fail
  refine (choices_any _ _ _ _ _).mono ?_
  rintro e w6 ⟨rfl, hw6⟩
  go_wp2_with fail
  rw [← hw6]
  obtain ⟨hI0, s6⟩ := best_start hw6
  have HI0 := Lib.hid hI0
  have S6 := Lib.hid s6
  clear hw6 hI0 s6
  simp only [World.size_alloc, Nat.add_assoc, Nat.reduceAdd]
  refine wp_rangeFunc_rowA (row := fun k => chRow bs at_ k) rfl (Go.Proofs.enters_of Tryz.func294 (by kernel_rfl) rfl) (choices1_gives w A n c at_ bs HX.out (by omega) ha (w.heap.size + 5) (w.heap.size + 6))
    (fun o1 o2 => ⟨Boxed.alloc (Boxed.alloc (HI0.out.fix (w.heap.size + 5, _) (by simp [bestFx])) _) _, Boxed.alloc (Boxed.alloc (HI0.out.fix (w.heap.size + 6, _) (by simp [bestFx])) _) _, (HI0.out.below.alloc HI0.out.below.size _).alloc (by have := HI0.out.below.size; simp; omega) _⟩)
    (fun X Y hab => ⟨(hab.below w6.heap.size).size, fun j o _ ho _ => ((hab.below _).block j (Array.getElem?_eq_some_iff.1 ho).1).trans ho⟩)
    (fun h1 h2 => ⟨h2.1.trans h1.1, h2.2.1.trans h1.2.1, h1.2.2.trans h2.2.2⟩)
    (fun W l o o' hl hlo ho => ⟨World.putObj_heap_other (by rw [S6.out] at hl; omega), World.putObj_heap_other (by rw [S6.out] at hl; omega), (Below.refl _ _).grown (grownBy_putObj' W l o') (by have := (Array.getElem?_eq_some_iff.1 hlo).1; rw [S6.out] at hl; omega) (fun k e => by cases e; rw [S6.out] at hl; omega)⟩)
    (fun _ => rfl)
    (fun k => BestI w at_ Q np cp A n c (bstK F (chL bs at_) k)) (fun _ _ _ => False) ?hI (fun _ _ _ _ _ h _ _ => h.elim) (fun k X Y h hab => h.grow (hab.below _)) (fun _ _ _ _ h _ => h.elim) HI0.out
    (fun k a₁ W => ∃ g, w.heap.size + 7 ≤ g ∧ a₁ = { tmps := #[.slice A n c, .int .i64 (at_ : Int), .slice Q np cp, undef, .pointer (some ⟨w.heap.size, 0, none⟩), .pointer (some ⟨w.heap.size + 1, 0, none⟩), .pointer (some ⟨w.heap.size + 2, 0, none⟩), .int .i64 0, .pointer (some ⟨w.heap.size + 3, 0, none⟩), .pointer (some ⟨w.heap.size + 4, 0, none⟩), .pointer (some ⟨g, 0, none⟩), undef, .slice A n c, .int .i64 (at_ : Int), .func (.func 294) #[] #[.pointer (some ⟨w.heap.size + 5, 0, none⟩), .pointer (some ⟨w.heap.size + 6, 0, none⟩)], .agg (tokV (tG (chL bs at_) k)), undef, undef, undef, undef, undef, undef, undef, undef, undef, undef, undef, undef, undef, undef, undef, undef, undef, undef, undef, undef, undef], defers := [] } ∧ rowV W g 180 (tokV (tG (chL bs at_) k)) ∧ BestI w at_ Q np cp A n c (bstK F (chL bs at_) k) W)
    ?hI1 ?assign ?body ?done (fun _ _ _ _ _ _ h _ => h.elim)
  case hI => exact fun s W W' row h hg hr => h.kept hg (fun r e => by have := (hr r e).1; rw [S6.out] at this; exact this)
  case hI1 =>
    intro a₁ s W W' row ⟨g, h1, h2, h3, h4⟩ hg hr
    refine ⟨g, h1, h2, (hg.block g h3.lt (fun e => ?_)).trans h3, h4.kept hg (fun r e => by have := (hr r e).1; rw [S6.out] at this; exact this)⟩
    obtain ⟨o, q1, q2⟩ := (hr g e.symm).2
    have h3' : W.heap[g]? = _ := h3
    rw [h3'] at q1
    injection q1 with q1
    subst q1
    cases q2
  case assign =>
    intro l k W K hk hl hI hK
    have e : (#[15] : Array Tmp).zip (chRow bs at_ k) = #[(15, .agg (tokV (tG (chL bs at_) k)))] := by simp [chRow]
    simp only [e]
    simp only [List.foldl_toArray, List.foldl_cons, List.foldl_nil, List.setIfInBounds_toArray, List.set_cons_succ, List.set_cons_zero]
    have hs := hI.size
    gi_wp2_with (refine wpListIn_store_new rfl 180 (.tmp 10) (.tmp 15) rfl (tokV (tG (chL bs at_) k)) 180 _ rfl rfl (tokV_info _) rfl (tokV_all _) ?_)
    have hb := balloc (Below.refl W.heap.size W) (.cells (tokV (tG (chL bs at_) k)) 180)
    exact hK _ _ ⟨W.heap.size, hs, rfl, rowV.new W _ _, hI.grow hb⟩ (KeepsFrom.of_grownBy (World.grownBy_alloc W _ none) (fun j e => by cases e)) ⟨hb.block _ (by omega), hb.block _ (by omega), hb.mono (by omega)⟩
  case body =>
    intro l k a₁ W hk hl ⟨g, hg7, ha1, hrow, hI⟩
    subst ha1
    have hat := HCT.out k hk
    have hlim := tok_lim hat
    have hnx := bstK_next (f := F) hk
    have hszl : at_ + tsz (tG (chL bs at_) k) ≤ n := by have := hat.2.2.1; rw [hl'] at this; exact this
    obtain ⟨t, ht⟩ : ∃ t, t = tG (chL bs at_) k := ⟨_, rfl⟩
    rw [← ht] at hat hlim hnx hszl hrow ⊢
    obtain ⟨s, hs⟩ : ∃ s, s = bstK F (chL bs at_) k := ⟨_, rfl⟩
    rw [← hs] at hnx hI
    have HI := Lib.hid hI
    have HNX := Lib.hid hnx
    have hsz1 := tsz_pos t
    have hp1 := pri_lo t
    have hp2 := pri_hi t
    have hpv := HLO.out (tsz t - 1)
    have hpe := HPOT.out (at_ + tsz t) (by omega) hszl
    rw [show at_ + tsz t - at_ - 1 = tsz t - 1 by omega] at hpe
    have hFt := HFv.out t
    have k0 : ∀ gr : Bwt.Gr W, gr.w.cell? ⟨g, 0, none⟩ = some (.int .i64 (t.len : Int)) := fun gr => (show rowV gr.w g 180 (tokV t) from (gr.h.block g hrow.lt).trans hrow).cell rfl
    have k1 : ∀ gr : Bwt.Gr W, gr.w.cell? ⟨g, 1, none⟩ = some (.int .i64 (t.dst : Int)) := fun gr => (show rowV gr.w g 180 (tokV t) from (gr.h.block g hrow.lt).trans hrow).cell rfl
    have k2 : ∀ gr : Bwt.Gr W, gr.w.cell? ⟨g, 2, none⟩ = some (.int .u8 (t.byt.toNat : Int)) := fun gr => (show rowV gr.w g 180 (tokV t) from (gr.h.block g hrow.lt).trans hrow).cell rfl
    have p4 : ∀ gr : Bwt.Gr W, gr.w.cell? ⟨w.heap.size, 0, none⟩ = some (.int .i64 (at_ : Int)) := fun gr => (show rowV gr.w w.heap.size 3 #[.int .i64 (at_ : Int)] from (HI.out.grow gr.h).fix (w.heap.size, _) (by simp [bestFx])).cell rfl
    have p5 : ∀ gr : Bwt.Gr W, gr.w.cell? ⟨w.heap.size + 1, 0, none⟩ = some (.slice Q np cp) := fun gr => (show rowV gr.w (w.heap.size + 1) 52 #[.slice Q np cp] from (HI.out.grow gr.h).fix (w.heap.size + 1, _) (by simp [bestFx])).cell rfl
    have p9 : ∀ gr : Bwt.Gr W, gr.w.cell? ⟨w.heap.size + 4, 0, none⟩ = some (.int .i64 s.1) := fun gr => (HI.out.grow gr.h).lst.cell rfl
    obtain ⟨ix, hix⟩ : ∃ ix, ix = at_ + tsz t := ⟨_, rfl⟩
    obtain ⟨sz, hsz⟩ : ∃ sz, sz = tsz t := ⟨_, rfl⟩
    have hixl : ix < np := by have := HNP.out; omega
    have pc : ∀ gr : Bwt.Gr W, gr.w.cell? ⟨bq, oq + ix, none⟩ = some (.int .i64 (potS S (tsz t - 1))) := fun gr => by
      have hh := HQ.out.below (HI.out.grow gr.h).below
      rw [HQE.out] at hh
      obtain ⟨b', o', e, -, hc⟩ := hh.get hnp1
      injection e with e
      injection e with e1 e2
      subst e1 e2
      rw [hc ix hixl, hix, hpe]
    have HPR : Hid (∀ gr : Bwt.Gr W, Calls Tryz.prog 155 #[.agg #[.int .i64 (t.len : Int), .int .i64 (t.dst : Int), .int .u8 (t.byt.toNat : Int)]] gr.w fun e w' => e = .returned (.int .i64 (priT t)) ∧ ∃ g' : Bwt.Gr W, w' = g'.w) := fun gr => by
      refine (price_any t gr.w hlim).mono ?_
      rintro e w' ⟨rfl, hb⟩
      exact ⟨rfl, ⟨w', gr.h.trans (hb.mono gr.h.size)⟩, rfl⟩
    have HSZ : Hid (∀ gr : Bwt.Gr W, Calls Tryz.prog 153 #[.agg #[.int .i64 (t.len : Int), .int .i64 (t.dst : Int), .int .u8 (t.byt.toNat : Int)]] gr.w fun e w' => e = .returned (.int .i64 (sz : Int)) ∧ ∃ g' : Bwt.Gr W, w' = g'.w) := fun gr => by
      refine (psize_any t gr.w hlim).mono ?_
      rintro e w' ⟨rfl, hb⟩
      rw [hsz]
      exact ⟨rfl, ⟨w', gr.h.trans (hb.mono gr.h.size)⟩, rfl⟩
    obtain ⟨pr, hpr⟩ : ∃ pr, pr = priT t := ⟨_, rfl⟩
    obtain ⟨pv, hpve⟩ : ∃ pv, pv = potS S (tsz t - 1) := ⟨_, rfl⟩
    rw [← hpr] at HPR hp1 hp2 hFt
    rw [← hpve] at pc hpv hFt
    have hadd : (at_ : Int) + (sz : Int) = (ix : Int) := by omega
    have hw1 : IntKind.i64.wrap ((at_ : Int) + (sz : Int)) = (ix : Int) := by rw [hadd, IntKind.wrap_i64]; omega
    have hw2 : IntKind.i64.wrap (pr + pv) = pr + pv := by rw [IntKind.wrap_i64]; omega
    have di : decide ((ix : Int) < (np : Int)) = true := decide_eq_true (by omega)
    have HROW := Lib.hid hrow
    have HFT := Lib.hid hFt
    have STEP : Hid (∀ gr : Bwt.Gr W, _) := fun gr : Bwt.Gr W => HI.out.step gr.h t (pr + pv)
    have HTOK : Hid (∀ gr : Bwt.Gr W, gr.w.heap[w.heap.size + 3]? = some (.cells (tokV s.2) 180 (0, 0)) ∧ (gr.w.setRow (w.heap.size + 3) (tokV t)).cell? ⟨w.heap.size + 4, 0, none⟩ = some (.int .i64 s.1) ∧ (gr.w.setRow (w.heap.size + 3) (tokV t)).frozen? ⟨w.heap.size + 4, 0, none⟩ = false) := fun gr => by
      have h4 : rowV (gr.w.setRow (w.heap.size + 3) (tokV t)) (w.heap.size + 4) 3 #[.int .i64 s.1] := (setRow_other _ _ _ _ (by omega)).trans (HI.out.grow gr.h).lst
      exact ⟨(HI.out.grow gr.h).tok, h4.cell rfl, h4.frozen 0⟩
    have hw6 := S6.out
    rw [HQE.out] at p5
    clear hat hnx hrow hI hpe hpr hpve hix hsz hs ht hlim hFt hk
    gi_wp2
    refine Bwt.wpIn_round_grow 10 (by kernel_rfl) (by kernel_rfl) (by kernel_rfl) ?_
    simp only [List.take_succ_cons, List.take_zero, List.drop_succ_cons, List.drop_zero]
    repeat (go_big_quiet_step (first
      | (go_at_call 155; exact HPR.out _)
      | (go_at_call 153; exact HSZ.out _)))
    refine wpQuiet_nil ?_
    intro _ hw'
    obtain ⟨gr, hw''⟩ := hw'
    subst hw''
    go_wp2_with fail
    refine ⟨rfl, ?_⟩
    have HSTEP : Hid (s.1 < 0 ∨ pr + pv ≤ s.1 → KeepsFrom (w.heap.size + 7) W ((gr.w.setRow (w.heap.size + 3) (tokV t)).setCell ⟨w.heap.size + 4, 0, none⟩ (.int .i64 (pr + pv))) ∧ twoKq w.heap.size (w.heap.size + 5) (w.heap.size + 6) W ((gr.w.setRow (w.heap.size + 3) (tokV t)).setCell ⟨w.heap.size + 4, 0, none⟩ (.int .i64 (pr + pv))) ∧ BestI w at_ Q np cp A n c (bstK F (chL bs at_) (k + 1)) ((gr.w.setRow (w.heap.size + 3) (tokV t)).setCell ⟨w.heap.size + 4, 0, none⟩ (.int .i64 (pr + pv)))) := fun h => by
      have := STEP.out gr
      rw [HNX.out, HFT.out, if_pos h]
      exact this
    by_cases hc1 : s.1 < 0
    · have e1 : decide (s.1 < 0) = true := decide_eq_true hc1
      have hfin := HSTEP.out (.inl hc1)
      have HFIN := Lib.hid hfin
      clear hfin
      gi_wp2_with (refine wpListIn_store_row rfl 180 (.tmp 8) (.tmp 33) rfl (w.heap.size + 3) (tokV t) rfl rfl 180 (tokV s.2) (HTOK.out gr).1 (tokV_info t) rfl (tokV_all t) ?_; obtain ⟨z1, z2⟩ := (HTOK.out gr).2)
      first | exact HFIN.out | (rw [S6.out]; exact HFIN.out)
    · have e1 : decide (s.1 < 0) = false := decide_eq_false hc1
      by_cases hc2 : pr + pv ≤ s.1
      · have e2 : decide (pr + pv ≤ s.1) = true := decide_eq_true hc2
        have hfin := HSTEP.out (.inr hc2)
        have HFIN := Lib.hid hfin
        clear hfin
        gi_wp2_with (refine wpListIn_store_row rfl 180 (.tmp 8) (.tmp 33) rfl (w.heap.size + 3) (tokV t) rfl rfl 180 (tokV s.2) (HTOK.out gr).1 (tokV_info t) rfl (tokV_all t) ?_; obtain ⟨z1, z2⟩ := (HTOK.out gr).2)
        first | exact HFIN.out | (rw [S6.out]; exact HFIN.out)
      · have e2 : decide (pr + pv ≤ s.1) = false := decide_eq_false hc2
        have HFIN : Hid (KeepsFrom (w.heap.size + 7) W gr.w ∧ twoKq w.heap.size (w.heap.size + 5) (w.heap.size + 6) W gr.w ∧ BestI w at_ Q np cp A n c (bstK F (chL bs at_) (k + 1)) gr.w) := by
          have hsW := HI.out.size
          rw [HNX.out, HFT.out, if_neg (by omega)]
          exact ⟨⟨gr.h.size, fun j o _ ho _ => (gr.h.block j (Array.getElem?_eq_some_iff.1 ho).1).trans ho⟩, ⟨gr.h.block _ (by omega), gr.h.block _ (by omega), gr.h.mono (by omega)⟩, HI.out.grow gr.h⟩
        gi_wp2
        first | exact HFIN.out | (rw [S6.out]; exact HFIN.out)
  case done =>
    intro D W hD hI hdef
    rw [S6.out] at hD
    rw [bstK_all] at hI
    obtain ⟨s, hs⟩ : ∃ s, s = bestP F (chL bs at_) := ⟨_, rfl⟩
    rw [← hs] at hI
    have HS := Lib.hid hs
    have HI := Lib.hid hI
    obtain ⟨hfix, htok, hlst, hbelW, hsW⟩ := hI
    have k0 : W.cell? ⟨w.heap.size + 3, 0, none⟩ = some (.int .i64 (s.2.len : Int)) := htok.cell rfl
    have k1 : W.cell? ⟨w.heap.size + 3, 1, none⟩ = some (.int .i64 (s.2.dst : Int)) := htok.cell rfl
    have k2 : W.cell? ⟨w.heap.size + 3, 2, none⟩ = some (.int .u8 (s.2.byt.toNat : Int)) := htok.cell rfl
    have k3 : W.cell? ⟨w.heap.size + 4, 0, none⟩ = some (.int .i64 s.1) := hlst.cell rfl
    have hres : rowV W (w.heap.size + 2) 180 (tokV ⟨0, 0, 0⟩) := hfix (w.heap.size + 2, _) (by simp [bestFx])
    have y0 : W.cell? ⟨w.heap.size + 2, 0, none⟩ = some (.int .i64 0) := hres.cell rfl
    have y1 : W.cell? ⟨w.heap.size + 2, 1, none⟩ = some (.int .i64 0) := hres.cell rfl
    have y2 : W.cell? ⟨w.heap.size + 2, 2, none⟩ = some (.int .u8 0) := hres.cell rfl
    have f0 := hres.frozen 0
    have f1 := hres.frozen 1
    have f2 := hres.frozen 2
    have HRES := Lib.hid hres
    have HBW := Lib.hid hbelW
    clear hs htok hlst hres hbelW
    go_wp2_with fail
    go_region
    go_wp2_with fail
    obtain ⟨wf, hwf⟩ : ∃ wf, wf = (((W.setCell ⟨w.heap.size + 2, 0, none⟩ (.int .i64 (s.2.len : Int))).setCell ⟨w.heap.size + 2, 1, none⟩ (.int .i64 (s.2.dst : Int))).setCell ⟨w.heap.size + 2, 2, none⟩ (.int .u8 (s.2.byt.toNat : Int))).drew := ⟨_, rfl⟩
    rw [← hwf]
    have hrf : rowV wf (w.heap.size + 2) 180 (tokV s.2) := by
      rw [hwf]
      exact ((HRES.out.set 0 (.int .i64 (s.2.len : Int))).set 1 (.int .i64 (s.2.dst : Int))).set 2 (.int .u8 (s.2.byt.toNat : Int))
    have hsf : wf.heap.size = W.heap.size := by rw [hwf]; simp [World.setCell, World.drew]
    have hdf : wf.heap[D]? = some (.deferred (some [])) := by
      rw [hwf]
      exact (Below.heap_setCell _ ⟨w.heap.size + 2, 2, none⟩ _ D (by show D ≠ w.heap.size + 2; omega)).trans ((Below.heap_setCell _ ⟨w.heap.size + 2, 1, none⟩ _ D (by show D ≠ w.heap.size + 2; omega)).trans ((Below.heap_setCell _ ⟨w.heap.size + 2, 0, none⟩ _ D (by show D ≠ w.heap.size + 2; omega)).trans hdef))
    have hbf : Below w.heap.size w wf := by
      rw [hwf]
      exact bdrew (Below.setCell (p := ⟨w.heap.size + 2, 2, none⟩) (Below.setCell (p := ⟨w.heap.size + 2, 1, none⟩) (Below.setCell (p := ⟨w.heap.size + 2, 0, none⟩) HBW.out (by show _ ≤ w.heap.size + 2; omega) _) (by show _ ≤ w.heap.size + 2; omega) _) (by show _ ≤ w.heap.size + 2; omega) _) 1
    clear hwf
    have hro : rowV (wf.putObj D (.deferred none)) (w.heap.size + 2) 180 (tokV s.2) := (World.putObj_heap_other (by omega)).trans hrf
    have r0 : (wf.putObj D (.deferred none)).cell? ⟨w.heap.size + 2, 0, none⟩ = some (.int .i64 (s.2.len : Int)) := hro.cell rfl
    have r1 : (wf.putObj D (.deferred none)).cell? ⟨w.heap.size + 2, 1, none⟩ = some (.int .i64 (s.2.dst : Int)) := hro.cell rfl
    have r2 : (wf.putObj D (.deferred none)).cell? ⟨w.heap.size + 2, 2, none⟩ = some (.int .u8 (s.2.byt.toNat : Int)) := hro.cell rfl
    rw [← HS.out]
    refine .inr ⟨D, rfl, hdf, .tuple #[.agg (tokV s.2), .int .i64 s.1], ?_, rfl, hbf.grown (grownBy_putObj' _ D _) hbf.size (fun k e => by cases e; omega)⟩
    simp [results, Tryz.results217, go_sem, r0, r1, r2, tokV]
end Go.Proofs.YtohadkmaemmfgaaGreatDoor
namespace Go.Proofs.YtohadkmaemmfgaaGreatDoor
open Go.RowKit Go.Proofs
set_option linter.unusedVariables false
set_option linter.unusedSimpArgs false
def RowT (W : World) (g n : Nat) (l : List Tok) : Prop := l.length = n ∧ ∃ cur, W.heap[g]? = some (.cells cur 180 (0, 0)) ∧ cur.size = n * 3 ∧ ∀ i, i < n → cur[i * 3]? = some (.int .i64 ((tG l i).len : Int)) ∧ cur[i * 3 + 1]? = some (.int .i64 ((tG l i).dst : Int)) ∧ cur[i * 3 + 2]? = some (.int .u8 ((tG l i).byt.toNat : Int))
section
variable {w w' : World} {g n k : Nat} {l : List Tok}
theorem RowT.lt (h : RowT w g n l) : g < w.heap.size := by
  obtain ⟨-, cur, h1, -⟩ := h
  exact (Array.getElem?_eq_some_iff.1 h1).1
theorem RowT.keep (h : RowT w g n l) (he : w'.heap[g]? = w.heap[g]?) : RowT w' g n l := by
  obtain ⟨h0, cur, h1, h2⟩ := h
  exact ⟨h0, cur, he.trans h1, h2⟩
theorem RowT.cells (h : RowT w g n l) (hk : k < n) : w.cell? ⟨g, k * 3, none⟩ = some (.int .i64 ((tG l k).len : Int)) ∧ w.cell? ⟨g, k * 3 + 1, none⟩ = some (.int .i64 ((tG l k).dst : Int)) ∧ w.cell? ⟨g, k * 3 + 2, none⟩ = some (.int .u8 ((tG l k).byt.toNat : Int)) := by
  obtain ⟨h0, cur, h1, h2, h3⟩ := h
  obtain ⟨a, b, c⟩ := h3 k hk
  exact ⟨by simp [World.cell?, h1, a], by simp [World.cell?, h1, b], by simp [World.cell?, h1, c]⟩
theorem RowT.frozen (h : RowT w g n l) (j : Nat) : w.frozen? ⟨g, j, none⟩ = false := by
  obtain ⟨h0, cur, h1, h2⟩ := h
  simp [World.frozen?, h1]
theorem tG_set {t : Tok} {i : Nat} (hk : k < l.length) : tG (l.set k t) i = if k = i then t else tG l i := by
  unfold tG
  rw [List.getD_eq_getElem?_getD, List.getElem?_set]
  by_cases e : k = i
  · subst e; rw [if_pos rfl, if_pos hk, if_pos rfl]; rfl
  · rw [if_neg e, if_neg e, List.getD_eq_getElem?_getD]
theorem RowT.set (h : RowT w g n l) (hk : k < n) (t : Tok) : RowT (((w.setCell ⟨g, k * 3, none⟩ (.int .i64 (t.len : Int))).setCell ⟨g, k * 3 + 1, none⟩ (.int .i64 (t.dst : Int))).setCell ⟨g, k * 3 + 2, none⟩ (.int .u8 (t.byt.toNat : Int))) g n (l.set k t) := by
  obtain ⟨h0, cur, h1, h2, h3⟩ := h
  refine ⟨by rw [List.length_set]; exact h0, ((cur.setIfInBounds (k * 3) (.int .i64 (t.len : Int))).setIfInBounds (k * 3 + 1) (.int .i64 (t.dst : Int))).setIfInBounds (k * 3 + 2) (.int .u8 (t.byt.toNat : Int)), ?_, by simpa using h2, fun i hi => ?_⟩
  · simp [World.setCell, Array.getElem?_modify, h1]
  · obtain ⟨a, b, c⟩ := h3 i hi
    rw [tG_set (by omega)]
    simp only [Array.getElem?_setIfInBounds, Array.size_setIfInBounds]
    by_cases e : k = i
    · subst e
      have et : (if k = k then t else tG l k) = t := if_pos rfl
      rw [et]
      refine ⟨?_, ?_, ?_⟩
      · rw [if_neg (by omega), if_neg (by omega), if_pos rfl, if_pos (by omega)]
      · rw [if_neg (by omega), if_pos rfl, if_pos (by omega)]
      · rw [if_pos rfl, if_pos (by omega)]
    · rw [if_neg e]
      refine ⟨?_, ?_, ?_⟩
      · rw [if_neg (by omega), if_neg (by omega), if_neg (by omega)]; exact a
      · rw [if_neg (by omega), if_neg (by omega), if_neg (by omega)]; exact b
      · rw [if_neg (by omega), if_neg (by omega), if_neg (by omega)]; exact c
end
def zT (n : Nat) : Array Value := madeCells (Value.agg (tokV ⟨0, 0, 0⟩)).cells (n * 3)
theorem infoTk : (Tryz.prog.info? 180).map (fun i => (i.zero, i.size, i.bytes)) = some (some (.agg (tokV ⟨0, 0, 0⟩)), 3, 24) := by kernel_rfl
theorem uTks : Tryz.prog.underlying 106 = some (.slice 180) := by kernel_rfl
theorem run_make_tok (n : Nat) (hn : n ≤ 1000000) (W : World) : (Instr.makeSlice 106 (.int .i64 (n : Int)) (.int .i64 (n : Int))).run Tryz.prog W = .ok (.slice (some ⟨W.heap.size, 0, none⟩) n n) (W.alloc (.cells (zT n) 180)) := by
  obtain ⟨i, hi0, hz, hs, hby⟩ := info_parts infoTk
  rw [run_make W 106 180 i _ uTks hi0 hz .i64 .i64 n n (by omega) (Int.le_refl _) (by rw [hby]; omega) (by omega), hs]
  simp [zT]
theorem zT_row (w : World) (n : Nat) : RowT (w.alloc (.cells (zT n) 180)) w.heap.size n (List.replicate n ⟨0, 0, 0⟩) := by
  refine ⟨by simp, zT n, heap_alloc_new w _, ?_, fun i hi => ?_⟩
  · simp [zT, madeCells]
  · have e : tG (List.replicate n (⟨0, 0, 0⟩ : Tok)) i = ⟨0, 0, 0⟩ := by unfold tG; simp [List.getD, hi]
    rw [e]
    have hz : ∀ j, j < n * 3 → (zT n)[j]? = some ((tokV ⟨0, 0, 0⟩)[j % 3]!) := fun j hj => by
      unfold zT madeCells
      rw [Array.getElem?_map, Array.getElem?_range]
      simp [hj, tokV, Value.cells]
    rw [hz _ (by omega), hz _ (by omega), hz _ (by omega), show i * 3 % 3 = 0 by omega, show (i * 3 + 1) % 3 = 1 by omega, show (i * 3 + 2) % 3 = 2 by omega]
    exact ⟨rfl, rfl, rfl⟩
end Go.Proofs.YtohadkmaemmfgaaGreatDoor

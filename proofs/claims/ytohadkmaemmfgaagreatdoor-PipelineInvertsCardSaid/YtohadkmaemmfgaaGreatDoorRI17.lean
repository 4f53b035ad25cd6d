/- Ne Nf Ng Nh Ni Ok. -/
import Derived.Test.YtohadkmaemmfgaaGreatDoorRI12
import Derived.Test.YtohadkmaemmfgaaGreatDoorRI16
import Derived.Laws.CopyOwn
set_option maxRecDepth 100000
set_option maxHeartbeats 4000000
namespace Go.Proofs.YtohadkmaemmfgaaGreatDoor
open Go.RowKit Go.Proofs
set_option linter.unusedVariables false
set_option linter.unusedSimpArgs false
attribute [local go_sem] Oper.semAt_some
theorem wp_rangeFunc_rowA {P : Program} {g : Operand} {ps : Array Tmp} {assign body : Code} {Q : Exit → Act → World → Prop} {a : Act} {w : World}
    {gf : Nat} {lb : Array Value} (hg : a.eval g = .func (.func gf) #[] lb) (eg : ∀ args w, (callFunc gf args).run P w = .ok (.enter gf args) w)
    {row : Nat → Array Value} {len : Nat} {Ab Kp : World → World → Prop} {Pre : World → Prop} (hseq : Gives P gf lb row len Ab Kp Pre)
    (hPre : ∀ o1 o2, Pre ((w.alloc o1).alloc o2)) (hAb : ∀ A B, Ab A B → KeepsFrom w.heap.size A B)
    (hKt : ∀ {A B C : World}, Kp A B → Kp B C → Kp A C) (hKb : ∀ (W : World) (l : Nat) (o o' : Obj), w.heap.size ≤ l → W.heap[l]? = some o → o.isCells = false → Kp W (W.putObj l o'))
    (hps : ∀ k, (row k).size = ps.size)
    (I : Nat → World → Prop) (Ix : Code → Nat → World → Prop) (hI : OwnFrom w.heap.size I) (hIx : ∀ c, OwnFrom w.heap.size (Ix c))
    (hIA : ∀ k A B, I k A → Ab A B → I k B) (hIxA : ∀ c k A B, Ix c k A → Ab A B → Ix c k B) (h0 : I 0 w) (I1 : Nat → Act → World → Prop) (hI1 : ∀ a₁, OwnFrom w.heap.size (fun k => I1 k a₁))
    (hassign : ∀ (l k : Nat) (W : World) (K : Act → World → Prop), k < len → w.heap.size ≤ l → I k W → (∀ a₁ W₁, I1 k a₁ W₁ → KeepsFrom w.heap.size W W₁ → Kp W W₁ → K a₁ W₁) →
      assign.wpIn (Fence.wide.inRound l) 7 P (Exit.then K (fun _ _ _ => False)) { tmps := (ps.zip (row k)).foldl (fun t (p, v) => t.setIfInBounds p v) a.tmps, defers := [] } W)
    (hbody : ∀ (l k : Nat) (a₁ : Act) (W : World), k < len → w.heap.size ≤ l → I1 k a₁ W → body.wpIn (Fence.wide.inRound l) 7 P (roundEnd w.heap.size Kp I Ix (k + 1) W) a₁ W)
    (hdone : ∀ (D : Nat) (W : World), w.heap.size ≤ D → I len W → W.heap[D]? = some (.deferred (some [])) → Q .normal { a with defers := { target := .collected D, args := #[] } :: a.defers } W)
    (hstop : ∀ (D : Nat) (c : Code) (k : Nat) (W : World), w.heap.size ≤ D → k ≤ len → Ix c k W → W.heap[D]? = some (.deferred (some [])) → c.wp P Q { a with defers := { target := .collected D, args := #[] } :: a.defers } W) :
    (Code.rangeFunc g ps assign body).wp P Q a w := by
  refine (wpIn_wide (n := 9)).1 (wpIn_rangeFunc fun fn hfn => ?_)
  let rec' : LoopState → Option Code → Obj := fun st pe => .loop { state := st, pending := pe, fn, tmps := a.tmps, params := ps, assign, body, defers := w.heap.size }
  have hsz : ((w.alloc (.deferred (some []))).alloc (rec' .ready none)).heap.size = w.heap.size + 2 := by simp
  have hL1 : ((w.alloc (.deferred (some []))).alloc (rec' .ready none)).heap[w.heap.size + 1]? = some (rec' .ready none) := by
    have := World.alloc_heap_new (w.alloc (.deferred (some []))) (rec' .ready none); rwa [World.size_alloc] at this
  have hD1 : ((w.alloc (.deferred (some []))).alloc (rec' .ready none)).heap[w.heap.size]? = some (.deferred (some [])) :=
    (Below.heap_alloc _ _ _ (by simp)).trans (World.alloc_heap_new w _)
  refine ⟨w.heap.size + 1, [{ target := .collected w.heap.size, args := #[] }], ((w.alloc (.deferred (some []))).alloc (rec' .ready none)), { target := .fn (.func gf) lb, args := #[.func (.yield (w.heap.size + 1)) #[] #[]] }, ((w.alloc (.deferred (some []))).alloc (rec' .ready none)), gf,
    #[.func (.yield (w.heap.size + 1)) #[] #[]] ++ lb, ((w.alloc (.deferred (some []))).alloc (rec' .ready none)), run_enterLoop_outer _ _ _ _ _, ?_, fun _ _ => trivial, ?_, fun _ => by decide, ?_⟩
  · simp only [resolve, hg]
    simp [go_sem]
  · simp [invoke, go_sem, eg]
  have keep : ∀ {A B : World}, KeepsFrom w.heap.size A B → ∀ {st pe}, A.heap[w.heap.size + 1]? = some (rec' st pe) → B.heap[w.heap.size + 1]? = some (rec' st pe) := fun h _ _ hl => h.same _ _ (by omega) hl rfl
  have keepD : ∀ {A B : World}, KeepsFrom w.heap.size A B → A.heap[w.heap.size]? = some (.deferred (some [])) → B.heap[w.heap.size]? = some (.deferred (some [])) := fun h hl => h.same _ _ (Nat.le_refl _) hl rfl
  refine (hseq (w.heap.size + 1)
    (fun k W => I k W ∧ W.heap[w.heap.size + 1]? = some (rec' .ready none) ∧ W.heap[w.heap.size]? = some (.deferred (some [])))
    (fun k W => ∃ c, Ix c k W ∧ W.heap[w.heap.size + 1]? = some (rec' .done (some c)) ∧ W.heap[w.heap.size]? = some (.deferred (some [])))
    _ (hPre _ _)
    (fun k A B h hab => ⟨hIA k A B h.1 hab, keep (hAb A B hab) h.2.1, keepD (hAb A B hab) h.2.2⟩)
    (fun k A B h hab => by obtain ⟨c, h1, h2, h3⟩ := h; exact ⟨c, hIxA c k A B h1 hab, keep (hAb A B hab) h2, keepD (hAb A B hab) h3⟩)
    ?_ ⟨hI.alloc _ (hI.alloc _ h0), hL1, hD1⟩).mono ?_
  · rintro k W hk ⟨hi, hl, hd⟩
    refine ⟨fn, _, assign, body, run_yield hl (hps k), roundIn_of_wpIn hfn (hassign _ k W _ hk (by omega) hi fun a₁ W₁ hi1 hkf hkp => ?_)⟩
    replace hl := keep hkf hl
    replace hd := keepD hkf hd
    refine ⟨_, run_beginRound hl rfl, ?_⟩
    have hlt : w.heap.size + 1 < W₁.heap.size := (Array.getElem?_eq_some_iff.1 hl).1
    have hl2 : (W₁.putObj (w.heap.size + 1) (rec' .busy none)).heap[w.heap.size + 1]? = some (rec' .busy none) := World.putObj_heap_same hlt
    have hd2 : (W₁.putObj (w.heap.size + 1) (rec' .busy none)).heap[w.heap.size]? = some (.deferred (some [])) := (World.putObj_heap_other (by omega)).trans hd
    refine wpIn_mono (hbody _ k a₁ (W₁.putObj (w.heap.size + 1) (rec' .busy none)) hk (by omega) ((hI1 a₁).putObj _ hi1 (by omega) hl rfl)) ?_
    have fin : ∀ (jump : Option Code) (W3 : World), KeepsFrom w.heap.size (W₁.putObj (w.heap.size + 1) (rec' .busy none)) W3 →
        W3.heap[w.heap.size + 1]? = some (rec' .busy none) ∧ (Instr.endRound (w.heap.size + 1) jump).run P W3 = .ok (.bool jump.isNone) (W3.putObj (w.heap.size + 1) (rec' (if jump.isNone then .ready else .done) jump)) ∧
        (W3.putObj (w.heap.size + 1) (rec' (if jump.isNone then .ready else .done) jump)).heap[w.heap.size + 1]? = some (rec' (if jump.isNone then .ready else .done) jump) ∧
        (W3.putObj (w.heap.size + 1) (rec' (if jump.isNone then .ready else .done) jump)).heap[w.heap.size]? = some (.deferred (some [])) := fun jump W3 h3 => by
      have hl3 := keep h3 hl2
      exact ⟨hl3, run_endRound jump hl3, World.putObj_heap_same (Array.getElem?_eq_some_iff.1 hl3).1, (World.putObj_heap_other (by omega)).trans (keepD h3 hd2)⟩
    rintro e a3 W3 hp
    cases e with
    | normal =>
      obtain ⟨h1, h2, h3⟩ := hp
      obtain ⟨f1, f2, f3, f4⟩ := fin none W3 h1
      exact ⟨_, _, f2, .inl ⟨rfl, ⟨hI.putObj _ h3 (by omega) f1 rfl, f3, f4⟩, hKt hkp (hKt (hKb _ _ _ _ (by omega) hl rfl) (hKt h2 (hKb _ _ _ _ (by omega) f1 rfl)))⟩⟩
    | ret =>
      obtain ⟨h1, h3⟩ := hp
      obtain ⟨f1, f2, f3, f4⟩ := fin (some .ret) W3 h1
      exact ⟨_, _, f2, .inr ⟨rfl, _, (hIx _).putObj _ h3 (by omega) f1 rfl, f3, f4⟩⟩
    | exit id =>
      obtain ⟨h1, h3⟩ := hp
      obtain ⟨f1, f2, f3, f4⟩ := fin (some (.exit id)) W3 h1
      exact ⟨_, _, f2, .inr ⟨rfl, _, (hIx _).putObj _ h3 (by omega) f1 rfl, f3, f4⟩⟩
    | goto t =>
      obtain ⟨h1, h3⟩ := hp
      obtain ⟨f1, f2, f3, f4⟩ := fin (some (.goto t)) W3 h1
      exact ⟨_, _, f2, .inr ⟨rfl, _, (hIx _).putObj _ h3 (by omega) f1 rfl, f3, f4⟩⟩
    | panic ch => exact hp.elim
    | outgrown => exact hp.elim
  · rintro e W2 ⟨⟨v, rfl⟩, (⟨hi, hl, hd⟩ | ⟨k, hk, c, hi, hl, hd⟩)⟩
    · exact ⟨none, _, run_endLoop hl (by simp), hdone _ _ (Nat.le_refl _) (hI.putObj _ hi (by omega) hl rfl) ((World.putObj_heap_other (by omega)).trans hd)⟩
    · exact ⟨some c, _, run_endLoop hl (by simp), wpIn_wide.2 (hstop _ c k _ (Nat.le_refl _) hk ((hIx c).putObj _ hi (by omega) hl rfl) ((World.putObj_heap_other (by omega)).trans hd))⟩
section
variable {P : Program} {Q : Exit → Act → World → Prop} {m l0 : Nat} {ops : Array Oper} {rest : List Oper} {o : Oper} {a : Act} {w : World}
end
theorem tokV_all (t : Tok) : (tokV t).all (·.oneCell') = true := by simp [tokV, Value.oneCell']
theorem tokV_info (t : Tok) : (Tryz.prog.info? 180).map (·.size) = some (tokV t).size := by show _ = some 3; kernel_rfl
theorem tG_mem {l : List Tok} {k : Nat} (h : k < l.length) : tG l k ∈ l := by
  unfold tG; rw [List.getD_eq_getElem?_getD, List.getElem?_eq_getElem h]; exact List.getElem_mem h
def bestFx (w : World) (at_ : Nat) (Q : Option Addr) (np cp : Nat) (A : Option Addr) (n c : Nat) : List (Nat × Obj) :=
  [(w.heap.size, .cells #[.int .i64 (at_ : Int)] 3), (w.heap.size + 1, .cells #[.slice Q np cp] 52), (w.heap.size + 2, .cells (tokV ⟨0, 0, 0⟩) 180), (w.heap.size + 5, .cells #[.slice A n c] 23), (w.heap.size + 6, .cells #[.int .i64 (at_ : Int)] 3)]
structure BestI (w : World) (at_ : Nat) (Q : Option Addr) (np cp : Nat) (A : Option Addr) (n c : Nat) (s : Int × Tok) (W : World) : Prop where
  fix : ∀ p ∈ bestFx w at_ Q np cp A n c, W.heap[p.1]? = some p.2
  tok : rowV W (w.heap.size + 3) 180 (tokV s.2)
  lst : rowV W (w.heap.size + 4) 3 #[.int .i64 s.1]
  below : Below w.heap.size w W
  size : w.heap.size + 7 ≤ W.heap.size
section
variable {w W W' : World} {at_ np cp n c : Nat} {Q A : Option Addr} {s : Int × Tok}
theorem bestFx_lt : ∀ p ∈ bestFx w at_ Q np cp A n c, p.1 < w.heap.size + 7 ∧ p.1 ≠ w.heap.size + 3 ∧ p.1 ≠ w.heap.size + 4 := by
  intro p hp
  simp only [bestFx, List.mem_cons, List.not_mem_nil, or_false] at hp
  rcases hp with rfl | rfl | rfl | rfl | rfl <;> simp <;> omega
theorem BestI.kept {row : Option Nat} (h : BestI w at_ Q np cp A n c s W) (hg : W.grownBy W' row) (hrow : ∀ r, row = some r → w.heap.size + 7 ≤ r) : BestI w at_ Q np cp A n c s W' := by
  obtain ⟨h1, h2, h3, h4, h5⟩ := h
  have ne : ∀ j, j < w.heap.size + 7 → some j ≠ row := fun j hj e => by have := hrow j e.symm; omega
  exact ⟨fun p hp => (hg.block p.1 (by have := (bestFx_lt p hp).1; omega) (ne _ (bestFx_lt p hp).1)).trans (h1 p hp), (hg.block _ (by omega) (ne _ (by omega))).trans h2, (hg.block _ (by omega) (ne _ (by omega))).trans h3,
    h4.grown hg h4.size (fun r e => by have := hrow r e; omega), Nat.le_trans h5 hg.size⟩
theorem BestI.grow (h : BestI w at_ Q np cp A n c s W) (hb : Below W.heap.size W W') : BestI w at_ Q np cp A n c s W' := by
  obtain ⟨h1, h2, h3, h4, h5⟩ := h
  exact ⟨fun p hp => (hb.block p.1 (by have := (bestFx_lt p hp).1; omega)).trans (h1 p hp), (hb.block _ (by omega)).trans h2, (hb.block _ (by omega)).trans h3, h4.trans (hb.mono (by omega)), by have := hb.size; omega⟩
end
end Go.Proofs.YtohadkmaemmfgaaGreatDoor
namespace Go.Proofs.YtohadkmaemmfgaaGreatDoor
open Go.RowKit Go.Proofs
set_option linter.unusedVariables false
set_option linter.unusedSimpArgs false
attribute [local go_sem] Oper.semAt_some
end Go.Proofs.YtohadkmaemmfgaaGreatDoor
namespace Go.Proofs.YtohadkmaemmfgaaGreatDoor
open Go.RowKit Go.Proofs
set_option linter.unusedVariables false
set_option linter.unusedSimpArgs false
def RowT (W : World) (g n : Nat) (l : List Tok) : Prop := l.length = n ∧ ∃ cur, W.heap[g]? = some (.cells cur 180 (0, 0)) ∧ cur.size = n * 3 ∧ ∀ i, i < n → cur[i * 3]? = some (.int .i64 ((tG l i).len : Int)) ∧ cur[i * 3 + 1]? = some (.int .i64 ((tG l i).dst : Int)) ∧ cur[i * 3 + 2]? = some (.int .u8 ((tG l i).byt.toNat : Int))
section
variable {w w' : World} {g n k : Nat} {l : List Tok}
theorem RowT.lt (h : RowT w g n l) : g < w.heap.size := by
  obtain ⟨-, cur, h1, -⟩ := h
  exact (Array.getElem?_eq_some_iff.1 h1).1
theorem RowT.keep (h : RowT w g n l) (he : w'.heap[g]? = w.heap[g]?) : RowT w' g n l := by
  obtain ⟨h0, cur, h1, h2⟩ := h
  exact ⟨h0, cur, he.trans h1, h2⟩
theorem RowT.cells (h : RowT w g n l) (hk : k < n) : w.cell? ⟨g, k * 3, none⟩ = some (.int .i64 ((tG l k).len : Int)) ∧ w.cell? ⟨g, k * 3 + 1, none⟩ = some (.int .i64 ((tG l k).dst : Int)) ∧ w.cell? ⟨g, k * 3 + 2, none⟩ = some (.int .u8 ((tG l k).byt.toNat : Int)) := by
  obtain ⟨h0, cur, h1, h2, h3⟩ := h
  obtain ⟨a, b, c⟩ := h3 k hk
  exact ⟨by simp [World.cell?, h1, a], by simp [World.cell?, h1, b], by simp [World.cell?, h1, c]⟩
theorem RowT.frozen (h : RowT w g n l) (j : Nat) : w.frozen? ⟨g, j, none⟩ = false := by
  obtain ⟨h0, cur, h1, h2⟩ := h
  simp [World.frozen?, h1]
theorem tG_set {t : Tok} {i : Nat} (hk : k < l.length) : tG (l.set k t) i = if k = i then t else tG l i := by
  unfold tG
  rw [List.getD_eq_getElem?_getD, List.getElem?_set]
  by_cases e : k = i
  · subst e; rw [if_pos rfl, if_pos hk, if_pos rfl]; rfl
  · rw [if_neg e, if_neg e, List.getD_eq_getElem?_getD]
theorem RowT.set (h : RowT w g n l) (hk : k < n) (t : Tok) : RowT (((w.setCell ⟨g, k * 3, none⟩ (.int .i64 (t.len : Int))).setCell ⟨g, k * 3 + 1, none⟩ (.int .i64 (t.dst : Int))).setCell ⟨g, k * 3 + 2, none⟩ (.int .u8 (t.byt.toNat : Int))) g n (l.set k t) := by
  obtain ⟨h0, cur, h1, h2, h3⟩ := h
  refine ⟨by rw [List.length_set]; exact h0, ((cur.setIfInBounds (k * 3) (.int .i64 (t.len : Int))).setIfInBounds (k * 3 + 1) (.int .i64 (t.dst : Int))).setIfInBounds (k * 3 + 2) (.int .u8 (t.byt.toNat : Int)), ?_, by simpa using h2, fun i hi => ?_⟩
  · simp [World.setCell, Array.getElem?_modify, h1]
  · obtain ⟨a, b, c⟩ := h3 i hi
    rw [tG_set (by omega)]
    simp only [Array.getElem?_setIfInBounds, Array.size_setIfInBounds]
    by_cases e : k = i
    · subst e
      have et : (if k = k then t else tG l k) = t := if_pos rfl
      rw [et]
      refine ⟨?_, ?_, ?_⟩
      · rw [if_neg (by omega), if_neg (by omega), if_pos rfl, if_pos (by omega)]
      · rw [if_neg (by omega), if_pos rfl, if_pos (by omega)]
      · rw [if_pos rfl, if_pos (by omega)]
    · rw [if_neg e]
      refine ⟨?_, ?_, ?_⟩
      · rw [if_neg (by omega), if_neg (by omega), if_neg (by omega)]; exact a
      · rw [if_neg (by omega), if_neg (by omega), if_neg (by omega)]; exact b
      · rw [if_neg (by omega), if_neg (by omega), if_neg (by omega)]; exact c
end
theorem infoTk : (Tryz.prog.info? 180).map (fun i => (i.zero, i.size, i.bytes)) = some (some (.agg (tokV ⟨0, 0, 0⟩)), 3, 24) := by kernel_rfl
theorem uTks : Tryz.prog.underlying 106 = some (.slice 180) := by kernel_rfl

def tokL (t : Tok) : List Value := [.int .i64 (t.len : Int), .int .i64 (t.dst : Int), .int .u8 (t.byt.toNat : Int)]
theorem tokL_one : ∀ (x : Tok), ∀ u ∈ tokL x, u.oneCell' = true := by
  intro x u hu
  simp only [tokL, List.mem_cons, List.not_mem_nil, or_false] at hu
  rcases hu with rfl | rfl | rfl <;> rfl
theorem tokZ_size : (Value.agg (tokV ⟨0, 0, 0⟩)).cells.size = 3 := rfl
abbrev OwnK (w : World) (B : Nat) (A : Option Addr) (n c : Nat) (l : List Tok) : Prop := OwnS tokL 3 w B 180 A n c l
end Go.Proofs.YtohadkmaemmfgaaGreatDoor
namespace Go.Proofs.YtohadkmaemmfgaaGreatDoor
open Go.RowKit Go.Proofs
set_option linter.unusedVariables false
theorem wp_rangeFunc_rowM {P : Program} {g : Operand} {ps : Array Tmp} {assign body : Code} {Q : Exit → Act → World → Prop} {a : Act} {w : World}
    {gf : Nat} {lb : Array Value} (hg : a.eval g = .func (.func gf) #[] lb) (eg : ∀ args w, (callFunc gf args).run P w = .ok (.enter gf args) w)
    {row : Nat → Array Value} {len : Nat} {Ab Kp : World → World → Prop} {Pre : World → Prop} (hseq : Gives P gf lb row len Ab Kp Pre)
    (hPre : ∀ o1 o2, Pre ((w.alloc o1).alloc o2)) (hAb : ∀ A B, Ab A B → KeepsFrom w.heap.size A B)
    (hKt : ∀ {A B C : World}, Kp A B → Kp B C → Kp A C) (hKb : ∀ (W : World) (l : Nat) (o o' : Obj), w.heap.size ≤ l → W.heap[l]? = some o → o.isCells = false → Kp W (W.putObj l o')) (hKa : ∀ (W : World) (o : Obj), w.heap.size ≤ W.heap.size → Kp W (W.alloc o))
    (hps : ∀ k, (row k).size = ps.size)
    (I : Nat → World → Prop) (Ix : Code → Nat → World → Prop) (hI : OwnFrom w.heap.size I) (hIx : ∀ c, OwnFrom w.heap.size (Ix c))
    (hIA : ∀ k A B, I k A → Ab A B → I k B) (hIxA : ∀ c k A B, Ix c k A → Ab A B → Ix c k B) (h0 : I 0 w) (a₁ : Nat → Nat → Act) (ob : Nat → Obj)
    (hassign : ∀ (l k : Nat) (W : World) (K : Act → World → Prop), K (a₁ k W.heap.size) (W.alloc (ob k)) →
      assign.wpIn (Fence.wide.inRound l) 7 P (Exit.then K (fun _ _ _ => False)) { tmps := (ps.zip (row k)).foldl (fun t (p, v) => t.setIfInBounds p v) a.tmps, defers := [] } W)
    (hbody : ∀ (l k d : Nat) (W : World), k < len → w.heap.size ≤ l → w.heap.size ≤ d → I k W → W.heap[d]? = some (ob k) → body.wpIn (Fence.wide.inRound l) 7 P (roundEnd w.heap.size Kp I Ix (k + 1) W) (a₁ k d) W)
    (hdone : ∀ (D : Nat) (W : World), w.heap.size ≤ D → I len W → W.heap[D]? = some (.deferred (some [])) → Q .normal { a with defers := { target := .collected D, args := #[] } :: a.defers } W)
    (hstop : ∀ (D : Nat) (c : Code) (k : Nat) (W : World), w.heap.size ≤ D → k ≤ len → Ix c k W → W.heap[D]? = some (.deferred (some [])) → c.wp P Q { a with defers := { target := .collected D, args := #[] } :: a.defers } W)
    (hob : ∀ k, (ob k).isCells = true) (hIs : ∀ k W, I k W → w.heap.size ≤ W.heap.size) : (Code.rangeFunc g ps assign body).wp P Q a w := by
  have hcell : ∀ k d, OwnFrom w.heap.size (fun (_ : Nat) W => W.heap[d]? = some (ob k)) := fun k d s W W' row h hg hr => by
    refine (hg.block d (Array.getElem?_eq_some_iff.1 h).1 fun e => ?_).trans h
    obtain ⟨-, o, h1, h2⟩ := hr d e.symm
    rw [h] at h1
    injection h1 with h1
    rw [← h1, hob k] at h2
    cases h2
  refine wp_rangeFunc_rowA hg eg hseq hPre hAb hKt hKb hps I Ix hI hIx hIA hIxA h0 (fun k a' W => ∃ d, a' = a₁ k d ∧ w.heap.size ≤ d ∧ I k W ∧ W.heap[d]? = some (ob k)) (fun a' s W W' row h hg hr => ?_) ?_ ?_ hdone hstop
  · obtain ⟨d, h1, h2, h3, h4⟩ := h
    exact ⟨d, h1, h2, hI s W W' row h3 hg hr, hcell s d s W W' row h4 hg hr⟩
  · intro l k W K hk hl hi hK
    exact hassign l k W K (hK _ _ ⟨W.heap.size, rfl, hIs k W hi, hI.alloc _ hi, World.alloc_heap_new W _⟩ ⟨by simp, fun j o _ hj _ => (Below.heap_alloc W _ j (Array.getElem?_eq_some_iff.1 hj).1).trans hj⟩ (hKa W _ (hIs k W hi)))
  · rintro l k a' W hk hl ⟨d, rfl, h2, h3, h4⟩
    exact hbody l k d W hk hl h2 h3 h4
theorem wp_rangeFunc_rowM2 {P : Program} {g : Operand} {p1 p2 : Tmp} {assign body : Code} {Q : Exit → Act → World → Prop} {a : Act} {w : World}
    {gf : Nat} {lb : Array Value} (hg : a.eval g = .func (.func gf) #[] lb) (eg : ∀ args w, (callFunc gf args).run P w = .ok (.enter gf args) w)
    {u v : Nat → Value} {len : Nat} {Ab Kp : World → World → Prop} {Pre : World → Prop} (hseq : Gives P gf lb (fun k => #[u k, v k]) len Ab Kp Pre)
    (hPre : ∀ o1 o2, Pre ((w.alloc o1).alloc o2)) (hAb : ∀ A B, Ab A B → KeepsFrom w.heap.size A B)
    (hKt : ∀ {A B C : World}, Kp A B → Kp B C → Kp A C) (hKb : ∀ (W : World) (l : Nat) (o o' : Obj), w.heap.size ≤ l → W.heap[l]? = some o → o.isCells = false → Kp W (W.putObj l o')) (hKa : ∀ (W : World) (o : Obj), w.heap.size ≤ W.heap.size → Kp W (W.alloc o))
    (I : Nat → World → Prop) (Ix : Code → Nat → World → Prop) (hI : OwnFrom w.heap.size I) (hIx : ∀ c, OwnFrom w.heap.size (Ix c))
    (hIA : ∀ k A B, I k A → Ab A B → I k B) (hIxA : ∀ c k A B, Ix c k A → Ab A B → Ix c k B) (h0 : I 0 w) (G : Nat → Value → Value → Array Value → Array Value) (ob : Nat → Obj)
    (hassign : ∀ (l k : Nat) (W : World) (K : Act → World → Prop), K { tmps := G W.heap.size (u k) (v k) a.tmps, defers := [] } (W.alloc (ob k)) →
      assign.wpIn (Fence.wide.inRound l) 7 P (Exit.then K (fun _ _ _ => False)) { tmps := (a.tmps.setIfInBounds p1 (u k)).setIfInBounds p2 (v k), defers := [] } W)
    (hbody : ∀ (l k d : Nat) (W : World), k < len → w.heap.size ≤ l → w.heap.size ≤ d → I k W → W.heap[d]? = some (ob k) → body.wpIn (Fence.wide.inRound l) 7 P (roundEnd w.heap.size Kp I Ix (k + 1) W) { tmps := G d (u k) (v k) a.tmps, defers := [] } W)
    (hdone : ∀ (D : Nat) (W : World), w.heap.size ≤ D → I len W → W.heap[D]? = some (.deferred (some [])) → Q .normal { a with defers := { target := .collected D, args := #[] } :: a.defers } W)
    (hstop : ∀ (D : Nat) (c : Code) (k : Nat) (W : World), w.heap.size ≤ D → k ≤ len → Ix c k W → W.heap[D]? = some (.deferred (some [])) → c.wp P Q { a with defers := { target := .collected D, args := #[] } :: a.defers } W)
    (hob : ∀ k, (ob k).isCells = true) (hIs : ∀ k W, I k W → w.heap.size ≤ W.heap.size) : (Code.rangeFunc g #[p1, p2] assign body).wp P Q a w :=
  wp_rangeFunc_rowM hg eg hseq hPre hAb hKt hKb hKa (fun _ => rfl) I Ix hI hIx hIA hIxA h0 (fun k d => { tmps := G d (u k) (v k) a.tmps, defers := [] }) ob
    (fun l k W K hK => by
      have e : (#[p1, p2] : Array Tmp).zip #[u k, v k] = #[(p1, u k), (p2, v k)] := by simp
      simp only [e]
      exact hassign l k W K hK) hbody hdone hstop hob hIs
end Go.Proofs.YtohadkmaemmfgaaGreatDoor

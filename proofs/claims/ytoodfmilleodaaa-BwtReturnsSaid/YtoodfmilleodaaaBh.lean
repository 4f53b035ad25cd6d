/- inverse of layer 33. -/
import Derived.Test.YtoodfmilleodaaaBg
namespace Go.Proofs.Ytoodfmilleodaaa
open Go.RowKit Go.Proofs Go.Shelf
set_option linter.unusedVariables false
attribute [local go_sem] Oper.semAt_some

/-- between two rounds: the rows' box at S, the output's box at S + 2. -/
structure InvI (w : World) (A : Option Addr) (n c p : Nat) (bs : List UInt8) (k : Nat) (W : World) : Prop where
  box : BoxR W w.heap.size A n c p
  box2 : BoxR W (w.heap.size + 3) A n c p
  out : ∃ A2 c2, Boxed W (w.heap.size + 2) 22 (.slice A2 k c2) ∧ Own encB W (w.heap.size + 1) 5 A2 k c2 (backTo p bs k)
  below : Below w.heap.size w W
  size : w.heap.size + 4 ≤ W.heap.size
section
variable {w W W' : World} {A : Option Addr} {n c p : Nat} {bs : List UInt8} {k : Nat}
theorem InvI.kept {row : Option Nat} (h : InvI w A n c p bs k W) (hg : W.grownBy W' row) (hrow : ∀ r, row = some r → w.heap.size + 4 ≤ r) (hc : ∀ r o, row = some r → W.heap[r]? = some o → o.isCells = false) : InvI w A n c p bs k W' := by
  obtain ⟨h1, h2, ⟨A2, c2, h3, h4⟩, h5, h6⟩ := h
  have ne : ∀ j, j < w.heap.size + 4 → some j ≠ row := fun j hj e => by have := hrow j e.symm; omega
  refine ⟨h1.grown hg (ne _ (by omega)), h2.grown hg (ne _ (by omega)), ⟨A2, c2, h3.kept hg (ne _ (by omega)), h4.keep fun g o hB ho hcell => ?_⟩, h5.grown hg h5.size (fun r e => by have := hrow r e; omega), Nat.le_trans h6 hg.size⟩
  refine (hg.block g (Array.getElem?_eq_some_iff.1 ho).1 (fun e => ?_)).trans ho
  have := hc g o e.symm ho
  rw [hcell] at this
  cases this
theorem InvI.grow (h : InvI w A n c p bs k W) (hg : Below W.heap.size W W') : InvI w A n c p bs k W' := by
  obtain ⟨h1, h2, ⟨A2, c2, h3, h4⟩, h5, h6⟩ := h
  exact ⟨h1.below hg h1.lt, h2.below hg h2.lt, ⟨A2, c2, Boxed.below' h3 hg (Boxed.lt h3), h4.below hg⟩, h5.trans (hg.mono h5.size), Nat.le_trans h6 hg.size⟩
theorem InvI.step {W1 W6 : World} {A2 A6 : Option Addr} {c2 c6 : Nat} (h : InvI w A n c p bs k W) (hb : Below W.heap.size W W1) (hob : Boxed W (w.heap.size + 2) 22 (.slice A2 k c2)) (hown : Own encB W (w.heap.size + 1) 5 A2 k c2 (backTo p bs k))
    (hg : W1.grownBy W6 (Value.slice A2 k c2).ownBlock) (ho : Own encB W6 (w.heap.size + 1) 5 A6 (k + 1) c6 (backTo p bs (k + 1))) :
    KeepsFrom (w.heap.size + 4) W (W6.setCell ⟨w.heap.size + 2, 0, none⟩ (.slice A6 (k + 1) c6)) ∧ walkKp w.heap.size (w.heap.size + 3) W (W6.setCell ⟨w.heap.size + 2, 0, none⟩ (.slice A6 (k + 1) c6)) ∧ InvI w A n c p bs (k + 1) (W6.setCell ⟨w.heap.size + 2, 0, none⟩ (.slice A6 (k + 1) c6)) := by
  have hsz := h.size
  have hsw : (W6.setCell ⟨w.heap.size + 2, 0, none⟩ (.slice A6 (k + 1) c6)).heap.size = W6.heap.size := by simp [World.setCell]
  have s1 := hb.size
  have s6 := hg.size
  -- a block of W that is neither the output's box nor a row of bytes stays
  have keep : ∀ (j : Nat) (o : Obj), W.heap[j]? = some o → j ≠ w.heap.size + 2 → (∀ cur, o ≠ .cells cur 5 (0, 0)) → (W6.setCell ⟨w.heap.size + 2, 0, none⟩ (.slice A6 (k + 1) c6)).heap[j]? = some o := fun j o hj hne hno => by
    have hlt := (Array.getElem?_eq_some_iff.1 hj).1
    refine (Below.heap_setCell W6 ⟨w.heap.size + 2, 0, none⟩ _ j hne).trans ((hg.block j (by omega) (fun e => ?_)).trans ((hb.block j hlt).trans hj))
    obtain ⟨_, cur, hc⟩ := Own.type hown e.symm
    rw [hj] at hc
    injection hc with hc
    exact hno cur hc
  have hbel : Below w.heap.size W (W6.setCell ⟨w.heap.size + 2, 0, none⟩ (.slice A6 (k + 1) c6)) := by
    refine Below.setCell (p := ⟨w.heap.size + 2, 0, none⟩) ?_ (by show _ ≤ w.heap.size + 2; omega) _
    exact (hb.mono (by omega)).grown hg (by omega) (fun r e => by have := (Own.type hown e).1; omega)
  have hW3 : w.heap.size + 3 < W.heap.size := by omega
  refine ⟨⟨by rw [hsw]; omega, fun j o hj ho' hno => keep j o ho' (by omega) (fun cur e => by rw [e] at hno; cases hno)⟩, ⟨?_, hbel, fun g cs fr hgc => ?_⟩, ?_, ?_, ?_, h.below.trans hbel, by rw [hsw]; omega⟩
  · rw [show W.heap[w.heap.size + 3]? = _ from h.box2]
    exact keep _ _ h.box2 (by omega) (fun cur e => by injection e with _ e; exact absurd e (by decide))
  · rw [hgc]
    exact keep g _ hgc (fun e => by rw [e] at hgc; unfold Boxed at hob; rw [hob] at hgc; injection hgc with hgc; injection hgc with _ hgc; exact absurd hgc (by decide)) (fun cur e => by injection e with _ e; exact absurd e (by decide))
  · exact keep _ _ h.box (by omega) (fun cur e => by injection e with _ e; exact absurd e (by decide))
  · exact keep _ _ h.box2 (by omega) (fun cur e => by injection e with _ e; exact absurd e (by decide))
  · have hb6 : Boxed W6 (w.heap.size + 2) 22 (.slice A2 k c2) := by
      refine (hg.block _ (by omega) (fun e => ?_)).trans (Boxed.below' hob hb (by omega))
      obtain ⟨_, cur, hc⟩ := Own.type hown e.symm
      unfold Boxed at hob
      rw [hob] at hc
      injection hc with hc
      injection hc with _ hc
      exact absurd hc (by decide)
    refine ⟨A6, c6, hb6.set _, Own.keepT ho fun g cur hB hgo => (Below.heap_setCell W6 ⟨w.heap.size + 2, 0, none⟩ _ g (fun e => ?_)).trans hgo⟩
    have e' : g = w.heap.size + 2 := e
    rw [e'] at hgo
    unfold Boxed at hb6
    rw [hb6] at hgo
    injection hgo with hgo
    injection hgo with _ hgo
    exact absurd hgo (by decide)
end

theorem wp_rangeFunc_row1 {P : Program} {g : Operand} {p1 : Tmp} {assign body : Code} {Q : Exit → Act → World → Prop} {a : Act} {w : World}
    {gf : Nat} {lb : Array Value} (hg : a.eval g = .func (.func gf) #[] lb) (eg : ∀ args w, (callFunc gf args).run P w = .ok (.enter gf args) w)
    {u : Nat → Value} {len : Nat} {Ab Kp : World → World → Prop} {Pre : World → Prop} (hseq : Gives P gf lb (fun k => #[u k]) len Ab Kp Pre)
    (hPre : ∀ o1 o2, Pre ((w.alloc o1).alloc o2)) (hAb : ∀ A B, Ab A B → KeepsFrom w.heap.size A B)
    (hKt : ∀ {A B C : World}, Kp A B → Kp B C → Kp A C) (hKb : ∀ (W : World) (l : Nat) (o o' : Obj), w.heap.size ≤ l → W.heap[l]? = some o → o.isCells = false → Kp W (W.putObj l o'))
    (I : Nat → World → Prop) (Ix : Code → Nat → World → Prop) (hI : OwnFrom w.heap.size I) (hIx : ∀ c, OwnFrom w.heap.size (Ix c))
    (hIA : ∀ k A B, I k A → Ab A B → I k B) (hIxA : ∀ c k A B, Ix c k A → Ab A B → Ix c k B) (h0 : I 0 w) (G : Value → Array Value → Array Value)
    (hassign : ∀ (l k : Nat) (W : World) (K : Act → World → Prop), K { tmps := G (u k) a.tmps, defers := [] } W →
      assign.wpIn (Fence.wide.inRound l) 7 P (Exit.then K (fun _ _ _ => False)) { tmps := a.tmps.setIfInBounds p1 (u k), defers := [] } W)
    (hbody : ∀ (l k : Nat) (W : World), k < len → w.heap.size ≤ l → I k W → body.wpIn (Fence.wide.inRound l) 7 P (roundEnd w.heap.size Kp I Ix (k + 1) W) { tmps := G (u k) a.tmps, defers := [] } W)
    (hdone : ∀ (D : Nat) (W : World), w.heap.size ≤ D → I len W → W.heap[D]? = some (.deferred (some [])) → Q .normal { a with defers := { target := .collected D, args := #[] } :: a.defers } W)
    (hstop : ∀ (D : Nat) (c : Code) (k : Nat) (W : World), w.heap.size ≤ D → k ≤ len → Ix c k W → W.heap[D]? = some (.deferred (some [])) → c.wp P Q { a with defers := { target := .collected D, args := #[] } :: a.defers } W) :
    (Code.rangeFunc g #[p1] assign body).wp P Q a w :=
  wp_rangeFunc_row hg eg hseq hPre hAb hKt hKb (fun _ => rfl) I Ix hI hIx hIA hIxA h0 (fun k => { tmps := G (u k) a.tmps, defers := [] })
    (fun l k W K hK => by
      have e : (#[p1] : Array Tmp).zip #[u k] = #[(p1, u k)] := by simp
      simp only [e]
      exact hassign l k W K hK) hbody hdone hstop
theorem inv_start {w w3 : World} {A : Option Addr} {n c p : Nat} {bs : List UInt8} (hn : n ≤ 65536)
    (hw3 : w3 = (((w.alloc (.cells #[.slice A n c, .int .i64 (p : Int)] 66)).alloc (rowObj encB 5 (List.replicate n 0))).alloc (.cells #[.slice (some ⟨w.heap.size + 1, 0, none⟩) 0 n] 22)).alloc (.cells #[.slice A n c, .int .i64 (p : Int)] 66)) :
    InvI w A n c p bs 0 w3 ∧ w3.heap.size = w.heap.size + 4 := by
  obtain ⟨w1, h1⟩ : ∃ w1, w1 = w.alloc (.cells #[.slice A n c, .int .i64 (p : Int)] 66) := ⟨_, rfl⟩
  obtain ⟨w2, h2⟩ : ∃ w2, w2 = w1.alloc (rowObj encB 5 (List.replicate n 0)) := ⟨_, rfl⟩
  obtain ⟨w4, h4⟩ : ∃ w4, w4 = w2.alloc (.cells #[.slice (some ⟨w.heap.size + 1, 0, none⟩) 0 n] 22) := ⟨_, rfl⟩
  rw [← h1, ← h2, ← h4] at hw3
  have s1 : w1.heap.size = w.heap.size + 1 := by rw [h1, World.size_alloc]
  have s2 : w2.heap.size = w.heap.size + 2 := by rw [h2, World.size_alloc, s1]
  have s4 : w4.heap.size = w.heap.size + 3 := by rw [h4, World.size_alloc, s2]
  have r1 : BoxR w1 w.heap.size A n c p := by rw [h1]; exact Row.new (enc := id) w 66 [.slice A n c, .int .i64 (p : Int)]
  have o1 : Own encB w2 (w.heap.size + 1) 5 (some ⟨w.heap.size + 1, 0, none⟩) 0 n [] := by
    have := Own.made (enc := encB) w1 5 0 n (B := w.heap.size + 1) (by omega) (by simp [maxLen]; omega)
    rw [s1] at this
    rw [h2]; exact this
  have b1 : Boxed w4 (w.heap.size + 2) 22 (.slice (some ⟨w.heap.size + 1, 0, none⟩) 0 n) := by
    have := Boxed.new w2 22 (.slice (some ⟨w.heap.size + 1, 0, none⟩) 0 n)
    rw [s2] at this
    rw [h4]; exact this
  have r2 : BoxR w3 (w.heap.size + 3) A n c p := by
    have := Row.new (enc := id) w4 66 [.slice A n c, .int .i64 (p : Int)]
    rw [s4] at this
    rw [hw3]; exact this
  have g4 : Below w2.heap.size w2 w4 := by rw [h4]; exact (Below.refl _ _).alloc (Nat.le_refl _) _
  have g3 : Below w4.heap.size w4 w3 := by rw [hw3]; exact (Below.refl _ _).alloc (Nat.le_refl _) _
  have g2 : Below w1.heap.size w1 w2 := by rw [h2]; exact (Below.refl _ _).alloc (Nat.le_refl _) _
  have g1 : Below w.heap.size w w1 := by rw [h1]; exact (Below.refl _ _).alloc (Nat.le_refl _) _
  refine ⟨⟨?_, r2, ⟨some ⟨w.heap.size + 1, 0, none⟩, n, Boxed.below' b1 g3 (by omega), (o1.below g4).below g3⟩, ?_, ?_⟩, by rw [hw3, World.size_alloc, s4]⟩
  · exact ((r1.below g2 (by omega)).below g4 (by omega)).below g3 (by omega)
  · exact ((g1.trans (g2.mono (by omega))).trans (g4.mono (by omega))).trans (g3.mono (by omega))
  · rw [hw3, World.size_alloc, s4]; omega

set_option maxHeartbeats 4000000 in
theorem inverse_any (A : Option Addr) (n c p : Nat) (bs : List UInt8) (w : World) (hx : Bytes w A n c bs) (hn : n ≤ 65536) (hp : p ≤ n) :
    Calls Try.prog 37 #[rowsV A n c p] w (RetBytes w (invL p bs) (invE p bs)) := by
  have Hn := Lib.hid hx.1
  have hp' : Hid (p ≤ bs.length) := by show _ ≤ _; rw [Hn.out]; exact hp
  unfold rowsV
  have hmk := run_make_cap (P := Try.prog) (enc := encB) uB infoB rfl n (by omega) (by omega)
  refine calls_of_marks Try.func37 rfl ?_
  simp only [Try.ntmps37, List.size_toArray, List.length_cons, List.length_nil, Nat.reduceAdd, Nat.reduceSub, Array.replicate_succ, Array.replicate_zero, List.push_toArray, List.append_toArray, List.nil_append, List.cons_append]
  go_wp2_with fail
  refine (walk_any _ _ _ _ _).mono ?_
  rintro e w3 ⟨rfl, hw3⟩
  have Hw3 := Lib.hid hw3; clear hw3 hmk
  go_wp2_with fail
  obtain ⟨hI0, hs3⟩ := inv_start (bs := bs) hn Hw3.out
  have Hs3 := Lib.hid hs3; clear hs3
  clear Hw3
  refine wp_rangeFunc_row1 (G := fun u t => (t.setIfInBounds 12 u).setIfInBounds 5 u) (u := fun k => .int .i64 (itR p bs k : Int)) rfl (enters_of Try.func82 (by kernel_rfl) rfl) (walk1_gives w A n c p bs hx (by omega) hp (w.heap.size + 3) (by omega))
    (fun o1 o2 => ⟨(Row.alloc (Row.alloc hI0.box2 _) _), (hI0.below.alloc hI0.below.size _).alloc (by have := hI0.below.size; simp; omega) _⟩)
    (fun A B hab => ⟨hab.size, fun k o _ hk _ => (hab.block k (Array.getElem?_eq_some_iff.1 hk).1).trans hk⟩)
    (fun h1 h2 => ⟨h2.1.trans h1.1, h1.2.1.trans h2.2.1, fun g cs fr hg => by have e1 := h1.2.2 g cs fr hg; exact (h2.2.2 g cs fr (e1.trans hg)).trans e1⟩)
    (fun W l o o' hl hlo ho => ⟨World.putObj_heap_other (by rw [Hs3.out] at hl; omega), ((Below.refl _ _).grown (grownBy_putObj' W l o') (by have := (Array.getElem?_eq_some_iff.1 hlo).1; rw [Hs3.out] at hl; omega) (fun k e => by cases e; rw [Hs3.out] at hl; omega)), fun g cs fr hg => World.putObj_heap_other (fun e => by subst e; rw [hg] at hlo; injection hlo with hlo; subst hlo; cases ho)⟩)
    (InvI w A n c p bs) (fun _ _ _ => False) ?hI (fun _ _ _ _ _ h _ _ => h.elim) (fun k A B h hab => h.grow hab) (fun _ _ _ _ h _ => h.elim) hI0 ?assign ?body ?done (fun _ _ _ _ _ _ h _ => h.elim)
  case hI => exact fun s W W' row h hg hr => h.kept hg (fun r e => by have := (hr r e).1; rw [Hs3.out] at this; omega) (fun r o e ho => by obtain ⟨o', h1, h2⟩ := (hr r e).2; rw [ho] at h1; injection h1 with h1; subst h1; exact h2)
  case assign =>
    intro l k W K hK
    simp only [List.setIfInBounds_toArray, List.set_cons_succ, List.set_cons_zero] at hK ⊢
    gi_wp2
    exact hK
  case done =>
    intro D W hD hI hdef
    rw [Hs3.out] at hD
    obtain ⟨hbox, -, ⟨A2, c2, hob, hown⟩, hbelW, hsW⟩ := hI
    have q1 := hob.cell
    have q2 : W.cell? ⟨w.heap.size, 0, none⟩ = some (.slice A n c) := hbox.cell (j := 0) undef (by simp)
    have hw := wl_le hp'.out
    rw [Hn.out] at hw
    by_cases hlt : wl p bs < n
    · have hR : Hid (invL p bs = [] ∧ invE p bs = 3) := by show _ ∧ _; unfold invL invE; rw [Hn.out, if_pos hlt, if_pos hlt]; exact ⟨rfl, rfl⟩
      obtain ⟨m, hm⟩ : ∃ m, m = wl p bs := ⟨_, rfl⟩
      rw [← hm] at q1 hlt
      have d1 : decide ((m : Int) < (n : Int)) = true := by simp; omega
      have d2 : decide (m < n) = true := by simp; omega
      go_wp2_with fail
      refine markPost_mark hdef (v := .tuple #[.slice none 0 0, .int .i64 3]) (fun W => by simp [results, Try.results37, go_sem]) rfl ?_
      rw [hR.out.1, hR.out.2]
      exact RetBytes.err rfl (hbelW.grown (grownBy_putObj' W D _) hbelW.size (fun k e => by cases e; omega))
    · have hR : Hid (invL p bs = (backL p bs).reverse ∧ invE p bs = 0) := by show _ ∧ _; unfold invL invE; rw [Hn.out, if_neg hlt, if_neg hlt]; exact ⟨rfl, rfl⟩
      have hown' : Own encB W (w.heap.size + 1) 5 A2 (wl p bs) c2 (backL p bs) := hown
      obtain ⟨m, hm⟩ : ∃ m, m = wl p bs := ⟨_, rfl⟩
      rw [← hm] at q1 hlt hown' hob
      clear hm
      have d1 : decide ((m : Int) < (n : Int)) = false := by simp; omega
      have d2 : decide (m < n) = false := by simp; omega
      have hcal := reverse_own hown'
      have Hcal := Lib.hid hcal; clear hcal
      go_wp2_with fail
      refine Hcal.out.mono ?_
      rintro e w5 ⟨rfl, hown5, hg5⟩
      have hne : some (w.heap.size + 2) ≠ (Value.slice A2 m c2).ownBlock := fun e => by
        obtain ⟨_, cur, hc⟩ := Own.type hown' e.symm
        unfold Boxed at hob
        rw [hob] at hc
        injection hc with hc
        injection hc with _ hc
        exact absurd hc (by decide)
      have hob5 := hob.kept hg5 hne
      have q5 := hob5.cell
      have hdef5 : w5.heap[D]? = some (.deferred (some [])) := (hg5.block D (Array.getElem?_eq_some_iff.1 hdef).1 (fun e => by
        obtain ⟨_, cur, hc⟩ := Own.type hown' e.symm
        rw [hdef] at hc
        injection hc with hc
        cases hc)).trans hdef
      have hb5 : Below w.heap.size w w5 := hbelW.grown hg5 hbelW.size (fun r e => by have := (Own.type hown' e).1; omega)
      clear q1 q2 Hcal hob hown
      go_wp2_with fail
      refine markPost_mark hdef5 (v := .tuple #[.slice A2 m c2, .int .i64 0]) (fun W => by simp [results, Try.results37, go_sem]) rfl ?_
      rw [hR.out.1, hR.out.2]
      refine RetBytes.mk rfl (Own.bytesB (B := w.heap.size + 1) (e := 5) ?_) (hb5.grown (grownBy_putObj' w5 D _) hb5.size (fun k e => by cases e; omega))
      exact Own.keepT hown5 fun g cur hB ho => (World.putObj_heap_other (fun e => by subst e; rw [hdef5] at ho; injection ho with ho; cases ho)).trans ho
  case body =>
    intro l k W hk hl hI
    have HI := Lib.hid hI
    obtain ⟨hbox, -, ⟨A2, c2, hob, hown⟩, hbelW, hsW⟩ := hI
    simp only [List.setIfInBounds_toArray, List.set_cons_succ, List.set_cons_zero]
    have hw := wl_le hp'.out
    rw [Hn.out] at hw
    have hr : itR p bs k ≤ n := by rw [← Hn.out]; exact itR_le hp'.out k
    have hne := wl_ne hk
    have hnext := Lib.hid (backTo_next p bs k)
    have hbv : Hid (encB (by8 p bs (itR p bs k)) = .int .u8 (byteR bs p (itR p bs k))) := by show _ = _; rw [byteR_eq]; rfl
    have hcal : Hid (∀ W1, Below W.heap.size W W1 → Calls Try.prog 60 #[rowsV A n c p, .int .i64 (itR p bs k : Int)] W1 fun e w' => e = .returned (.int .u8 (byteR bs p (itR p bs k))) ∧ Below W1.heap.size W1 w') := fun W1 hb => at_any A n c p (itR p bs k) bs W1 ((hx.below hbelW).below hb) hn hp hr hne
    unfold rowsV at hcal
    obtain ⟨y, hy⟩ : ∃ y, y = by8 p bs (itR p bs k) := ⟨_, rfl⟩
    obtain ⟨r, hr'⟩ : ∃ r, r = itR p bs k := ⟨_, rfl⟩
    rw [← hy] at hbv hnext
    rw [← hr'] at hcal hbv hr ⊢
    obtain ⟨bv, hbv'⟩ : ∃ bv, bv = byteR bs p r := ⟨_, rfl⟩
    rw [← hbv'] at hcal hbv
    clear hy hr' hne hbv'
    have m1 : Hid (k + 1 ≤ maxLen ∧ (k + 1) * 1 ≤ 140737488355328) := ⟨by simp [maxLen]; omega, by omega⟩
    have facts : Hid (∀ W1, Below W.heap.size W W1 → W1.cell? ⟨w.heap.size, 0, none⟩ = some (.slice A n c) ∧ W1.cell? ⟨w.heap.size, 1, none⟩ = some (.int .i64 (p : Int)) ∧ W1.cell? ⟨w.heap.size + 1 + 1, 0, none⟩ = some (.slice A2 k c2) ∧ W1.frozen? ⟨w.heap.size + 1 + 1, 0, none⟩ = false ∧ Own encB W1 (w.heap.size + 1) 5 A2 k c2 (backTo p bs k) ∧ w.heap.size + 1 ≤ W1.heap.size ∧ w.heap.size + 1 + 1 < W1.heap.size) := fun W1 hb => by
      have t1 : BoxR W1 w.heap.size A n c p := hbox.below hb hbox.lt
      have t2 := Boxed.below' hob hb (Boxed.lt hob)
      exact ⟨t1.cell (j := 0) undef (by simp), t1.cell (j := 1) undef (by simp), t2.cell, t2.frozen, hown.below hb, by have := hb.size; omega, by have := hb.size; omega⟩
    have fin : Hid (∀ (W1 W6 : World) (A6 : Option Addr) (c6 : Nat), Below W.heap.size W W1 → W1.grownBy W6 (Value.slice A2 k c2).ownBlock → Own encB W6 (w.heap.size + 1) 5 A6 (k + 1) c6 (backTo p bs k ++ [y]) → W6.cell? ⟨w.heap.size + 1 + 1, 0, none⟩ = some (.slice A2 k c2) ∧ W6.frozen? ⟨w.heap.size + 1 + 1, 0, none⟩ = false ∧
        (KeepsFrom (w.heap.size + 4) W (W6.setCell ⟨w.heap.size + 2, 0, none⟩ (.slice A6 (k + 1) c6)) ∧ walkKp w.heap.size (w.heap.size + 3) W (W6.setCell ⟨w.heap.size + 2, 0, none⟩ (.slice A6 (k + 1) c6)) ∧ InvI w A n c p bs (k + 1) (W6.setCell ⟨w.heap.size + 2, 0, none⟩ (.slice A6 (k + 1) c6)))) := fun W1 W6 A6 c6 hb hg ho => by
      have t2 := Boxed.below' hob hb (Boxed.lt hob)
      have t6 : Boxed W6 (w.heap.size + 2) 22 (.slice A2 k c2) := t2.kept hg (fun e => by
        obtain ⟨_, cur, hc⟩ := Own.type (hown.below hb) e.symm
        unfold Boxed at t2
        rw [t2] at hc
        injection hc with hc
        injection hc with _ hc
        exact absurd hc (by decide))
      exact ⟨t6.cell, t6.frozen, HI.out.step hb hob hown hg (by rw [hnext.out]; exact ho)⟩
    clear hbox hob hown HI
    gi_wp2
    refine wpIn_region_orders [[0, 1, 2, 3, 4, 5, 6], [0, 2, 1, 3, 4, 5, 6], [1, 0, 2, 3, 4, 5, 6], [1, 2, 0, 3, 4, 5, 6], [1, 2, 3, 0, 4, 5, 6], [1, 2, 3, 4, 0, 5, 6], [2, 0, 1, 3, 4, 5, 6], [2, 1, 0, 3, 4, 5, 6], [2, 1, 3, 0, 4, 5, 6], [2, 1, 3, 4, 0, 5, 6]] (by kernel_rfl) (by kernel_rfl) ?_
    intro W0 hW0
    have hb0 : Below W.heap.size W W0 := by rw [hW0]; exact (Drawn.drewN W 1).below _
    obtain ⟨x1, x2, x3, x4, x5, x6, x7⟩ := facts.out W0 hb0
    clear hW0
    refine List.forall_mem_cons.2 ⟨?_, List.forall_mem_cons.2 ⟨?_, List.forall_mem_cons.2 ⟨?_, List.forall_mem_cons.2 ⟨?_, List.forall_mem_cons.2 ⟨?_, List.forall_mem_cons.2 ⟨?_, List.forall_mem_cons.2 ⟨?_, List.forall_mem_cons.2 ⟨?_, List.forall_mem_cons.2 ⟨?_, List.forall_mem_cons.2 ⟨?_, fun _ h => nomatch h⟩⟩⟩⟩⟩⟩⟩⟩⟩⟩
    all_goals
      simp only [List.filterMap_cons, List.filterMap_nil, List.getElem?_toArray, List.getElem?_cons_zero, List.getElem?_cons_succ]
      change wpListIn _ _ _ _ _ [_, _, _, _, _, _, _] _ _
      gi_wp2_with (first
        | (refine ⟨trivial, ?_⟩; gi_at_call 60; refine (callsIn_wide.2 (hcal.out W0 hb0)).mono ?_; rintro e W1 ⟨rfl, hb1⟩; have hb1 := hb0.trans (hb1.mono hb0.size); obtain ⟨y1, y2, y3, y4, y5, y6, y7⟩ := facts.out W1 hb1)
        | (gi_at_builtin; refine wpListIn_pushg (enc := encB) rfl (.tmp 13) (.tmp 17) rfl uB infoB encB_one rfl rfl y5 y6 y _ hbv.out rfl m1.out.1 m1.out.2 ?_; intro A6 c6 W6 ho6 hk6; obtain ⟨z1, z2, z3⟩ := fin.out W1 W6 A6 c6 hb1 hk6 ho6))
      rw [Hs3.out]
      exact z3
end Go.Proofs.Ytoodfmilleodaaa

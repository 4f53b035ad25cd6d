/- Bg Bh Bi Bj Bl Bn Bm. -/
import Derived.Test.YtohadkmaemmfgaaGreatDoorRI15
import Derived.Sort.WalkB12
import Derived.Lib.SlicesMore
import Derived.Deep.LoopGhost
import Derived.Shelf.RegionOpenPlain
import Derived.Lib.Walk
import Derived.Lib.OwnBridge
import Derived.Laws.MakeOwn
set_option maxRecDepth 100000
set_option maxHeartbeats 4000000
namespace Go.Proofs.YtohadkmaemmfgaaGreatDoor.Bwt
open Go.Shelf Go.RowKit Go.Lib Go.Sort
set_option linter.unusedVariables false
theorem reverse_arr (blk off cap : Nat) (d : Array UInt8) (w : World) (hH : Holds encB w blk off d) (hsz : d.size ≤ 9223372036854775807) :
    Calls Tryz.prog 230 #[.slice (some ⟨blk, off, none⟩) d.size cap] w fun e w' => e = .returned (.tuple #[]) ∧ ∃ n, w' = putRow encB (Sort.ahead w n) blk off d.reverse := by
  go_enter Tryz.func230, Tryz.ntmps230
  go_wp2
  go_loopg [2, 3] d.size (fun k s2 s3 wr => ∃ (i jn : Nat) (jz : Int) (dk : Array UInt8) (n : Nat), s2 = .int .i64 i ∧ s3 = .int .i64 jz ∧ ((i : Int) < jz → jz = jn ∧ jn < d.size) ∧ (¬ (i : Int) < jz → ¬ i < jn) ∧ jn - i ≤ k ∧
    dk.size = d.size ∧ wr = putRow encB (Sort.ahead w n) blk off dk ∧ reverseLoop i jn dk = reverseLoop 0 (d.size - 1) d)
  case atStart => exact ⟨0, d.size - 1, (d.size : Int) - 1, d, 0, rfl, rfl, fun h => ⟨by omega, by omega⟩, fun h => by omega, by omega, rfl, (putRow_self encB w blk off d hH).symm, rfl⟩
  case round =>
    obtain ⟨i, jn, jz, dk, n, rfl, rfl, h1, h2, hk, hds, hwr, heq⟩ := hrel
    by_cases hlt : (i : Int) < jz
    · obtain ⟨rfl, hjn⟩ := h1 hlt
      have hij : i < jn := by omega
      have hHk : Holds encB wr blk off dk := by rw [hwr]; exact holds_putRow encB _ blk off d dk (holds_ahead encB w n blk off d hH) hds
      obtain ⟨ci, fi⟩ := hHk i (by omega)
      obtain ⟨cj, fj⟩ := hHk jn (by omega)
      have A : Aside (wr = putRow encB (Sort.ahead w n) blk off dk) := hwr
      unfold encB at ci cj
      have mixed : Tryz.prog.follows .mixedOrders = true := by kernel_rfl
      have hid : i < d.size := by omega
      clear hwr hHk hH h1 h2
      go_wp2_with fail
      go_region_o
      go_wp2
      go_roundg (jn - 1 - (i + 1))
      case measure => omega
      case rel =>
        rw [reverseLoop, if_pos hij] at heq
        exact ⟨i + 1, jn - 1, (jn : Int) - 1, swp dk i jn, n + 1, by simp, rfl, fun h => ⟨by omega, by omega⟩, fun h => by omega, Nat.le_refl _, by rw [size_swp]; exact hds,
          swap_world encB (by omega) (by omega) A.out (by first | rfl | simp [encB, getElem!_pos, show jn < dk.size by omega]) (by first | rfl | simp [encB, getElem!_pos, show i < dk.size by omega]), heq⟩
    · have hnot := h2 hlt
      go_wp2
      go_end0
      refine ⟨rfl, n, ?_⟩
      rw [reverseLoop, if_neg hnot] at heq
      rw [← Lib.reverseLoop_reverse, ← heq]
theorem reverse_empty (a : Option Addr) (cap : Nat) (w : World) :
    Calls Tryz.prog 230 #[.slice a 0 cap] w fun e w' => e = .returned (.tuple #[]) ∧ w' = w := by
  go_enter Tryz.func230, Tryz.ntmps230
  go_wp2
  go_loopg [2, 3] 0 (fun _ s2 s3 wr => s2 = .int .i64 0 ∧ s3 = .int .i64 (-1) ∧ wr = w)
  case atStart => exact ⟨rfl, rfl, rfl⟩
  case round =>
    obtain ⟨rfl, rfl, rfl⟩ := hrel
    go_wp2
    go_end0
    exact ⟨rfl, rfl⟩
theorem reverse_own {A : Option Addr} {n c B : Nat} {xs : List UInt8} {w : World} {e : TypeId} (h : Own encB w B e A n c xs) :
    Calls Tryz.prog 230 #[.slice A n c] w fun e' w' => e' = .returned (.tuple #[]) ∧ Own encB w' B e A n c xs.reverse ∧ w.grownBy w' (Value.slice A n c).ownBlock := by
  have hl := h.length
  by_cases hv : Value.slice A n c = .slice none 0 0
  · injection hv with h1 h2 h3
    subst h1 h2 h3
    obtain rfl : xs = [] := List.length_eq_zero_iff.1 hl
    refine (reverse_empty none 0 w).mono ?_
    rintro e' w' ⟨rfl, rfl⟩
    exact ⟨rfl, h, World.grownBy.refl _ _⟩
  · obtain ⟨g, cap, hv', hB, hlt, hnc, hm, hlen, hH⟩ := Lib.holds_of_ownsRow h hv
    injection hv' with h1 h2 h3
    subst h1 h3
    have hsz : xs.toArray.size = n := by simpa using hlen
    have hc := reverse_arr g 0 c xs.toArray w hH (by rw [hsz]; simp [maxLen] at hm; omega)
    rw [hsz] at hc
    refine hc.mono ?_
    rintro e' w' ⟨rfl, q, rfl⟩
    refine ⟨rfl, ?_, ?_⟩
    · have := Lib.ownsRow_putRow (q := q) (k := n) (ys := xs.reverse) h (by simp; omega) (Nat.le_refl _)
      rw [List.take_of_length_le (by simp; omega)] at this
      unfold Own
      simpa using this
    · refine ⟨rfl, rfl, rfl, by simp [putRow, mapBlock, Sort.ahead], fun k hk hne => ?_⟩
      have hne' : ¬ g = k := fun e => hne (by rw [e]; rfl)
      simp [putRow, mapBlock, Sort.ahead, Array.getElem?_modify, hne']
theorem run_make_cap {α : Type} {enc : α → Value} {P : Program} {t e : TypeId} {zero : α} {bytes : Nat} (ht : P.underlying t = some (.slice e)) (hi : (P.info? e).map (fun i => (i.zero, i.size, i.bytes)) = some (some (enc zero), 1, bytes))
    (h1 : (enc zero).cells = #[enc zero]) (c : Nat) (hb : (bytes : Int) * c ≤ 281474976710656) (hm : (c : Int) ≤ 9223372036854775807) (W : World) :
    (Instr.makeSlice t (.int .i64 0) (.int .i64 (c : Int))).run P W = .ok (.slice (some ⟨W.heap.size, 0, none⟩) 0 c) (W.alloc (rowObj enc e (List.replicate c zero))) := by
  obtain ⟨i, hi0, hz, hs, hby⟩ := info_parts hi
  rw [run_make W t e i (enc zero) ht hi0 hz .i64 .i64 0 c (by omega) (by omega) (by rw [hby]; exact hb) hm, hs, madeCells_rep _ _ h1]
  simp [rowObj]
theorem _root_.Go.Proofs.YtohadkmaemmfgaaGreatDoor.Own.made {α : Type} {enc : α → Value} (w : World) (e : TypeId) (zero : α) (c : Nat) {B : Nat} (hB : B ≤ w.heap.size) (hc : c ≤ maxLen) : Own enc (w.alloc (rowObj enc e (List.replicate c zero))) B e (some ⟨w.heap.size, 0, none⟩) 0 c [] :=
  World.ownsRow_made w _ c hB hc (by simp)
theorem _root_.Go.Proofs.YtohadkmaemmfgaaGreatDoor.Own.keepT {α : Type} {enc : α → Value} {X Y : World} {B : Nat} {e : TypeId} {A : Option Addr} {n c : Nat} {xs : List α} (h : Own enc X B e A n c xs) (hb : ∀ g cur, B ≤ g → X.heap[g]? = some (.cells cur e (0, 0)) → Y.heap[g]? = some (.cells cur e (0, 0))) : Own enc Y B e A n c xs := by
  refine ⟨h.1, ?_⟩
  rcases h.2 with h1 | ⟨g, cap, cur, h1, h2, h3, h4⟩
  · exact .inl h1
  · exact .inr ⟨g, cap, cur, h1, h2, hb g _ h2 h3, h4⟩
theorem _root_.Go.Proofs.YtohadkmaemmfgaaGreatDoor.Own.type {α : Type} {enc : α → Value} {w : World} {B : Nat} {e : TypeId} {A : Option Addr} {n c : Nat} {xs : List α} (h : Own enc w B e A n c xs) {g : Nat} (hg : (Value.slice A n c).ownBlock = some g) : B ≤ g ∧ ∃ cur, w.heap[g]? = some (.cells cur e (0, 0)) := by
  rcases h.2 with ⟨h1, _⟩ | ⟨g', cap, cur, h1, h2, h3, _⟩
  · rw [h1] at hg; cases hg
  · rw [h1] at hg
    injection hg with hg
    have hg' : g' = g := hg
    subst hg'
    exact ⟨h2, cur, h3⟩
section
variable {α : Type} {enc : α → Value} {P : Program} {w : World} {B : Nat} {e t : TypeId} {A : Option Addr} {n c : Nat} {xs : List α} {zero : α} {bytes : Nat} {F : Fence} {nF : Nat}
  {ops : Array Oper} {rest : List Oper} {o : Oper} {a : Act} {K : Act → World → Prop} {Q : Exit → Act → World → Prop} {E : Prop}
theorem wpListIn_pushg (hgd : o.guard = none) (s x : Operand) (ho : o.op = .call { callee := .builtin .append, args := #[s, x], argTypes := #[t, t] })
    (ht : P.underlying t = some (.slice e)) (hi : (P.info? e).map (fun i => (i.zero, i.size, i.bytes)) = some (some (enc zero), 1, bytes)) (h1 : ∀ x, (enc x).oneCell' = true) (hz : (enc zero).cells.size = 1)
    (hs : a.eval s = .slice A n c) (hown : Own enc w B e A n c xs) (hB : B ≤ w.heap.size) (y : α) (v : Value) (hv : enc y = v)
    (hx : a.eval x = .slice (some ⟨w.heap.size, 0, none⟩) 1 1) (hl : n + 1 ≤ maxLen) (hby : (n + 1) * bytes ≤ 140737488355328)
    (h : ∀ A2 c2 w', Own enc w' B e A2 (n + 1) c2 (xs ++ [y]) → w.grownBy w' (Value.slice A n c).ownBlock → wpListIn F nF P ops Q rest (a.put o.dst (.slice A2 (n + 1) c2)) w') : wpListIn F nF P ops Q (o :: rest) a (w.alloc (.cells #[v] e)) := by
  subst hv
  refine wpListIn_plain hgd fun K' hK' => ?_
  obtain ⟨A2, c2, w', hrun, h2, h3, h4⟩ := run_append_own_one (P := P) o.type ht hi h1 hz hown hB y hl hby
  unfold Oper.wpIn
  refine ⟨by simp [Oper.about, ho, resolve, Target.leads, Sem.run_pure], ?_⟩
  rw [Oper.semAt_plain F _ _ (by rw [ho]; intro c hc'; cases hc')]
  simp [execOp, ho, resolve, invoke, builtin, hs, hx, hrun, Result.andThen]
  exact hK' _ _ (h A2 c2 w' h2 (grownBy.trans' (World.grownBy_alloc w _ _) h4))
end
end Go.Proofs.YtohadkmaemmfgaaGreatDoor.Bwt
namespace Go.Proofs.YtohadkmaemmfgaaGreatDoor.Bwt
open Go.RowKit Go.Proofs Go.Shelf
set_option linter.unusedVariables false
attribute [local go_sem] Oper.semAt_some
structure InvI (w : World) (A : Option Addr) (n c p : Nat) (bs : List UInt8) (k : Nat) (W : World) : Prop where
  box : BoxR W w.heap.size A n c p
  box2 : BoxR W (w.heap.size + 3) A n c p
  out : ∃ A2 c2, Boxed W (w.heap.size + 2) 23 (.slice A2 k c2) ∧ Own encB W (w.heap.size + 1) 5 A2 k c2 (backTo p bs k)
  below : Below w.heap.size w W
  size : w.heap.size + 4 ≤ W.heap.size
section
variable {w W W' : World} {A : Option Addr} {n c p : Nat} {bs : List UInt8} {k : Nat}
theorem InvI.kept {row : Option Nat} (h : InvI w A n c p bs k W) (hg : W.grownBy W' row) (hrow : ∀ r, row = some r → w.heap.size + 4 ≤ r) (hc : ∀ r o, row = some r → W.heap[r]? = some o → o.isCells = false) : InvI w A n c p bs k W' := by
  obtain ⟨h1, h2, ⟨A2, c2, h3, h4⟩, h5, h6⟩ := h
  have ne : ∀ j, j < w.heap.size + 4 → some j ≠ row := fun j hj e => by have := hrow j e.symm; omega
  refine ⟨h1.grown hg (ne _ (by omega)), h2.grown hg (ne _ (by omega)), ⟨A2, c2, h3.kept hg (ne _ (by omega)), h4.keepBwt fun g o hB ho hcell => ?_⟩, h5.grown hg h5.size (fun r e => by have := hrow r e; omega), Nat.le_trans h6 hg.size⟩
  refine (hg.block g (Array.getElem?_eq_some_iff.1 ho).1 (fun e => ?_)).trans ho
  have := hc g o e.symm ho
  rw [hcell] at this
  cases this
theorem InvI.grow (h : InvI w A n c p bs k W) (hg : Below W.heap.size W W') : InvI w A n c p bs k W' := by
  obtain ⟨h1, h2, ⟨A2, c2, h3, h4⟩, h5, h6⟩ := h
  exact ⟨h1.below hg h1.lt, h2.below hg h2.lt, ⟨A2, c2, Boxed.below' h3 hg (Boxed.lt h3), h4.below hg⟩, h5.trans (hg.mono h5.size), Nat.le_trans h6 hg.size⟩
theorem InvI.step {W1 W6 : World} {A2 A6 : Option Addr} {c2 c6 : Nat} (h : InvI w A n c p bs k W) (hb : Below W.heap.size W W1) (hob : Boxed W (w.heap.size + 2) 23 (.slice A2 k c2)) (hown : Own encB W (w.heap.size + 1) 5 A2 k c2 (backTo p bs k))
    (hg : W1.grownBy W6 (Value.slice A2 k c2).ownBlock) (ho : Own encB W6 (w.heap.size + 1) 5 A6 (k + 1) c6 (backTo p bs (k + 1))) :
    KeepsFrom (w.heap.size + 4) W (W6.setCell ⟨w.heap.size + 2, 0, none⟩ (.slice A6 (k + 1) c6)) ∧ walkKp w.heap.size (w.heap.size + 3) W (W6.setCell ⟨w.heap.size + 2, 0, none⟩ (.slice A6 (k + 1) c6)) ∧ InvI w A n c p bs (k + 1) (W6.setCell ⟨w.heap.size + 2, 0, none⟩ (.slice A6 (k + 1) c6)) := by
  have hsz := h.size
  have hsw : (W6.setCell ⟨w.heap.size + 2, 0, none⟩ (.slice A6 (k + 1) c6)).heap.size = W6.heap.size := by simp [World.setCell]
  have s1 := hb.size
  have s6 := hg.size
  have keep : ∀ (j : Nat) (o : Obj), W.heap[j]? = some o → j ≠ w.heap.size + 2 → (∀ cur, o ≠ .cells cur 5 (0, 0)) → (W6.setCell ⟨w.heap.size + 2, 0, none⟩ (.slice A6 (k + 1) c6)).heap[j]? = some o := fun j o hj hne hno => by
    have hlt := (Array.getElem?_eq_some_iff.1 hj).1
    refine (Below.heap_setCell W6 ⟨w.heap.size + 2, 0, none⟩ _ j hne).trans ((hg.block j (by omega) (fun e => ?_)).trans ((hb.block j hlt).trans hj))
    obtain ⟨_, cur, hc⟩ := Own.type hown e.symm
    rw [hj] at hc
    injection hc with hc
    exact hno cur hc
  have hbel : Below w.heap.size W (W6.setCell ⟨w.heap.size + 2, 0, none⟩ (.slice A6 (k + 1) c6)) := by
    refine Below.setCell (p := ⟨w.heap.size + 2, 0, none⟩) ?_ (by show _ ≤ w.heap.size + 2; omega) _
    exact (hb.mono (by omega)).grown hg (by omega) (fun r e => by have := (Own.type hown e).1; omega)
  have hW3 : w.heap.size + 3 < W.heap.size := by omega
  refine ⟨⟨by rw [hsw]; omega, fun j o hj ho' hno => keep j o ho' (by omega) (fun cur e => by rw [e] at hno; cases hno)⟩, ⟨?_, hbel, fun g cs fr hgc => ?_⟩, ?_, ?_, ?_, h.below.trans hbel, by rw [hsw]; omega⟩
  · rw [show W.heap[w.heap.size + 3]? = _ from h.box2]
    exact keep _ _ h.box2 (by omega) (fun cur e => by injection e with _ e; exact absurd e (by decide))
  · rw [hgc]
    exact keep g _ hgc (fun e => by rw [e] at hgc; unfold Boxed at hob; rw [hob] at hgc; injection hgc with hgc; injection hgc with _ hgc; exact absurd hgc (by decide)) (fun cur e => by injection e with _ e; exact absurd e (by decide))
  · exact keep _ _ h.box (by omega) (fun cur e => by injection e with _ e; exact absurd e (by decide))
  · exact keep _ _ h.box2 (by omega) (fun cur e => by injection e with _ e; exact absurd e (by decide))
  · have hb6 : Boxed W6 (w.heap.size + 2) 23 (.slice A2 k c2) := by
      refine (hg.block _ (by omega) (fun e => ?_)).trans (Boxed.below' hob hb (by omega))
      obtain ⟨_, cur, hc⟩ := Own.type hown e.symm
      unfold Boxed at hob
      rw [hob] at hc
      injection hc with hc
      injection hc with _ hc
      exact absurd hc (by decide)
    refine ⟨A6, c6, hb6.set _, Own.keepT ho fun g cur hB hgo => (Below.heap_setCell W6 ⟨w.heap.size + 2, 0, none⟩ _ g (fun e => ?_)).trans hgo⟩
    have e' : g = w.heap.size + 2 := e
    rw [e'] at hgo
    unfold Boxed at hb6
    rw [hb6] at hgo
    injection hgo with hgo
    injection hgo with _ hgo
    exact absurd hgo (by decide)
end
theorem wp_rangeFunc_row1 {P : Program} {g : Operand} {p1 : Tmp} {assign body : Code} {Q : Exit → Act → World → Prop} {a : Act} {w : World}
    {gf : Nat} {lb : Array Value} (hg : a.eval g = .func (.func gf) #[] lb) (eg : ∀ args w, (callFunc gf args).run P w = .ok (.enter gf args) w)
    {u : Nat → Value} {len : Nat} {Ab Kp : World → World → Prop} {Pre : World → Prop} (hseq : Gives P gf lb (fun k => #[u k]) len Ab Kp Pre)
    (hPre : ∀ o1 o2, Pre ((w.alloc o1).alloc o2)) (hAb : ∀ A B, Ab A B → KeepsFrom w.heap.size A B)
    (hKt : ∀ {A B C : World}, Kp A B → Kp B C → Kp A C) (hKb : ∀ (W : World) (l : Nat) (o o' : Obj), w.heap.size ≤ l → W.heap[l]? = some o → o.isCells = false → Kp W (W.putObj l o'))
    (I : Nat → World → Prop) (Ix : Code → Nat → World → Prop) (hI : OwnFrom w.heap.size I) (hIx : ∀ c, OwnFrom w.heap.size (Ix c))
    (hIA : ∀ k A B, I k A → Ab A B → I k B) (hIxA : ∀ c k A B, Ix c k A → Ab A B → Ix c k B) (h0 : I 0 w) (G : Value → Array Value → Array Value)
    (hassign : ∀ (l k : Nat) (W : World) (K : Act → World → Prop), K { tmps := G (u k) a.tmps, defers := [] } W →
      assign.wpIn (Fence.wide.inRound l) 7 P (Exit.then K (fun _ _ _ => False)) { tmps := a.tmps.setIfInBounds p1 (u k), defers := [] } W)
    (hbody : ∀ (l k : Nat) (W : World), k < len → w.heap.size ≤ l → I k W → body.wpIn (Fence.wide.inRound l) 7 P (roundEnd w.heap.size Kp I Ix (k + 1) W) { tmps := G (u k) a.tmps, defers := [] } W)
    (hdone : ∀ (D : Nat) (W : World), w.heap.size ≤ D → I len W → W.heap[D]? = some (.deferred (some [])) → Q .normal { a with defers := { target := .collected D, args := #[] } :: a.defers } W)
    (hstop : ∀ (D : Nat) (c : Code) (k : Nat) (W : World), w.heap.size ≤ D → k ≤ len → Ix c k W → W.heap[D]? = some (.deferred (some [])) → c.wp P Q { a with defers := { target := .collected D, args := #[] } :: a.defers } W) :
    (Code.rangeFunc g #[p1] assign body).wp P Q a w :=
  wp_rangeFunc_row hg eg hseq hPre hAb hKt hKb (fun _ => rfl) I Ix hI hIx hIA hIxA h0 (fun k => { tmps := G (u k) a.tmps, defers := [] })
    (fun l k W K hK => by
      have e : (#[p1] : Array Tmp).zip #[u k] = #[(p1, u k)] := by simp
      simp only [e]
      exact hassign l k W K hK) hbody hdone hstop
theorem inv_start {w w3 : World} {A : Option Addr} {n c p : Nat} {bs : List UInt8} (hn : n ≤ 65536)
    (hw3 : w3 = (((w.alloc (.cells #[.slice A n c, .int .i64 (p : Int)] 195)).alloc (rowObj encB 5 (List.replicate n 0))).alloc (.cells #[.slice (some ⟨w.heap.size + 1, 0, none⟩) 0 n] 23)).alloc (.cells #[.slice A n c, .int .i64 (p : Int)] 195)) :
    InvI w A n c p bs 0 w3 ∧ w3.heap.size = w.heap.size + 4 := by
  obtain ⟨w1, h1⟩ : ∃ w1, w1 = w.alloc (.cells #[.slice A n c, .int .i64 (p : Int)] 195) := ⟨_, rfl⟩
  obtain ⟨w2, h2⟩ : ∃ w2, w2 = w1.alloc (rowObj encB 5 (List.replicate n 0)) := ⟨_, rfl⟩
  obtain ⟨w4, h4⟩ : ∃ w4, w4 = w2.alloc (.cells #[.slice (some ⟨w.heap.size + 1, 0, none⟩) 0 n] 23) := ⟨_, rfl⟩
  rw [← h1, ← h2, ← h4] at hw3
  have s1 : w1.heap.size = w.heap.size + 1 := by rw [h1, World.size_alloc]
  have s2 : w2.heap.size = w.heap.size + 2 := by rw [h2, World.size_alloc, s1]
  have s4 : w4.heap.size = w.heap.size + 3 := by rw [h4, World.size_alloc, s2]
  have r1 : BoxR w1 w.heap.size A n c p := by rw [h1]; exact Row.new (enc := id) w 195 [.slice A n c, .int .i64 (p : Int)]
  have o1 : Own encB w2 (w.heap.size + 1) 5 (some ⟨w.heap.size + 1, 0, none⟩) 0 n [] := by
    have := Own.made (enc := encB) w1 5 0 n (B := w.heap.size + 1) (by omega) (by simp [maxLen]; omega)
    rw [s1] at this
    rw [h2]; exact this
  have b1 : Boxed w4 (w.heap.size + 2) 23 (.slice (some ⟨w.heap.size + 1, 0, none⟩) 0 n) := by
    have := Boxed.new w2 23 (.slice (some ⟨w.heap.size + 1, 0, none⟩) 0 n)
    rw [s2] at this
    rw [h4]; exact this
  have r2 : BoxR w3 (w.heap.size + 3) A n c p := by
    have := Row.new (enc := id) w4 195 [.slice A n c, .int .i64 (p : Int)]
    rw [s4] at this
    rw [hw3]; exact this
  have g4 : Below w2.heap.size w2 w4 := by rw [h4]; exact (Below.refl _ _).alloc (Nat.le_refl _) _
  have g3 : Below w4.heap.size w4 w3 := by rw [hw3]; exact (Below.refl _ _).alloc (Nat.le_refl _) _
  have g2 : Below w1.heap.size w1 w2 := by rw [h2]; exact (Below.refl _ _).alloc (Nat.le_refl _) _
  have g1 : Below w.heap.size w w1 := by rw [h1]; exact (Below.refl _ _).alloc (Nat.le_refl _) _
  refine ⟨⟨?_, r2, ⟨some ⟨w.heap.size + 1, 0, none⟩, n, Boxed.below' b1 g3 (by omega), (o1.below g4).below g3⟩, ?_, ?_⟩, by rw [hw3, World.size_alloc, s4]⟩
  · exact ((r1.below g2 (by omega)).below g4 (by omega)).below g3 (by omega)
  · exact ((g1.trans (g2.mono (by omega))).trans (g4.mono (by omega))).trans (g3.mono (by omega))
  · rw [hw3, World.size_alloc, s4]; omega
theorem inverse_any (A : Option Addr) (n c p : Nat) (bs : List UInt8) (w : World) (hx : Bytes w A n c bs) (hn : n ≤ 65536) (hp : p ≤ n) :
    Calls Tryz.prog 164 #[rowsV A n c p] w (RetBytes w (invL p bs) (invE p bs)) := by
  have Hn := Lib.hid hx.1
  have hp' : Hid (p ≤ bs.length) := by show _ ≤ _; rw [Hn.out]; exact hp
  unfold rowsV
  have hmk := run_make_cap (P := Tryz.prog) (enc := encB) uB infoB rfl n (by omega) (by omega)
  refine calls_of_marks Tryz.func164 rfl ?_
  simp only [Tryz.ntmps164, List.size_toArray, List.length_cons, List.length_nil, Nat.reduceAdd, Nat.reduceSub, Array.replicate_succ, Array.replicate_zero, List.push_toArray, List.append_toArray, List.nil_append, List.cons_append]
  go_wp2_with fail
  refine (walk_any _ _ _ _ _).mono ?_
  rintro e w3 ⟨rfl, hw3⟩
  have Hw3 := Lib.hid hw3; clear hw3 hmk
  go_wp2_with fail
  obtain ⟨hI0, hs3⟩ := inv_start (bs := bs) hn Hw3.out
  have Hs3 := Lib.hid hs3; clear hs3
  clear Hw3
  refine wp_rangeFunc_row1 (G := fun u t => (t.setIfInBounds 12 u).setIfInBounds 5 u) (u := fun k => .int .i64 (itR p bs k : Int)) rfl (enters_of Tryz.func270 (by kernel_rfl) rfl) (walk1_gives w A n c p bs hx (by omega) hp (w.heap.size + 3) (by omega))
    (fun o1 o2 => ⟨(Row.alloc (Row.alloc hI0.box2 _) _), (hI0.below.alloc hI0.below.size _).alloc (by have := hI0.below.size; simp; omega) _⟩)
    (fun A B hab => ⟨hab.size, fun k o _ hk _ => (hab.block k (Array.getElem?_eq_some_iff.1 hk).1).trans hk⟩)
    (fun h1 h2 => ⟨h2.1.trans h1.1, h1.2.1.trans h2.2.1, fun g cs fr hg => by have e1 := h1.2.2 g cs fr hg; exact (h2.2.2 g cs fr (e1.trans hg)).trans e1⟩)
    (fun W l o o' hl hlo ho => ⟨World.putObj_heap_other (by rw [Hs3.out] at hl; omega), ((Below.refl _ _).grown (grownBy_putObj' W l o') (by have := (Array.getElem?_eq_some_iff.1 hlo).1; rw [Hs3.out] at hl; omega) (fun k e => by cases e; rw [Hs3.out] at hl; omega)), fun g cs fr hg => World.putObj_heap_other (fun e => by subst e; rw [hg] at hlo; injection hlo with hlo; subst hlo; cases ho)⟩)
    (InvI w A n c p bs) (fun _ _ _ => False) ?hI (fun _ _ _ _ _ h _ _ => h.elim) (fun k A B h hab => h.grow hab) (fun _ _ _ _ h _ => h.elim) hI0 ?assign ?body ?done (fun _ _ _ _ _ _ h _ => h.elim)
  case hI => exact fun s W W' row h hg hr => h.kept hg (fun r e => by have := (hr r e).1; rw [Hs3.out] at this; omega) (fun r o e ho => by obtain ⟨o', h1, h2⟩ := (hr r e).2; rw [ho] at h1; injection h1 with h1; subst h1; exact h2)
  case assign =>
    intro l k W K hK
    simp only [List.setIfInBounds_toArray, List.set_cons_succ, List.set_cons_zero] at hK ⊢
    gi_wp2
    exact hK
  case done =>
    intro D W hD hI hdef
    rw [Hs3.out] at hD
    obtain ⟨hbox, -, ⟨A2, c2, hob, hown⟩, hbelW, hsW⟩ := hI
    have q1 := hob.cell
    have q2 : W.cell? ⟨w.heap.size, 0, none⟩ = some (.slice A n c) := hbox.cell (j := 0) undef (by simp)
    have hw := wl_le hp'.out
    rw [Hn.out] at hw
    by_cases hlt : wl p bs < n
    · have hR : Hid (invL p bs = [] ∧ invE p bs = 3) := by show _ ∧ _; unfold invL invE; rw [Hn.out, if_pos hlt, if_pos hlt]; exact ⟨rfl, rfl⟩
      obtain ⟨m, hm⟩ : ∃ m, m = wl p bs := ⟨_, rfl⟩
      rw [← hm] at q1 hlt
      have d1 : decide ((m : Int) < (n : Int)) = true := by simp; omega
      have d2 : decide (m < n) = true := by simp; omega
      go_wp2_with fail
      refine markPost_mark hdef (v := .tuple #[.slice none 0 0, .int .i64 3]) (fun W => by simp [results, Tryz.results164, go_sem]) rfl ?_
      rw [hR.out.1, hR.out.2]
      exact RetBytes.err rfl (hbelW.grown (grownBy_putObj' W D _) hbelW.size (fun k e => by cases e; omega))
    · have hR : Hid (invL p bs = (backL p bs).reverse ∧ invE p bs = 0) := by show _ ∧ _; unfold invL invE; rw [Hn.out, if_neg hlt, if_neg hlt]; exact ⟨rfl, rfl⟩
      have hown' : Own encB W (w.heap.size + 1) 5 A2 (wl p bs) c2 (backL p bs) := hown
      obtain ⟨m, hm⟩ : ∃ m, m = wl p bs := ⟨_, rfl⟩
      rw [← hm] at q1 hlt hown' hob
      clear hm
      have d1 : decide ((m : Int) < (n : Int)) = false := by simp; omega
      have d2 : decide (m < n) = false := by simp; omega
      have hcal := reverse_own hown'
      have Hcal := Lib.hid hcal; clear hcal
      go_wp2_with fail
      refine Hcal.out.mono ?_
      rintro e w5 ⟨rfl, hown5, hg5⟩
      have hne : some (w.heap.size + 2) ≠ (Value.slice A2 m c2).ownBlock := fun e => by
        obtain ⟨_, cur, hc⟩ := Own.type hown' e.symm
        unfold Boxed at hob
        rw [hob] at hc
        injection hc with hc
        injection hc with _ hc
        exact absurd hc (by decide)
      have hob5 := hob.kept hg5 hne
      have q5 := hob5.cell
      have hdef5 : w5.heap[D]? = some (.deferred (some [])) := (hg5.block D (Array.getElem?_eq_some_iff.1 hdef).1 (fun e => by
        obtain ⟨_, cur, hc⟩ := Own.type hown' e.symm
        rw [hdef] at hc
        injection hc with hc
        cases hc)).trans hdef
      have hb5 : Below w.heap.size w w5 := hbelW.grown hg5 hbelW.size (fun r e => by have := (Own.type hown' e).1; omega)
      clear q1 q2 Hcal hob hown
      go_wp2_with fail
      refine markPost_mark hdef5 (v := .tuple #[.slice A2 m c2, .int .i64 0]) (fun W => by simp [results, Tryz.results164, go_sem]) rfl ?_
      rw [hR.out.1, hR.out.2]
      refine RetBytes.mk rfl (Own.bytesBBwt (B := w.heap.size + 1) (e := 5) ?_) (hb5.grown (grownBy_putObj' w5 D _) hb5.size (fun k e => by cases e; omega))
      exact Own.keepT hown5 fun g cur hB ho => (World.putObj_heap_other (fun e => by subst e; rw [hdef5] at ho; injection ho with ho; cases ho)).trans ho
  case body =>
    intro l k W hk hl hI
    have HI := Lib.hid hI
    obtain ⟨hbox, -, ⟨A2, c2, hob, hown⟩, hbelW, hsW⟩ := hI
    simp only [List.setIfInBounds_toArray, List.set_cons_succ, List.set_cons_zero]
    have hw := wl_le hp'.out
    rw [Hn.out] at hw
    have hr : itR p bs k ≤ n := by rw [← Hn.out]; exact itR_le hp'.out k
    have hne := wl_ne hk
    have hnext := Lib.hid (backTo_next p bs k)
    have hbv : Hid (encB (by8 p bs (itR p bs k)) = .int .u8 (byteR bs p (itR p bs k))) := by show _ = _; rw [byteR_eq]; rfl
    have hcal : Hid (∀ W1, Below W.heap.size W W1 → Calls Tryz.prog 229 #[rowsV A n c p, .int .i64 (itR p bs k : Int)] W1 fun e w' => e = .returned (.int .u8 (byteR bs p (itR p bs k))) ∧ Below W1.heap.size W1 w') := fun W1 hb => at_any A n c p (itR p bs k) bs W1 ((hx.below hbelW).below hb) hn hp hr hne
    unfold rowsV at hcal
    obtain ⟨y, hy⟩ : ∃ y, y = by8 p bs (itR p bs k) := ⟨_, rfl⟩
    obtain ⟨r, hr'⟩ : ∃ r, r = itR p bs k := ⟨_, rfl⟩
    rw [← hy] at hbv hnext
    rw [← hr'] at hcal hbv hr ⊢
    obtain ⟨bv, hbv'⟩ : ∃ bv, bv = byteR bs p r := ⟨_, rfl⟩
    rw [← hbv'] at hcal hbv
    clear hy hr' hne hbv'
    have m1 : Hid (k + 1 ≤ maxLen ∧ (k + 1) * 1 ≤ 140737488355328) := ⟨by simp [maxLen]; omega, by omega⟩
    have facts : Hid (∀ W1, Below W.heap.size W W1 → W1.cell? ⟨w.heap.size, 0, none⟩ = some (.slice A n c) ∧ W1.cell? ⟨w.heap.size, 1, none⟩ = some (.int .i64 (p : Int)) ∧ W1.cell? ⟨w.heap.size + 1 + 1, 0, none⟩ = some (.slice A2 k c2) ∧ W1.frozen? ⟨w.heap.size + 1 + 1, 0, none⟩ = false ∧ Own encB W1 (w.heap.size + 1) 5 A2 k c2 (backTo p bs k) ∧ w.heap.size + 1 ≤ W1.heap.size ∧ w.heap.size + 1 + 1 < W1.heap.size) := fun W1 hb => by
      have t1 : BoxR W1 w.heap.size A n c p := hbox.below hb hbox.lt
      have t2 := Boxed.below' hob hb (Boxed.lt hob)
      exact ⟨t1.cell (j := 0) undef (by simp), t1.cell (j := 1) undef (by simp), t2.cell, t2.frozen, hown.below hb, by have := hb.size; omega, by have := hb.size; omega⟩
    have fin : Hid (∀ (W1 W6 : World) (A6 : Option Addr) (c6 : Nat), Below W.heap.size W W1 → W1.grownBy W6 (Value.slice A2 k c2).ownBlock → Own encB W6 (w.heap.size + 1) 5 A6 (k + 1) c6 (backTo p bs k ++ [y]) → W6.cell? ⟨w.heap.size + 1 + 1, 0, none⟩ = some (.slice A2 k c2) ∧ W6.frozen? ⟨w.heap.size + 1 + 1, 0, none⟩ = false ∧
        (KeepsFrom (w.heap.size + 4) W (W6.setCell ⟨w.heap.size + 2, 0, none⟩ (.slice A6 (k + 1) c6)) ∧ walkKp w.heap.size (w.heap.size + 3) W (W6.setCell ⟨w.heap.size + 2, 0, none⟩ (.slice A6 (k + 1) c6)) ∧ InvI w A n c p bs (k + 1) (W6.setCell ⟨w.heap.size + 2, 0, none⟩ (.slice A6 (k + 1) c6)))) := fun W1 W6 A6 c6 hb hg ho => by
      have t2 := Boxed.below' hob hb (Boxed.lt hob)
      have t6 : Boxed W6 (w.heap.size + 2) 23 (.slice A2 k c2) := t2.kept hg (fun e => by
        obtain ⟨_, cur, hc⟩ := Own.type (hown.below hb) e.symm
        unfold Boxed at t2
        rw [t2] at hc
        injection hc with hc
        injection hc with _ hc
        exact absurd hc (by decide))
      exact ⟨t6.cell, t6.frozen, HI.out.step hb hob hown hg (by rw [hnext.out]; exact ho)⟩
    clear hbox hob hown HI
    gi_wp2
    refine wpIn_region_orders [[0, 1, 2, 3, 4, 5, 6], [0, 2, 1, 3, 4, 5, 6], [1, 0, 2, 3, 4, 5, 6], [1, 2, 0, 3, 4, 5, 6], [1, 2, 3, 0, 4, 5, 6], [1, 2, 3, 4, 0, 5, 6], [2, 0, 1, 3, 4, 5, 6], [2, 1, 0, 3, 4, 5, 6], [2, 1, 3, 0, 4, 5, 6], [2, 1, 3, 4, 0, 5, 6]] (by kernel_rfl) (by kernel_rfl) ?_
    intro W0 hW0
    have hb0 : Below W.heap.size W W0 := by rw [hW0]; exact (Drawn.drewN W 1).below _
    obtain ⟨x1, x2, x3, x4, x5, x6, x7⟩ := facts.out W0 hb0
    clear hW0
    refine List.forall_mem_cons.2 ⟨?_, List.forall_mem_cons.2 ⟨?_, List.forall_mem_cons.2 ⟨?_, List.forall_mem_cons.2 ⟨?_, List.forall_mem_cons.2 ⟨?_, List.forall_mem_cons.2 ⟨?_, List.forall_mem_cons.2 ⟨?_, List.forall_mem_cons.2 ⟨?_, List.forall_mem_cons.2 ⟨?_, List.forall_mem_cons.2 ⟨?_, fun _ h => nomatch h⟩⟩⟩⟩⟩⟩⟩⟩⟩⟩
    all_goals
      simp only [List.filterMap_cons, List.filterMap_nil, List.getElem?_toArray, List.getElem?_cons_zero, List.getElem?_cons_succ]
      change wpListIn _ _ _ _ _ [_, _, _, _, _, _, _] _ _
      gi_wp2_with (first
        | (refine ⟨trivial, ?_⟩; gi_at_call 229; refine (callsIn_wide.2 (hcal.out W0 hb0)).mono ?_; rintro e W1 ⟨rfl, hb1⟩; have hb1 := hb0.trans (hb1.mono hb0.size); obtain ⟨y1, y2, y3, y4, y5, y6, y7⟩ := facts.out W1 hb1)
        | (gi_at_builtin; refine wpListIn_pushg (enc := encB) rfl (.tmp 13) (.tmp 17) rfl uB infoB encB_one rfl rfl y5 y6 y _ hbv.out rfl m1.out.1 m1.out.2 ?_; intro A6 c6 W6 ho6 hk6; obtain ⟨z1, z2, z3⟩ := fin.out W1 W6 A6 c6 hb1 hk6 ho6))
      rw [Hs3.out]
      exact z3
end Go.Proofs.YtohadkmaemmfgaaGreatDoor.Bwt
namespace Go.Proofs.YtohadkmaemmfgaaGreatDoor.Bwt
open Go.RowKit Go.Proofs Go.Shelf
set_option linter.unusedVariables false
theorem limE_zero {n : Nat} {p : Int} (h : limE n p = 0) : n ≤ 65536 ∧ 0 ≤ p ∧ p ≤ n := by
  unfold limE at h
  split at h
  · cases h
  · split at h
    · cases h
    · omega
def lkRes (bs : List UInt8) (p : Int) : List Int := if limE bs.length p = 0 then lkAll p.toNat bs else []
def invRes (bs : List UInt8) (p : Int) : List UInt8 := if limE bs.length p = 0 then invL p.toNat bs else []
def invErr (bs : List UInt8) (p : Int) : Int := if limE bs.length p = 0 then invE p.toNat bs else limE bs.length p
theorem inverseP_any (A : Option Addr) (n c : Nat) (p : Int) (bs : List UInt8) (w : World) (hx : Bytes w A n c bs) (hn : n ≤ 1000000000) :
    Calls Tryz.prog 90 #[.slice A n c, .int .i64 p] w (RetBytes w (invRes bs p) (invErr bs p)) := by
  have Hn := Lib.hid hx.1
  have hcal := newRows_any A n c p w hn
  by_cases h : limE n p = 0
  · obtain ⟨h1, h2, h3⟩ := limE_zero h
    unfold newV at hcal
    rw [if_pos h, h] at hcal
    have Hcal := Lib.hid hcal; clear hcal
    have hR : Hid (invRes bs p = invL p.toNat bs ∧ invErr bs p = invE p.toNat bs) := by show _ ∧ _; unfold invRes invErr; rw [Hn.out, if_pos h, if_pos h]; exact ⟨rfl, rfl⟩
    clear h
    obtain ⟨q, rfl⟩ : ∃ q : Nat, p = (q : Int) := ⟨p.toNat, by omega⟩
    rw [Int.toNat_natCast] at hR
    go_enter Tryz.func90, Tryz.ntmps90
    go_wp2_with fail
    refine Hcal.out.mono ?_
    rintro e w1 ⟨rfl, hb1⟩
    have hx1 := hx.below hb1
    clear Hcal
    go_wp2_with fail
    have hc2 := inverse_any A n c q bs _ (hx1.alloc (.cells #[.slice A n c, .int .i64 (q : Int)] 195)) (by omega) (by omega)
    refine hc2.mono ?_
    rintro e w2 ⟨A2, n2, c2, rfl, hby, hb2⟩
    have hbel : Below w.heap.size w w2 := (hb1.alloc hb1.size _).trans (hb2.mono (by rw [World.size_alloc]; have := hb1.size; omega))
    go_wp2_with fail
    go_ret2
    rw [hR.out.1, hR.out.2]
    exact RetBytes.mk rfl hby hbel
  · unfold newV at hcal
    rw [if_neg h] at hcal
    have Hcal := Lib.hid hcal; clear hcal
    have hR : Hid (invRes bs p = [] ∧ invErr bs p = limE n p) := by show _ ∧ _; unfold invRes invErr; rw [Hn.out, if_neg h, if_neg h]; exact ⟨rfl, rfl⟩
    obtain ⟨x, hx'⟩ : ∃ x, x = limE n p := ⟨_, rfl⟩
    rw [← hx'] at Hcal h hR
    clear hx'
    have d0 : (x != 0) = true := by simp; exact h
    go_enter Tryz.func90, Tryz.ntmps90
    go_wp2_with fail
    refine Hcal.out.mono ?_
    rintro e w1 ⟨rfl, hb1⟩
    clear Hcal
    go_wp2_with fail
    go_ret2
    rw [hR.out.1, hR.out.2]
    exact RetBytes.err rfl (hb1.alloc hb1.size _)
end Go.Proofs.YtohadkmaemmfgaaGreatDoor.Bwt
namespace Go.Proofs.YtohadkmaemmfgaaGreatDoor.Bwt
open Go.RowKit Go.Proofs Go.Shelf
set_option linter.unusedVariables false
attribute [local go_sem] Oper.semAt_some
structure BefI (w : World) (A : Option Addr) (n c p r d : Nat) (bs : List UInt8) (x : Nat) (W : World) : Prop where
  row : Boxed W (w.heap.size + 1) 3 (.int .i64 (r : Int))
  byt : Boxed W (w.heap.size + 2) 5 (.int .u8 (d : Int))
  cnt : Boxed W (w.heap.size + 3) 3 (.int .i64 (x : Int))
  below : Below w.heap.size w W
  size : w.heap.size + 5 ≤ W.heap.size
theorem BefI.kept {w W W' : World} {A : Option Addr} {n c p r d x : Nat} {bs : List UInt8} {row : Option Nat} (h : BefI w A n c p r d bs x W) (hg : W.grownBy W' row) (hrow : ∀ r, row = some r → w.heap.size + 5 ≤ r) : BefI w A n c p r d bs x W' := by
  have ne : ∀ j, j < w.heap.size + 5 → some j ≠ row := fun j hj e => by have := hrow j e.symm; omega
  exact ⟨h.row.kept hg (ne _ (by omega)), h.byt.kept hg (ne _ (by omega)), h.cnt.kept hg (ne _ (by omega)), h.below.grown hg h.below.size (fun r e => by have := hrow r e; omega), Nat.le_trans h.size hg.size⟩
theorem BefI.step {w W : World} {A : Option Addr} {n c p r d x : Nat} {bs : List UInt8} (h : BefI w A n c p r d bs x W) :
    KeepsFrom (w.heap.size + 5) W (W.setCell ⟨w.heap.size + 3, 0, none⟩ (.int .i64 ((x + 1 : Nat) : Int))) ∧ boxKp w.heap.size (w.heap.size + 4) W (W.setCell ⟨w.heap.size + 3, 0, none⟩ (.int .i64 ((x + 1 : Nat) : Int))) ∧ BefI w A n c p r d bs (x + 1) (W.setCell ⟨w.heap.size + 3, 0, none⟩ (.int .i64 ((x + 1 : Nat) : Int))) := by
  have hsw : (W.setCell ⟨w.heap.size + 3, 0, none⟩ (.int .i64 ((x + 1 : Nat) : Int))).heap.size = W.heap.size := by simp [World.setCell]
  have oth : ∀ j, j ≠ w.heap.size + 3 → (W.setCell ⟨w.heap.size + 3, 0, none⟩ (.int .i64 ((x + 1 : Nat) : Int))).heap[j]? = W.heap[j]? := fun j hj => Below.heap_setCell W ⟨w.heap.size + 3, 0, none⟩ _ j hj
  have hb : Below w.heap.size W (W.setCell ⟨w.heap.size + 3, 0, none⟩ (.int .i64 ((x + 1 : Nat) : Int))) := (Below.refl _ _).setCell (p := ⟨w.heap.size + 3, 0, none⟩) (by show _ ≤ w.heap.size + 3; omega) _
  exact ⟨⟨by rw [hsw]; exact Nat.le_refl _, fun j o hj ho _ => (oth j (by omega)).trans ho⟩, ⟨oth _ (by omega), hb⟩, (oth _ (by omega)).trans h.row, (oth _ (by omega)).trans h.byt, h.cnt.set _, h.below.trans hb, by rw [hsw]; exact h.size⟩
end Go.Proofs.YtohadkmaemmfgaaGreatDoor.Bwt
namespace Go.Proofs.YtohadkmaemmfgaaGreatDoor.Bwt
open Go.RowKit Go.Proofs Go.Shelf
set_option linter.unusedVariables false
attribute [local go_sem] Oper.semAt_some
structure Gr (W : World) where
  w : World
  h : Below W.heap.size W w
instance (W : World) : Nonempty (Gr W) := ⟨⟨W, Below.refl _ _⟩⟩
structure CntI (w : World) (S T : Nat) (A : Option Addr) (n c p : Nat) (bs : List UInt8) (lo hi : Nat) (W : World) : Prop where
  r1 : Boxed W w.heap.size 3 (.int .i64 0)
  r2 : Boxed W (w.heap.size + 1) 26 (.int .i64 0)
  box : BoxR W S A n c p
  st : Row (Value.int .i64) W T 322 (stAll bs)
  low : Boxed W (T + 1) 3 (.int .i64 (lo : Int))
  high : Boxed W (T + 2) 3 (.int .i64 (hi : Int))
  below : Below w.heap.size w W
  size : T + 4 ≤ W.heap.size
section
variable {w W W' : World} {S T : Nat} {A : Option Addr} {n c p : Nat} {bs : List UInt8} {lo hi : Nat}
theorem CntI.kept {row : Option Nat} (hS : w.heap.size + 2 ≤ S) (hT : S + 1 ≤ T) (h : CntI w S T A n c p bs lo hi W) (hg : W.grownBy W' row) (hrow : ∀ r, row = some r → T + 4 ≤ r) : CntI w S T A n c p bs lo hi W' := by
  have ne : ∀ j, j < T + 4 → some j ≠ row := fun j hj e => by have := hrow j e.symm; omega
  exact ⟨h.r1.kept hg (ne _ (by omega)), h.r2.kept hg (ne _ (by omega)), h.box.grown hg (ne _ (by omega)), h.st.grown hg (ne _ (by omega)), h.low.kept hg (ne _ (by omega)), h.high.kept hg (ne _ (by omega)), h.below.grown hg h.below.size (fun r e => by have := hrow r e; omega), Nat.le_trans h.size hg.size⟩
theorem CntI.grow (h : CntI w S T A n c p bs lo hi W) (hg : Below W.heap.size W W') : CntI w S T A n c p bs lo hi W' :=
  ⟨Boxed.below' h.r1 hg h.r1.lt, Boxed.below' h.r2 hg h.r2.lt, h.box.below hg h.box.lt, h.st.below hg h.st.lt, Boxed.below' h.low hg h.low.lt, Boxed.below' h.high hg h.high.lt, h.below.trans (hg.mono h.below.size), Nat.le_trans h.size hg.size⟩
theorem CntI.step (hS : w.heap.size + 2 ≤ S) (hT : S + 1 ≤ T) (h : CntI w S T A n c p bs lo hi W) (hg : Below W.heap.size W W') (lo' hi' : Nat) :
    KeepsFrom (T + 4) W ((W'.setCell ⟨T + 1, 0, none⟩ (.int .i64 (lo' : Int))).setCell ⟨T + 2, 0, none⟩ (.int .i64 (hi' : Int))) ∧ boxKp w.heap.size (T + 3) W ((W'.setCell ⟨T + 1, 0, none⟩ (.int .i64 (lo' : Int))).setCell ⟨T + 2, 0, none⟩ (.int .i64 (hi' : Int))) ∧ CntI w S T A n c p bs lo' hi' ((W'.setCell ⟨T + 1, 0, none⟩ (.int .i64 (lo' : Int))).setCell ⟨T + 2, 0, none⟩ (.int .i64 (hi' : Int))) := by
  have h' := h.grow hg
  have hsz := h.size
  have hgs := hg.size
  have hbs := h.below.size
  have hsw : ((W'.setCell ⟨T + 1, 0, none⟩ (.int .i64 (lo' : Int))).setCell ⟨T + 2, 0, none⟩ (.int .i64 (hi' : Int))).heap.size = W'.heap.size := by simp [World.setCell]
  have oth : ∀ j, j ≠ T + 1 → j ≠ T + 2 → ((W'.setCell ⟨T + 1, 0, none⟩ (.int .i64 (lo' : Int))).setCell ⟨T + 2, 0, none⟩ (.int .i64 (hi' : Int))).heap[j]? = W'.heap[j]? := fun j h1 h2 => (Below.heap_setCell _ ⟨T + 2, 0, none⟩ _ j h2).trans (Below.heap_setCell _ ⟨T + 1, 0, none⟩ _ j h1)
  have hb : Below w.heap.size W ((W'.setCell ⟨T + 1, 0, none⟩ (.int .i64 (lo' : Int))).setCell ⟨T + 2, 0, none⟩ (.int .i64 (hi' : Int))) := ((hg.mono hbs).setCell (p := ⟨T + 1, 0, none⟩) (by show _ ≤ T + 1; omega) _).setCell (p := ⟨T + 2, 0, none⟩) (by show _ ≤ T + 2; omega) _
  refine ⟨⟨by rw [hsw]; exact hgs, fun j o hj ho _ => (oth j (by omega) (by omega)).trans ((hg.block j (Array.getElem?_eq_some_iff.1 ho).1).trans ho)⟩, ⟨(oth _ (by omega) (by omega)).trans (hg.block _ (by omega)), hb⟩, ?_⟩
  exact ⟨(oth _ (by omega) (by omega)).trans h'.r1, (oth _ (by omega) (by omega)).trans h'.r2, (oth _ (by omega) (by omega)).trans h'.box, (oth _ (by omega) (by omega)).trans h'.st,
    (Below.heap_setCell _ ⟨T + 2, 0, none⟩ _ (T + 1) (by show T + 1 ≠ T + 2; omega)).trans (h'.low.set _), Boxed.set _ ((Below.heap_setCell _ ⟨T + 1, 0, none⟩ _ (T + 2) (by show T + 2 ≠ T + 1; omega)).trans h'.high), h.below.trans hb, by rw [hsw]; omega⟩
theorem CntI.stop (hS : w.heap.size + 2 ≤ S) (hT : S + 1 ≤ T) (h : CntI w S T A n c p bs lo hi W) :
    KeepsFrom (T + 4) W ((W.setCell ⟨w.heap.size, 0, none⟩ (.int .i64 0)).setCell ⟨w.heap.size + 1, 0, none⟩ (.int .i64 0)) ∧ CntI w S T A n c p bs lo hi ((W.setCell ⟨w.heap.size, 0, none⟩ (.int .i64 0)).setCell ⟨w.heap.size + 1, 0, none⟩ (.int .i64 0)) := by
  have hsw : ((W.setCell ⟨w.heap.size, 0, none⟩ (.int .i64 0)).setCell ⟨w.heap.size + 1, 0, none⟩ (.int .i64 0)).heap.size = W.heap.size := by simp [World.setCell]
  have oth : ∀ j, j ≠ w.heap.size → j ≠ w.heap.size + 1 → ((W.setCell ⟨w.heap.size, 0, none⟩ (.int .i64 0)).setCell ⟨w.heap.size + 1, 0, none⟩ (.int .i64 0)).heap[j]? = W.heap[j]? := fun j h1 h2 => (Below.heap_setCell _ ⟨w.heap.size + 1, 0, none⟩ _ j h2).trans (Below.heap_setCell _ ⟨w.heap.size, 0, none⟩ _ j h1)
  have hb : Below w.heap.size W ((W.setCell ⟨w.heap.size, 0, none⟩ (.int .i64 0)).setCell ⟨w.heap.size + 1, 0, none⟩ (.int .i64 0)) := ((Below.refl _ _).setCell (p := ⟨w.heap.size, 0, none⟩) (by show _ ≤ w.heap.size; omega) _).setCell (p := ⟨w.heap.size + 1, 0, none⟩) (by show _ ≤ w.heap.size + 1; omega) _
  refine ⟨⟨by rw [hsw]; exact Nat.le_refl _, fun j o hj ho _ => (oth j (by omega) (by omega)).trans ho⟩, ?_⟩
  exact ⟨(Below.heap_setCell _ ⟨w.heap.size + 1, 0, none⟩ _ w.heap.size (by show w.heap.size ≠ w.heap.size + 1; omega)).trans (h.r1.set _), Boxed.set _ ((Below.heap_setCell _ ⟨w.heap.size, 0, none⟩ _ (w.heap.size + 1) (by show w.heap.size + 1 ≠ w.heap.size; omega)).trans h.r2),
    (oth _ (by omega) (by omega)).trans h.box, (oth _ (by omega) (by omega)).trans h.st, (oth _ (by omega) (by omega)).trans h.low, (oth _ (by omega) (by omega)).trans h.high, h.below.trans hb, by rw [hsw]; exact h.size⟩
end
end Go.Proofs.YtohadkmaemmfgaaGreatDoor.Bwt
namespace Go.Proofs.YtohadkmaemmfgaaGreatDoor.Bwt
open Go.RowKit Go.Proofs
set_option linter.unusedVariables false
def upB (ops : List Oper) : Bool := (List.range ops.length).all fun j => match ops[j]? with | some o => o.after.all fun e => (!Region.binds .any e) || decide (e.on < j) | none => true
theorem upB_spec {ops : List Oper} (h : upB ops = true) {j : Nat} {o : Oper} (ho : ops[j]? = some o) (e : _) (he : e ∈ o.after) (hb : Region.binds .any e = true) : e.on < j := by
  have hj : j < ops.length := (List.getElem?_eq_some_iff.1 ho).1
  have := List.all_eq_true.1 h j (List.mem_range.2 hj)
  rw [ho] at this
  have := Array.all_eq_true_iff_forall_mem.1 this e he
  rw [hb] at this
  simpa using this
def unl (n : Nat) (listed : Array Bool) : Nat := ((List.range n).filter fun j => !listed.getD j false).length
theorem getD_set' (listed : Array Bool) (i j : Nat) (hi : i < listed.size) : (listed.setIfInBounds i true).getD j false = if i = j then true else listed.getD j false := by
  simp only [Array.getD_eq_getD_getElem?, Array.getElem?_setIfInBounds]
  by_cases h : i = j
  · subst h; simp [hi]
  · simp [h]
theorem unl_set {n : Nat} {listed : Array Bool} {i : Nat} (hi : i < n) (hs : listed.size = n) (h : listed.getD i false = false) : unl n (listed.setIfInBounds i true) < unl n listed := by
  unfold unl
  have hsub : (List.range n).filter (fun j => !(listed.setIfInBounds i true).getD j false) = ((List.range n).filter fun j => !listed.getD j false).filter (fun j => decide (j ≠ i)) := by
    rw [List.filter_filter]
    apply List.filter_congr
    intro j _
    rw [getD_set' _ _ _ (by omega)]
    by_cases e : i = j
    · simp [e]
    · simp [e, Ne.symm e]
  rw [hsub]
  refine Nat.lt_of_le_of_ne (List.length_filter_le _ _) (fun e => ?_)
  have := List.length_filter_eq_length_iff.1 e i (List.mem_filter.2 ⟨List.mem_range.2 hi, by rw [h]; rfl⟩)
  simp at this
section
variable {P : Program} {Q : Exit → Act → World → Prop} {m l0 : Nat} {l : List Oper}
theorem wpAny_inv (J : Array Bool → Act → World → Prop) (hup : upB l = true)
    (hstep : ∀ i o listed a w, l[i]? = some o → listed.getD i false = false → (∀ e ∈ o.after, Region.binds .any e = true → listed.getD e.on false = true) → listed.size = l.length → J listed a w → Region.wanted o (yielded l.toArray a.tmps) = true ∧ o.wp P a w (J (listed.setIfInBounds i true)) Q)
    (hend : ∀ listed a w, (∀ j, j < l.length → listed.getD j false = true) → J listed a w → Q .normal a w) :
    ∀ (fuel : Nat) (listed : Array Bool) (a : Act) (w : World), listed.size = l.length → unl l.length listed ≤ fuel → J listed a w → wpAny P .any l.toArray Q fuel listed a w := by
  have getDs : ∀ (listed : Array Bool) (j : Nat), j < listed.size → listed.getD j true = listed.getD j false := fun listed j hj => by simp [Array.getD_eq_getD_getElem?, hj]
  have ready_all : ∀ listed : Array Bool, listed.size = l.length → Region.ready .any l.toArray listed = [] → ∀ j, j < l.length → listed.getD j false = true := fun listed hs hr => by
    intro j
    induction j using Nat.strongRecOn with
    | _ j ih =>
      intro hj
      cases hc : listed.getD j false with
      | true => rfl
      | false =>
        exfalso
        have hm : j ∈ Region.ready .any l.toArray listed := by
          refine mem_ready.2 ⟨by rw [getDs _ _ (by omega)]; exact hc, l[j], by simp [hj], fun e he hb => ?_⟩
          have hlt := upB_spec hup (j := j) (o := l[j]) (by simp [hj]) e he hb
          exact ih _ hlt (by omega)
        rw [hr] at hm
        cases hm
  intro fuel
  induction fuel with
  | zero =>
    intro listed a w hs hu hJ
    have hall : ∀ j, j < l.length → listed.getD j false = true := fun j hj => by
      cases hc : listed.getD j false with
      | true => rfl
      | false =>
        exfalso
        have hm : j ∈ (List.range l.length).filter fun j => !listed.getD j false := List.mem_filter.2 ⟨List.mem_range.2 hj, by rw [hc]; rfl⟩
        have : 0 < unl l.length listed := List.length_pos_of_mem hm
        omega
    refine ⟨?_, hend _ _ _ hall hJ⟩
    cases hr : Region.ready .any l.toArray listed with
    | nil => rfl
    | cons i is =>
      exfalso
      have hm : i ∈ Region.ready .any l.toArray listed := by rw [hr]; simp
      obtain ⟨h1, o, h2, _⟩ := mem_ready.1 hm
      have hi : i < l.length := by simpa using (Array.getElem?_eq_some_iff.1 h2).1
      rw [getDs _ _ (by omega), hall i hi] at h1
      cases h1
  | succ fuel ih =>
    intro listed a w hs hu hJ
    refine ⟨fun hr => hend _ _ _ (ready_all listed hs hr) hJ, fun i hi => ?_⟩
    obtain ⟨h1, o, h2, h3⟩ := mem_ready.1 hi
    have hil : i < l.length := by simpa using (Array.getElem?_eq_some_iff.1 h2).1
    rw [getDs _ _ (by omega)] at h1
    unfold wpOp
    simp only [h2]
    obtain ⟨hw, hop⟩ := hstep i o listed a w (by simpa using h2) h1 h3 hs hJ
    rw [if_pos hw]
    refine .inl (Oper.wp_mono (fun a' w' hJ' => ih _ a' w' (by simpa using hs) ?_ hJ') hop)
    have := unl_set hil hs h1
    omega
theorem wpIn_region_inv {id : Nat} {a : Act} {w : World} (J : Array Bool → Act → World → Prop) (hm : P.follows .mixedOrders = true) (hnd : noDefer l = true) (hup : upB l = true)
    (h0 : J (Array.replicate l.length false) a w.drew)
    (hstep : ∀ i o listed a w, l[i]? = some o → listed.getD i false = false → (∀ e ∈ o.after, Region.binds .any e = true → listed.getD e.on false = true) → listed.size = l.length → J listed a w → Region.wanted o (yielded l.toArray a.tmps) = true ∧ o.wp P a w (J (listed.setIfInBounds i true)) (OnlyNormal Q))
    (hend : ∀ listed a w, (∀ j, j < l.length → listed.getD j false = true) → J listed a w → Q .normal a w) : (Code.region id l.toArray true).wpIn (Fence.wide.inRound l0) m P Q a w := by
  refine wpIn_mono (Q := OnlyNormal Q) ?_ (fun e a w h => by obtain ⟨rfl, h⟩ := h; exact h)
  refine wpIn_region_any hm ?_
  refine anyIn_of_any OnlyNormal.out (noDefer_spec hnd) _ _ _ _ ?_
  have := wpAny_inv (P := P) (Q := OnlyNormal Q) J hup hstep (fun listed a w h1 h2 => ⟨rfl, hend listed a w h1 h2⟩) l.length (Array.replicate l.length false) a w.drew (by simp) (by unfold unl; exact Nat.le_trans (List.length_filter_le _ _) (by simp)) h0
  simpa using this
end
structure SlotInv (N s0 m : Nat) (base : List (Nat × Value)) (v : Nat → Value) (C : Array Bool → World → Prop) (listed : Array Bool) (a : Act) (w : World) : Prop where
  size : a.tmps.size = N
  base : ∀ x ∈ base, a.eval (.tmp x.1) = x.2
  got : ∀ j, j < m → listed.getD j false = true → a.eval (.tmp (s0 + j)) = v j
  world : C listed w
theorem eval_put {a : Act} {d s : Nat} {v : Value} : (a.put (some d) v).eval (.tmp s) = if d = s ∧ s < a.tmps.size then v else a.eval (.tmp s) := by
  simp only [Act.put, Act.eval, Array.getD_eq_getD_getElem?, Array.getElem?_setIfInBounds]
  by_cases h : d = s
  · subst h
    by_cases h2 : d < a.tmps.size
    · simp [h2]
    · simp [h2]
  · simp [h]
theorem SlotInv.put {N s0 m : Nat} {base : List (Nat × Value)} {v : Nat → Value} {C : Array Bool → World → Prop} {listed : Array Bool} {a : Act} {w w' : World} (h : SlotInv N s0 m base v C listed a w) {i : Nat} (hi : i < m) (hN : s0 + m ≤ N) (hb : ∀ x ∈ base, x.1 < s0 ∨ s0 + m ≤ x.1) (hs : i < listed.size)
    (hC : C (listed.setIfInBounds i true) w') : SlotInv N s0 m base v C (listed.setIfInBounds i true) (a.put (some (s0 + i)) (v i)) w' := by
  refine ⟨by simp [Act.put, h.size], fun x hx => ?_, fun j hj hl => ?_, hC⟩
  · rw [eval_put, if_neg (by have := hb x hx; omega)]
    exact h.base x hx
  · rw [eval_put]
    by_cases e : i = j
    · subst e
      rw [if_pos ⟨rfl, by rw [h.size]; omega⟩]
    · rw [if_neg (by omega)]
      rw [getD_set' _ _ _ hs, if_neg e] at hl
      exact h.got j hj hl
theorem SlotInv.none {N s0 m : Nat} {base : List (Nat × Value)} {v : Nat → Value} {C : Array Bool → World → Prop} {listed : Array Bool} {a : Act} {w w' : World} (h : SlotInv N s0 m base v C listed a w) {i : Nat} (hi : m ≤ i) (hs : i < listed.size)
    (hC : C (listed.setIfInBounds i true) w') : SlotInv N s0 m base v C (listed.setIfInBounds i true) (a.put none undef) w' :=
  ⟨h.size, h.base, fun j hj hl => by rw [getD_set' _ _ _ hs, if_neg (by omega)] at hl; exact h.got j hj hl, hC⟩
theorem wp_value {P : Program} {o : Oper} {a : Act} {w : World} {K : Act → World → Prop} {Q : Exit → Act → World → Prop} {v : Value} (h : (execOp a.eval o).run P w = .ok (.value v) w) (hK : K (a.put o.dst v) w) : o.wp P a w K Q := by
  unfold Oper.wp; rw [h]; exact hK
theorem wp_store {P : Program} {o : Oper} {a : Act} {w w' : World} {K : Act → World → Prop} {Q : Exit → Act → World → Prop} (h : (execOp a.eval o).run P w = .ok .skip w') (hK : K (a.put o.dst undef) w') : o.wp P a w K Q := by
  unfold Oper.wp; rw [h]; exact hK
end Go.Proofs.YtohadkmaemmfgaaGreatDoor.Bwt
namespace Go.Proofs.YtohadkmaemmfgaaGreatDoor.Bwt
open Go.RowKit Go.Proofs Go.Shelf
set_option linter.unusedVariables false
set_option linter.unusedSimpArgs false
attribute [local go_sem] Oper.semAt_some
theorem two (w : World) (o1 o2 : Obj) : ((w.alloc o1).alloc o2).heap[w.heap.size]? = some o1 ∧ ((w.alloc o1).alloc o2).heap[w.heap.size + 1]? = some o2 ∧ Below w.heap.size w ((w.alloc o1).alloc o2) ∧ ((w.alloc o1).alloc o2).heap.size = w.heap.size + 2 := by
  have s1 : (w.alloc o1).heap.size = w.heap.size + 1 := by simp
  have t2 := heap_alloc_new (w.alloc o1) o2
  have t1 := heap_alloc_new w o1
  rw [s1] at t2
  refine ⟨?_, t2, ?_, by simp⟩
  · rw [Below.heap_alloc _ _ _ (by omega)]; exact t1
  · exact (((Below.refl _ _).alloc (Nat.le_refl _) _).alloc (by omega) _)
theorem cell_setCell_far {W : World} {p q : Addr} (v : Value) (h : q.block ≠ p.block) : (W.setCell p v).cell? q = W.cell? q := by
  have := Below.heap_setCell W p v q.block h
  simp only [World.cell?]
  rw [this]
theorem frozen_setCell_far {W : World} {p q : Addr} (v : Value) (h : q.block ≠ p.block) : (W.setCell p v).frozen? q = W.frozen? q := by
  have := Below.heap_setCell W p v q.block h
  simp only [World.frozen?]
  rw [this]
def cntW (T lo' hi' : Nat) : Bool → Bool → World → World
  | false, false, x => x
  | true, false, x => x.setCell ⟨T + 1, 0, none⟩ (.int .i64 (lo' : Int))
  | false, true, x => x
  | true, true, x => (x.setCell ⟨T + 1, 0, none⟩ (.int .i64 (lo' : Int))).setCell ⟨T + 2, 0, none⟩ (.int .i64 (hi' : Int))
def cntC (W : World) (T lo' hi' : Nat) (listed : Array Bool) (w' : World) : Prop :=
  (∃ g : Gr W, w' = cntW T lo' hi' (listed.getD 16 false) (listed.getD 17 false) g.w) ∧ (listed.getD 16 false = true → ∀ j, (j < 8 ∨ 11 ≤ j ∧ j < 15) → listed.getD j false = true) ∧ (listed.getD 17 false = true → listed.getD 16 false = true ∧ ∀ j, j < 16 → listed.getD j false = true) ∧ (listed.getD 14 false = true → ∀ j, 11 ≤ j → j < 14 → listed.getD j false = true)
section
variable {W w' : World} {T lo' hi' : Nat} {listed : Array Bool}
theorem getD_rep (n j : Nat) : (Array.replicate n false).getD j false = false := by
  rw [Array.getD_eq_getD_getElem?, Array.getElem?_replicate]
  split <;> rfl
theorem cntC.start (W : World) (T lo' hi' : Nat) : cntC W T lo' hi' (Array.replicate 18 false) W.drew := by
  have h : ∀ j, (Array.replicate 18 false).getD j false = false := getD_rep 18
  refine ⟨⟨⟨W.drew, (Drawn.drewN W 1).below _⟩, ?_⟩, fun e => ?_, fun e => ?_, fun e => ?_⟩
  · rw [h, h]; rfl
  · rw [h] at e; cases e
  · rw [h] at e; cases e
  · rw [h] at e; cases e
theorem cntC.off17 (h : cntC W T lo' hi' listed w') {j : Nat} (hun : listed.getD j false = false) (hj : j < 16) : listed.getD 17 false = false := by
  cases hc : listed.getD 17 false with
  | false => rfl
  | true => have := (h.2.2.1 hc).2 j hj; rw [hun] at this; cases this
theorem cntC.off16 (h : cntC W T lo' hi' listed w') {j : Nat} (hun : listed.getD j false = false) (hj : j < 8 ∨ 11 ≤ j ∧ j < 15) : listed.getD 16 false = false := by
  cases hc : listed.getD 16 false with
  | false => rfl
  | true => have := h.2.1 hc j hj; rw [hun] at this; cases this
theorem cntC.early (h : cntC W T lo' hi' listed w') {j : Nat} (hun : listed.getD j false = false) (hj : j < 8 ∨ 11 ≤ j ∧ j < 15) : ∃ g : Gr W, w' = g.w := by
  have h1 := h.off16 hun hj
  have h2 := h.off17 hun (by omega)
  obtain ⟨g, hg⟩ := h.1
  rw [h1, h2] at hg
  exact ⟨g, hg⟩
theorem cntC.set (h : cntC W T lo' hi' listed w') {i : Nat} (hi : i < 16 ∧ i ≠ 14) (hs : i < listed.size) : cntC W T lo' hi' (listed.setIfInBounds i true) w' := by
  have e : ∀ j, listed.getD j false = true → (listed.setIfInBounds i true).getD j false = true := fun j hj => by rw [getD_set' _ _ _ hs, hj]; split <;> rfl
  have e16 : (listed.setIfInBounds i true).getD 16 false = listed.getD 16 false := by rw [getD_set' _ _ _ hs, if_neg (by omega)]
  have e17 : (listed.setIfInBounds i true).getD 17 false = listed.getD 17 false := by rw [getD_set' _ _ _ hs, if_neg (by omega)]
  have e14 : (listed.setIfInBounds i true).getD 14 false = listed.getD 14 false := by rw [getD_set' _ _ _ hs, if_neg (by omega)]
  refine ⟨?_, ?_, ?_, ?_⟩
  · rw [e16, e17]; exact h.1
  · rw [e16]; exact fun hc j hj => e j (h.2.1 hc j hj)
  · rw [e16, e17]; exact fun hc => ⟨(h.2.2.1 hc).1, fun j hj => e j ((h.2.2.1 hc).2 j hj)⟩
  · rw [e14]; exact fun hc j h1 h2 => e j (h.2.2.2 hc j h1 h2)
theorem cntC.call (h : cntC W T lo' hi' listed w') {i : Nat} (hi : i < 16) (hj : i < 8 ∨ 11 ≤ i ∧ i < 15) (hun : listed.getD i false = false) (hs : i < listed.size) (h14 : i = 14 → ∀ j, 11 ≤ j → j < 14 → listed.getD j false = true) (g : Gr W) : cntC W T lo' hi' (listed.setIfInBounds i true) g.w := by
  have h1 := h.off16 hun hj
  have h2 := h.off17 hun hi
  have e16 : (listed.setIfInBounds i true).getD 16 false = false := by rw [getD_set' _ _ _ hs, if_neg (by omega)]; exact h1
  have e17 : (listed.setIfInBounds i true).getD 17 false = false := by rw [getD_set' _ _ _ hs, if_neg (by omega)]; exact h2
  refine ⟨⟨g, by rw [e16, e17]; rfl⟩, fun e => ?_, fun e => ?_, fun e j h3 h4 => ?_⟩
  · rw [e16] at e; cases e
  · rw [e17] at e; cases e
  · have : listed.getD j false = true := by
      by_cases hi14 : i = 14
      · exact h14 hi14 j h3 h4
      · rw [getD_set' _ _ _ hs, if_neg hi14] at e
        exact h.2.2.2 e j h3 h4
    rw [getD_set' _ _ _ hs, this]; split <;> rfl
theorem cntC.mem (h : cntC W T lo' hi' listed w') {j : Nat} (hun : listed.getD j false = false) (hj : j < 16) {m : Nat} {v : Value} (hv : ∀ g : Gr W, g.w.cell? ⟨T, m, none⟩ = some v) : w'.cell? ⟨T, m, none⟩ = some v := by
  have h2 := h.off17 hun hj
  obtain ⟨g, hg⟩ := h.1
  rw [h2] at hg
  cases hc : listed.getD 16 false with
  | false => rw [hc] at hg; rw [hg]; exact hv g
  | true =>
    rw [hc] at hg
    rw [hg]
    show (g.w.setCell ⟨T + 1, 0, none⟩ _).cell? _ = _
    have := Below.heap_setCell g.w ⟨T + 1, 0, none⟩ (.int .i64 (lo' : Int)) T (by show T ≠ T + 1; omega)
    have hv' := hv g
    simp only [World.cell?] at hv' ⊢
    rw [this]; exact hv'
end
end Go.Proofs.YtohadkmaemmfgaaGreatDoor.Bwt

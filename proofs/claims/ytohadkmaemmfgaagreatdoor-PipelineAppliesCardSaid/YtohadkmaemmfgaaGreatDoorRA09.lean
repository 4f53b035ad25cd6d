/- Zk Rg. -/
import Derived.Test.YtohadkmaemmfgaaGreatDoorRA01
import Derived.Test.YtohadkmaemmfgaaGreatDoorRA00
import Derived.OrdersIn
set_option maxRecDepth 100000
set_option maxHeartbeats 4000000
namespace Go.Proofs.YtohadkmaemmfgaaGreatDoor
open Go.RowKit Go.Proofs
set_option linter.unusedVariables false
set_option linter.unusedSimpArgs false
def RetBytes (w : World) (bs : List UInt8) (x : Int) (e : Ending) (w' : World) : Prop := ∃ A n c, e = .returned (.tuple #[.slice A n c, .int .i64 x]) ∧ Bytes w' A n c bs ∧ Below w.heap.size w w'
theorem RetBytes.mk {w w' : World} {bs : List UInt8} {x x' : Int} {A : Option Addr} {n c : Nat} (hx : x = x') (h : Bytes w' A n c bs) (hb : Below w.heap.size w w') : RetBytes w bs x' (.returned (.tuple #[.slice A n c, .int .i64 x])) w' := by
  subst hx
  exact ⟨A, n, c, rfl, h, hb⟩
theorem RetBytes.err {w w' : World} {x x' : Int} (hx : x = x') (hb : Below w.heap.size w w') : RetBytes w [] x' (.returned (.tuple #[.slice none 0 0, .int .i64 x])) w' := RetBytes.mk hx (Bytes.nil _ _) hb
def RetOwn (B : Nat) (w : World) (xs : List UInt8) (e : Ending) (w' : World) : Prop := ∃ A n c, e = .returned (.slice A n c) ∧ Own encB w' B 5 A n c xs ∧ Below B w w'
theorem RetOwn.mk {B : Nat} {w w' : World} {xs : List UInt8} {A : Option Addr} {n c : Nat} (h : Own encB w' B 5 A n c xs) (hb : Below B w w') : RetOwn B w xs (.returned (.slice A n c)) w' := ⟨A, n, c, rfl, h, hb⟩
theorem own_empty (w : World) (e : TypeId) : Own encB (w.alloc (.cells #[] e)) w.heap.size e (some ⟨w.heap.size, 0, none⟩) 0 0 [] :=
  ⟨rfl, .inr ⟨w.heap.size, 0, #[], rfl, Nat.le_refl _, World.alloc_heap_new w _, Nat.le_refl _, by simp [maxLen], rfl, rfl⟩⟩
theorem clone_any (A : Option Addr) (m c : Nat) (xs : List UInt8) (w : World) (hx : Bytes w A m c xs) (hm : m ≤ 1000000) :
    Calls Tryz.prog 17 #[.slice A m c] w (RetOwn w.heap.size w xs) := by
  have hq := Lib.run_eql_slice_nil (P := Tryz.prog)
  cases A with
  | none =>
    have h0 : m = 0 := by
      rcases Nat.eq_zero_or_pos m with h | h
      · exact h
      · obtain ⟨b, off, e, _⟩ := hx.2.2 h; cases e
    subst h0
    have hxs : xs = [] := List.length_eq_zero_iff.1 hx.1
    subst hxs
    have hr : ∀ w : World, (binOp .eql 23 (.slice none 0 c) (.slice none 0 0)).run Tryz.prog w = .ok (.bool true) w := fun w => by rw [hq w _ _ _ _ _ _ _ uB]; rfl
    clear hq
    go_enter Tryz.func17, Tryz.ntmps17
    go_wp2_with fail
    go_ret
    exact RetOwn.mk (Own.nil _ _ _ _) (Below.refl _ _)
  | some a =>
    have hr : ∀ w : World, (binOp .eql 23 (.slice (some a) m c) (.slice none 0 0)).run Tryz.prog w = .ok (.bool false) w := fun w => by rw [hq w _ _ _ _ _ _ _ uB]; rfl
    clear hq
    have hb0 : Below w.heap.size w (w.alloc (.cells #[] 5)) := (Below.refl _ _).alloc (Nat.le_refl _) _
    have hx1 := hx.below hb0
    have m1 : Hid (0 + m ≤ maxLen ∧ (0 + m) * 1 ≤ 140737488355328) := ⟨by simp [maxLen]; omega, by omega⟩
    have hB : Hid (w.heap.size ≤ (w.alloc (.cells #[] 5)).heap.size) := hb0.size
    go_enter Tryz.func17, Tryz.ntmps17
    go_wp2_with (at_builtin; refine wpList_app (enc := encB) rfl (.tmp 5) (.tmp 6) rfl uB infoB encB_one rfl rfl (own_empty w _) hB.out (some a) m c xs 0 hx1.1 hx1.2.2 rfl m1.out.1 m1.out.2 ?_; intro A6 c6 W6 ho6 hb6 hg6)
    go_ret
    rw [List.nil_append, Nat.zero_add] at ho6
    exact RetOwn.mk ho6 (hb0.trans hb6)
def RowB (w : World) (g n : Nat) (bs : List UInt8) : Prop := bs.length = n ∧ ∃ cur t, w.heap[g]? = some (.cells cur t (0, 0)) ∧ n ≤ cur.size ∧ ∀ i, i < n → cur[i]? = some (.int .u8 (gb bs i))
theorem gb_bA (bs : List UInt8) (i : Nat) : gb bs i = ((bA bs i).toNat : Int) := rfl
section
variable {w w' : World} {g n k : Nat} {bs : List UInt8}
theorem RowB.lt (h : RowB w g n bs) : g < w.heap.size := by
  obtain ⟨-, cur, t, h1, -⟩ := h
  exact (Array.getElem?_eq_some_iff.1 h1).1
theorem RowB.below {B : Nat} (h : RowB w g n bs) (hb : Below B w w') (hg : g < B) : RowB w' g n bs := by
  obtain ⟨h0, cur, t, h1, h2⟩ := h
  exact ⟨h0, cur, t, (hb.block g hg).trans h1, h2⟩
theorem RowB.keep (h : RowB w g n bs) (he : w'.heap[g]? = w.heap[g]?) : RowB w' g n bs := by
  obtain ⟨h0, cur, t, h1, h2⟩ := h
  exact ⟨h0, cur, t, he.trans h1, h2⟩
theorem RowB.cell (h : RowB w g n bs) (hk : k < n) : w.cell? ⟨g, k, none⟩ = some (.int .u8 (gb bs k)) := by
  obtain ⟨h0, cur, t, h1, h2, h3⟩ := h
  simp [World.cell?, h1, h3 k hk]
theorem RowB.frozen (h : RowB w g n bs) (k : Nat) : w.frozen? ⟨g, k, none⟩ = false := by
  obtain ⟨h0, cur, t, h1, h2, h3⟩ := h
  simp [World.frozen?, h1]
theorem RowB.bytes (h : RowB w g n bs) {c : Nat} (hc : n ≤ c) : Bytes w (some ⟨g, 0, none⟩) n c bs :=
  ⟨h.1, hc, fun _ => ⟨g, 0, rfl, h.lt, fun i hi => by rw [Nat.zero_add]; exact h.cell hi⟩⟩
theorem RowB.set (h : RowB w g n bs) (hk : k < n) (b : UInt8) : RowB (w.setCell ⟨g, k, none⟩ (.int .u8 (b.toNat : Int))) g n (bs.set k b) := by
  obtain ⟨h0, cur, t, h1, h2, h3⟩ := h
  refine ⟨by rw [List.length_set]; exact h0, cur.setIfInBounds k (.int .u8 (b.toNat : Int)), t, ?_, by simpa using h2, fun i hi => ?_⟩
  · simp [World.setCell, Array.getElem?_modify, h1]
  · rw [Array.getElem?_setIfInBounds]
    unfold gb
    rw [List.getD_eq_getElem?_getD, List.getElem?_set]
    by_cases e : k = i
    · subst e
      rw [if_pos rfl, if_pos (by omega), if_pos rfl, if_pos (by omega)]
      rfl
    · rw [if_neg e, if_neg e]
      have := h3 i hi
      unfold gb at this
      rw [List.getD_eq_getElem?_getD] at this
      exact this
theorem RowB.of_own {B c : Nat} {A : Option Addr} (h : Own encB w B 5 A n c bs) (hn : 0 < n) : ∃ g, A = some ⟨g, 0, none⟩ ∧ B ≤ g ∧ RowB w g n bs := by
  have hl := h.length
  have hcs := h.cells 0
  rcases h.2 with ⟨h1, h2⟩ | ⟨g, cap, cur, h1, h2, h3, h4⟩
  · omega
  · injection h1 with e1 e2 e3
    refine ⟨g, e1, h2, hl, cur, _, h3, ?_, fun i hi => ?_⟩
    · obtain ⟨b, off, e, hlt, hc⟩ := hcs hn
      rw [e1] at e
      injection e with e
      injection e with e e' _
      subst e e'
      have := hc (n - 1) (by omega)
      rw [Nat.zero_add] at this
      simp [World.cell?, h3] at this
      have := (Array.getElem?_eq_some_iff.1 this).1
      omega
    · obtain ⟨b, off, e, hlt, hc⟩ := hcs hn
      rw [e1] at e
      injection e with e
      injection e with e e' _
      subst e e'
      have := hc i hi
      rw [Nat.zero_add] at this
      simp [World.cell?, h3] at this
      exact this
end
end Go.Proofs.YtohadkmaemmfgaaGreatDoor
namespace Go.Proofs.YtohadkmaemmfgaaGreatDoor
open Go.RowKit Go.Proofs
set_option linter.unusedVariables false
def OnlyNormal (Q : Exit → Act → World → Prop) : Exit → Act → World → Prop := fun e a w => e = .normal ∧ Q .normal a w
theorem OnlyNormal.out {Q : Exit → Act → World → Prop} : ¬ LetsOut (OnlyNormal Q) := fun ⟨_, _, h, _⟩ => by cases h
section
variable {P : Program} {ops : Array Oper} {Q : Exit → Act → World → Prop} {m l0 : Nat}
theorem rowsIn_of {row : String} {args : Array Value} {w : World} {R : Value → World → Prop} (h : Rows P row args w R) : RowsIn (Fence.wide.inRound l0) m P row args w R :=
  fun c cs _ => let ⟨v, w', r, s⟩ := h c cs; ⟨v, w', r, stepsIn_wide.2 s⟩
theorem opIn_of_op {o : Oper} (hd : ∀ c, o.op ≠ .defer c) {a : Act} {w : World} {K K' : Act → World → Prop} (hK : ∀ a w, K a w → K' a w) (h : o.wp P a w K Q) : o.wpIn (Fence.wide.inRound l0) m P a w K' Q := by
  refine ⟨fun _ _ => trivial, ?_⟩
  rw [Oper.semAt_eq _ _ _ hd]
  unfold Oper.wp at h
  revert h
  cases hr : (execOp a.eval o).run P w with
  | ok x w' =>
    cases x with
    | value v => exact fun h => hK _ _ h
    | skip => exact fun h => hK _ _ h
    | defer d => exact fun h => hK _ _ h
    | enter f args => exact fun h => ⟨fun h0 => (by cases h0), callsIn_wide.2 (h.mono fun e w'' he => by
        cases e with
        | returned v => exact hK _ _ he
        | panicked ch => exact he
        | outgrown => exact he)⟩
    | row row args => exact fun h => ⟨fun h0 => (by cases h0), rowsIn_of (h.mono fun v w'' he => hK _ _ he)⟩
    | round l f t a0 b => exact fun h => h.elim
    | _ => exact fun h => h.elim
  | halt e w' =>
    cases e with
    | panic v => exact fun h => h
    | _ => exact fun h => h.elim
theorem anyIn_of_any {md : Region.Mode} (hL : ¬ LetsOut Q) (hd : ∀ (i : Nat) (o : Oper), ops[i]? = some o → ∀ c, o.op ≠ .defer c) : ∀ (fuel : Nat) (listed : Array Bool) (a : Act) (w : World), wpAny P md ops Q fuel listed a w → wpAnyIn (Fence.wide.inRound l0) m P md ops Q fuel listed a w
  | 0, _, _, _, h => h
  | fuel + 1, listed, a, w, h => ⟨h.1, fun i hi => by
    have h1 := h.2 i hi
    unfold wpOp at h1
    unfold wpOpIn
    cases ho : ops[i]? with
    | none => rw [ho] at h1; exact anyIn_of_any hL hd fuel _ a w h1
    | some o =>
      rw [ho] at h1
      simp only at h1 ⊢
      split
      · rename_i hw
        rw [if_pos hw] at h1
        rcases h1 with h1 | ⟨_, h1⟩
        · exact opIn_of_op (hd i o ho) (fun a' w' h' => anyIn_of_any hL hd fuel _ a' w' h') h1
        · exact absurd h1 hL
      · rename_i hw
        rw [if_neg hw] at h1
        exact ⟨fun _ _ => trivial, anyIn_of_any hL hd fuel _ _ w h1⟩⟩
def noDefer (l : List Oper) : Bool := l.all fun o => match o.op with | .defer _ => false | _ => true
theorem noDefer_spec {l : List Oper} (h : noDefer l = true) : ∀ (i : Nat) (o : Oper), l.toArray[i]? = some o → ∀ c, o.op ≠ .defer c := fun i o ho c e => by
  have hm : o ∈ l := by rw [List.getElem?_toArray] at ho; exact List.mem_of_getElem? ho
  have := List.all_eq_true.1 h o hm
  rw [e] at this
  cases this
end
def allOrders (md : Region.Mode) (ops : Array Oper) : Nat → Array Bool → List (List Nat)
  | 0, _ => [[]]
  | f + 1, listed => if Region.ready md ops listed = [] then [[]] else (Region.ready md ops listed).flatMap fun i => (allOrders md ops f (listed.setIfInBounds i true)).map (i :: ·)
theorem linearise_mem (md : Region.Mode) (ops : Array Oper) : ∀ (fuel t : Nat) (listed : Array Bool), Region.linearise.go md ops fuel t listed [] ∈ allOrders md ops fuel listed := by
  intro fuel
  induction fuel with
  | zero => intro t listed; simp [Region.linearise.go, allOrders]
  | succ fuel ih =>
    intro t listed
    simp only [Region.linearise.go, allOrders]
    change (match (Region.ready md ops listed)[t % (Region.ready md ops listed).length]? with
      | some i => Region.linearise.go md ops fuel (t / (Region.ready md ops listed).length) (listed.setIfInBounds i true) [i]
      | none => [].reverse) ∈ _
    cases hi : (Region.ready md ops listed)[t % (Region.ready md ops listed).length]? with
    | none =>
      have hnil : Region.ready md ops listed = [] := by
        cases hr : Region.ready md ops listed with
        | nil => rfl
        | cons x xs =>
          rw [hr] at hi
          have hlt : t % (x :: xs).length < (x :: xs).length := Nat.mod_lt _ (by simp)
          simp at hi
          simp at hlt
          omega
      simp [hnil]
    | some i =>
      have hm := List.mem_of_getElem? hi
      have hne : Region.ready md ops listed ≠ [] := fun e => by rw [e] at hm; cases hm
      simp only []
      rw [if_neg hne, linearise_go_acc, List.reverse_singleton, List.singleton_append]
      exact List.mem_flatMap.2 ⟨i, hm, List.mem_map.2 ⟨_, ih _ _, rfl⟩⟩
theorem opsIn_of_list {F : Fence} {n : Nat} {P : Program} {ops : Array Oper} {Q : Exit → Act → World → Prop} : ∀ (ord : List Nat) (a : Act) (w : World), wpListIn F n P ops Q (ord.filterMap (ops[·]?)) a w → wpOpsIn F n P ops Q ord a w
  | [], _, _, h => h
  | i :: ord, a, w, h => by
    unfold wpOpsIn
    cases ho : ops[i]? with
    | none =>
      rw [List.filterMap_cons, ho] at h
      exact opsIn_of_list ord a w h
    | some o =>
      rw [List.filterMap_cons, ho] at h
      simp only at h ⊢
      unfold wpListIn at h
      split at h
      · rename_i hw
        rw [if_pos hw]
        exact Oper.wpIn_mono (fun a w h' => opsIn_of_list ord a w h') h
      · rename_i hw
        rw [if_neg hw]
        exact ⟨h.1, opsIn_of_list ord _ w h.2⟩
theorem wpIn_region_orders {F : Fence} {n : Nat} {P : Program} {ops : Array Oper} {Q : Exit → Act → World → Prop} {id : Nat} {a : Act} {w : World} (L : List (List Nat)) (hm : P.follows .mixedOrders = true) (hL : allOrders .any ops ops.size (Array.replicate ops.size false) = L)
    (h : ∀ w0, w0 = w.drew → ∀ ord ∈ L, wpListIn F n P ops Q (ord.filterMap (ops[·]?)) a w0) : (Code.region id ops true).wpIn F n P Q a w :=
  wpIn_region_draw fun t => by
    simp only [Region.schedule, hm, Bool.true_or, if_true]
    exact opsIn_of_list _ _ _ (h _ rfl _ (by rw [← hL]; exact linearise_mem _ _ _ _ _))
theorem wp_rangeFunc_row2 {P : Program} {g : Operand} {p1 p2 : Tmp} {assign body : Code} {Q : Exit → Act → World → Prop} {a : Act} {w : World}
    {gf : Nat} {lb : Array Value} (hg : a.eval g = .func (.func gf) #[] lb) (eg : ∀ args w, (callFunc gf args).run P w = .ok (.enter gf args) w)
    {u v : Nat → Value} {len : Nat} {Ab Kp : World → World → Prop} {Pre : World → Prop} (hseq : Gives P gf lb (fun k => #[u k, v k]) len Ab Kp Pre)
    (hPre : ∀ o1 o2, Pre ((w.alloc o1).alloc o2)) (hAb : ∀ A B, Ab A B → KeepsFrom w.heap.size A B)
    (hKt : ∀ {A B C : World}, Kp A B → Kp B C → Kp A C) (hKb : ∀ (W : World) (l : Nat) (o o' : Obj), w.heap.size ≤ l → W.heap[l]? = some o → o.isCells = false → Kp W (W.putObj l o'))
    (I : Nat → World → Prop) (Ix : Code → Nat → World → Prop) (hI : OwnFrom w.heap.size I) (hIx : ∀ c, OwnFrom w.heap.size (Ix c))
    (hIA : ∀ k A B, I k A → Ab A B → I k B) (hIxA : ∀ c k A B, Ix c k A → Ab A B → Ix c k B) (h0 : I 0 w) (G : Value → Value → Array Value → Array Value)
    (hassign : ∀ (l k : Nat) (W : World) (K : Act → World → Prop), K { tmps := G (u k) (v k) a.tmps, defers := [] } W →
      assign.wpIn (Fence.wide.inRound l) 7 P (Exit.then K (fun _ _ _ => False)) { tmps := (a.tmps.setIfInBounds p1 (u k)).setIfInBounds p2 (v k), defers := [] } W)
    (hbody : ∀ (l k : Nat) (W : World), k < len → w.heap.size ≤ l → I k W → body.wpIn (Fence.wide.inRound l) 7 P (roundEnd w.heap.size Kp I Ix (k + 1) W) { tmps := G (u k) (v k) a.tmps, defers := [] } W)
    (hdone : ∀ (D : Nat) (W : World), w.heap.size ≤ D → I len W → W.heap[D]? = some (.deferred (some [])) → Q .normal { a with defers := { target := .collected D, args := #[] } :: a.defers } W)
    (hstop : ∀ (D : Nat) (c : Code) (k : Nat) (W : World), w.heap.size ≤ D → k ≤ len → Ix c k W → W.heap[D]? = some (.deferred (some [])) → c.wp P Q { a with defers := { target := .collected D, args := #[] } :: a.defers } W) :
    (Code.rangeFunc g #[p1, p2] assign body).wp P Q a w :=
  wp_rangeFunc_row hg eg hseq hPre hAb hKt hKb (fun _ => rfl) I Ix hI hIx hIA hIxA h0 (fun k => { tmps := G (u k) (v k) a.tmps, defers := [] })
    (fun l k W K hK => by
      have e : (#[p1, p2] : Array Tmp).zip #[u k, v k] = #[(p1, u k), (p2, v k)] := by simp
      simp only [e]
      exact hassign l k W K hK) hbody hdone hstop
end Go.Proofs.YtohadkmaemmfgaaGreatDoor

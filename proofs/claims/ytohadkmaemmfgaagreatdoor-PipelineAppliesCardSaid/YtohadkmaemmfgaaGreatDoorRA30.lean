/- Dj Iter. -/
import Derived.Test.YtohadkmaemmfgaaGreatDoorRA29
import Derived.Test.YtohadkmaemmfgaaGreatDoorRA01
import Derived.Maps.OwnIn
import Derived.Maps.OwnSet
import Derived.Maps.OwnOps
import Derived.Sort.KeysCollected
import Derived.Shelf.SlIter.Sorted
import Derived.Ground.GgzProg
import Derived.Test.YtohadkmaemmfgaaGreatDoorProg
set_option maxRecDepth 100000
set_option maxHeartbeats 4000000
namespace Go.Proofs.YtohadkmaemmfgaaGreatDoor.Dic
open Go.RowKit Go.Proofs
set_option linter.unusedVariables false
def MapIs (P : Program) (k e : TypeId) (q : IntKind) (w : World) (b n : Nat) (f : List UInt8 → Option Int) : Prop :=
  ∃ D : DataW Unit, w.ownsMap P k (plainElem P e) b n D ∧ ∀ s, Maps.has D (.string s) = (f s).isSome ∧ D.atKey (.string s) (.lit (.int q 0)) = .lit (.int q ((f s).getD 0))
def fput (f : List UInt8 → Option Int) (s : List UInt8) (v : Int) : List UInt8 → Option Int := fun t => if t = s then some v else f t
section
variable {P : Program} {k e : TypeId} {q : IntKind} {w w' : World} {b n : Nat} {f : List UInt8 → Option Int}
theorem MapIs.lt (h : MapIs P k e q w b n f) : b < w.heap.size := by obtain ⟨D, h, _⟩ := h; exact h.lt
theorem MapIs.same (h : MapIs P k e q w b n f) (hb : w'.heap[b]? = w.heap[b]?) : MapIs P k e q w' b n f := by
  obtain ⟨D, ⟨es, clock, h1, h2⟩, h3⟩ := h
  exact ⟨D, ⟨es, clock, hb.trans h1, h2⟩, h3⟩
theorem MapIs.below (h : MapIs P k e q w b n f) (hb : Below w.heap.size w w') : MapIs P k e q w' b n f := h.same (hb.block b h.lt)
theorem MapIs.mono (h : MapIs P k e q w b n f) {m : Nat} (hm : n ≤ m) : MapIs P k e q w b m f := by
  obtain ⟨D, ⟨es, clock, h1, h2, h4, h5⟩, h3⟩ := h
  exact ⟨D, ⟨es, clock, h1, h2, by omega, h5⟩, h3⟩
theorem MapIs.cong (h : MapIs P k e q w b n f) {g : List UInt8 → Option Int} (hg : ∀ s, g s = f s) : MapIs P k e q w b n g := by
  obtain ⟨D, h1, h3⟩ := h
  exact ⟨D, h1, fun s => by rw [hg s]; exact h3 s⟩
theorem MapIs.made (w : World) : MapIs P k e q (w.alloc (.map #[] 0)) w.heap.size 0 (fun _ => none) :=
  ⟨.map [], World.ownsMap_made _ _ _ _, fun s => ⟨rfl, rfl⟩⟩
variable {ops : Array Oper} {rest : List Oper} {o : Oper} {a : Act} {Q : Exit → Act → World → Prop} {F : Fence} {nF : Nat}
theorem strB_key (hk : P.underlying k = some .string) (s : List UInt8) (hs : s.length ≤ maxLen) : keyOf P k (.string (strB s)) = some (.string s) :=
  Go.WideMaps.keyOf_string_mk hk (s := strB s) (by rw [strB_size]; exact hs)
theorem MapIs.put {D : DataW Unit} (hm : Maps.IsMap D) (h : ∀ s, Maps.has D (.string s) = (f s).isSome ∧ D.atKey (.string s) (.lit (.int q 0)) = .lit (.int q ((f s).getD 0))) (s : List UInt8) (v : Int) :
    ∀ t, Maps.has (D.put (.string s) (.lit (.int q v))) (.string t) = (fput f s v t).isSome ∧ (D.put (.string s) (.lit (.int q v))).atKey (.string t) (.lit (.int q 0)) = .lit (.int q ((fput f s v t).getD 0)) := fun t => by
  unfold fput
  by_cases ht : t = s
  · subst ht
    rw [if_pos rfl]
    exact ⟨Maps.has_put_same hm (show WideAt.IsKeyLit (.string t) from trivial) _, Maps.atKey_put_same hm (show WideAt.IsKeyLit (.string t) from trivial) _ _⟩
  · rw [if_neg ht]
    have hne : (Lit.string t) ≠ .string s := fun e => ht (by injection e)
    rw [Maps.has_put_other hne, Maps.atKey_put_other hne]
    exact h t
theorem isMap_of {D : DataW Unit} (h : w.ownsMap P k (plainElem P e) b n D) : Maps.IsMap D := by
  obtain ⟨es, clock, _, _, _, rfl⟩ := h
  exact ⟨_, rfl⟩
theorem wpList_mapset (hg : o.guard = none) (m x v : Operand) (t : TypeId) (hop : o.op = Op.mapUpdate t m x v)
    (hk : P.underlying k = some .string) (ht : P.underlying t = some (.map k e)) (he : P.underlying e = some (.int q))
    (hm : a.eval m = .map (some b)) (hown : MapIs P k e q w b n f) (hn : n < maxLen) (s : List UInt8) (hs : s.length ≤ maxLen) (c : Int) (hx : a.eval x = .string (strB s)) (hv : a.eval v = .int q c) (hc : (Lit.int q c).wf = true)
    (hK : ∀ w', MapIs P k e q w' b (n + 1) (fput f s c) → w.grownBy w' (some b) → wpList P ops Q rest (a.put o.dst undef) w') : wpList P ops Q (o :: rest) a w := by
  obtain ⟨D, h1, h2⟩ := hown
  exact wpList_mapUpdate_own w hg m x v t hop k e (Maps.string_keyed hk) ht _ b n D hm h1 hn _ _ _ hx hv (strB_key hk s hs) (.lit (.int q c)) [] (plainElem_int he hc)
    (fun w' r1 r2 => hK w' ⟨_, r1, MapIs.put (isMap_of h1) h2 s c⟩ r2)
theorem wpListIn_mapset (hg : o.guard = none) (m x v : Operand) (t : TypeId) (hop : o.op = Op.mapUpdate t m x v)
    (hk : P.underlying k = some .string) (ht : P.underlying t = some (.map k e)) (he : P.underlying e = some (.int q))
    (hm : a.eval m = .map (some b)) (hown : MapIs P k e q w b n f) (hn : n < maxLen) (s : List UInt8) (hs : s.length ≤ maxLen) (c : Int) (hx : a.eval x = .string (strB s)) (hv : a.eval v = .int q c) (hc : (Lit.int q c).wf = true)
    (hK : ∀ w', MapIs P k e q w' b (n + 1) (fput f s c) → w.grownBy w' (some b) → wpListIn F nF P ops Q rest (a.put o.dst undef) w') : wpListIn F nF P ops Q (o :: rest) a w := by
  obtain ⟨D, h1, h2⟩ := hown
  exact wpListIn_mapUpdate_own w hg m x v t hop k e (Maps.string_keyed hk) ht _ b n D hm h1 hn _ _ _ hx hv (strB_key hk s hs) (.lit (.int q c)) [] (plainElem_int he hc)
    (fun w' r1 r2 => hK w' ⟨_, r1, MapIs.put (isMap_of h1) h2 s c⟩ r2)
theorem wpListIn_mapget (hg : o.guard = none) (m x : Operand) (t : TypeId) (hop : o.op = Op.lookup t m x false)
    (hk : P.underlying k = some .string) (ht : P.underlying t = some (.map k e)) (he : P.underlying e = some (.int q)) (hz : (zeroValue e).run P w = .ok (.int q 0) w)
    (hm : a.eval m = .map (some b)) (hown : MapIs P k e q w b n f) (s : List UInt8) (hs : s.length ≤ maxLen) (hx : a.eval x = .string (strB s))
    (hK : wpListIn F nF P ops Q rest (a.put o.dst (.int q ((f s).getD 0))) w) : wpListIn F nF P ops Q (o :: rest) a w := by
  obtain ⟨D, h1, h2⟩ := hown
  refine wpListIn_lookup_own_int w hg m x t hop k e q (Maps.string_keyed hk) ht he hz b n D hm h1 _ _ hx (strB_key hk s hs) (fun c hat hwc => ?_)
  rw [(h2 s).2] at hat
  injection hat with hat
  injection hat with _ hat
  rw [← hat]
  exact hK
theorem wpListIn_mapgetok (hg : o.guard = none) (m x : Operand) (t : TypeId) (hop : o.op = Op.lookup t m x true)
    (hk : P.underlying k = some .string) (ht : P.underlying t = some (.map k e)) (he : P.underlying e = some (.int q)) (hz : (zeroValue e).run P w = .ok (.int q 0) w)
    (hm : a.eval m = .map (some b)) (hown : MapIs P k e q w b n f) (s : List UInt8) (hs : s.length ≤ maxLen) (hx : a.eval x = .string (strB s))
    (hK : wpListIn F nF P ops Q rest (a.put o.dst (.tuple #[.int q ((f s).getD 0), .bool (f s).isSome])) w) : wpListIn F nF P ops Q (o :: rest) a w := by
  obtain ⟨D, h1, h2⟩ := hown
  refine wpListIn_lookup_own_ok_int w hg m x t hop k e q (Maps.string_keyed hk) ht he hz b n D hm h1 _ _ hx (strB_key hk s hs) (fun c hat hwc => ?_)
  rw [(h2 s).2] at hat
  injection hat with hat
  injection hat with _ hat
  rw [← hat, (h2 s).1]
  exact hK
theorem wpListIn_mapget_some (hg : o.guard = none) (m x : Operand) (t : TypeId) (hop : o.op = Op.lookup t m x true)
    (hk : P.underlying k = some .string) (ht : P.underlying t = some (.map k e)) (he : P.underlying e = some (.int q)) (hz : (zeroValue e).run P w = .ok (.int q 0) w)
    (hm : a.eval m = .map (some b)) (hown : MapIs P k e q w b n f) (s : List UInt8) (hs : s.length ≤ maxLen) (hx : a.eval x = .string (strB s)) (c : Int) (hf : f s = some c)
    (hK : wpListIn F nF P ops Q rest (a.put o.dst (.tuple #[.int q c, .bool true])) w) : wpListIn F nF P ops Q (o :: rest) a w :=
  wpListIn_mapgetok hg m x t hop hk ht he hz hm hown s hs hx (by rw [hf]; exact hK)
theorem wpListIn_mapget_none (hg : o.guard = none) (m x : Operand) (t : TypeId) (hop : o.op = Op.lookup t m x true)
    (hk : P.underlying k = some .string) (ht : P.underlying t = some (.map k e)) (he : P.underlying e = some (.int q)) (hz : (zeroValue e).run P w = .ok (.int q 0) w)
    (hm : a.eval m = .map (some b)) (hown : MapIs P k e q w b n f) (s : List UInt8) (hs : s.length ≤ maxLen) (hx : a.eval x = .string (strB s)) (hf : f s = none)
    (hK : wpListIn F nF P ops Q rest (a.put o.dst (.tuple #[.int q 0, .bool false])) w) : wpListIn F nF P ops Q (o :: rest) a w :=
  wpListIn_mapgetok hg m x t hop hk ht he hz hm hown s hs hx (by rw [hf]; exact hK)
end
def Kept (B : Nat) (X Y : World) : Prop := Below B X Y ∧ KeepsFrom B X Y
theorem Kept.refl (B : Nat) (X : World) : Kept B X X := ⟨Below.refl _ _, KeepsFrom.refl _ _⟩
theorem Kept.trans {B : Nat} {X Y Z : World} (h : Kept B X Y) (h' : Kept B Y Z) : Kept B X Z := ⟨h.1.trans h'.1, h.2.trans h'.2⟩
theorem Kept.alloc {B : Nat} {X : World} (o : Obj) (hB : B ≤ X.heap.size) : Kept B X (X.alloc o) :=
  ⟨(Below.refl _ _).alloc hB _, ⟨by simp, fun k o' _ hk _ => (Below.heap_alloc X o k (Array.getElem?_eq_some_iff.1 hk).1).trans hk⟩⟩
theorem Kept.of_own {α : Type} {enc : α → Value} {B : Nat} {X Y : World} {e : TypeId} {A : Option Addr} {n c : Nat} {xs : List α} (hown : Own enc X B e A n c xs) (hB : B ≤ X.heap.size) (hg : X.grownBy Y (Value.slice A n c).ownBlock) : Kept B X Y := by
  refine ⟨(Below.refl B X).grown hg hB (fun k hk => (World.ownsRow.lt hown k hk).1), hg.size, fun k o _ hk ho => (hg.block k (Array.getElem?_eq_some_iff.1 hk).1 (fun e => ?_)).trans hk⟩
  rcases hown.2 with ⟨h1, _⟩ | ⟨g, cap, cur, h1, _, h3, _⟩
  · rw [h1] at e; cases e
  · rw [h1] at e
    injection e with e
    have e' : k = g := e
    subst e'
    rw [h3] at hk
    injection hk with hk
    subst hk
    cases ho
theorem _root_.Go.Proofs.YtohadkmaemmfgaaGreatDoor.Own.keepDic {α : Type} {enc : α → Value} {X Y : World} {B : Nat} {e : TypeId} {A : Option Addr} {n c : Nat} {xs : List α} (h : Own enc X B e A n c xs) (hb : ∀ g o, B ≤ g → X.heap[g]? = some o → o.isCells = true → Y.heap[g]? = some o) : Own enc Y B e A n c xs := by
  refine ⟨h.1, ?_⟩
  rcases h.2 with h1 | ⟨g, cap, cur, h1, h2, h3, h4⟩
  · exact .inl h1
  · exact .inr ⟨g, cap, cur, h1, h2, hb g _ h2 h3 rfl, h4⟩
theorem Boxed.below' {W W' : World} {B N : Nat} {t : TypeId} {v : Value} (h : Boxed W B t v) (hb : Below N W W') (hlt : B < N) : Boxed W' B t v := (hb.block B hlt).trans h
theorem KeepsFrom.setCell' {B : Nat} {X Y : World} (h : KeepsFrom B X Y) {p : Addr} (hp : p.block < B) (v : Value) : KeepsFrom B X (Y.setCell p v) :=
  ⟨by simpa [World.setCell] using h.size, fun k o hB hk ho => (Below.heap_setCell Y p v k (by omega)).trans (h.same k o hB hk ho)⟩
theorem KeepsFrom.alloc' (B : Nat) (X : World) (o : Obj) : KeepsFrom B X (X.alloc o) :=
  ⟨by simp, fun k o' _ hk _ => (Below.heap_alloc X o k (Array.getElem?_eq_some_iff.1 hk).1).trans hk⟩
theorem Kept.drewN (B : Nat) (X : World) (q : Nat) : Kept B X (X.drewN q) := ⟨(Drawn.drewN _ _).below _, ⟨Nat.le_refl _, fun _ _ _ h _ => h⟩⟩
section
variable {α : Type} {enc : α → Value} {P : Program} {w : World} {B : Nat} {e t : TypeId} {A : Option Addr} {n c : Nat} {xs : List α} {zero : α} {bytes : Nat} {F : Fence} {nF : Nat}
  {ops : Array Oper} {rest : List Oper} {o : Oper} {a : Act} {K : Act → World → Prop} {Q : Exit → Act → World → Prop} {E : Prop}
theorem wpListIn_app (hgd : o.guard = none) (s x : Operand) (ho : o.op = .call { callee := .builtin .append, args := #[s, x], argTypes := #[t, t] })
    (ht : P.underlying t = some (.slice e)) (hi : (P.info? e).map (fun i => (i.zero, i.size, i.bytes)) = some (some (enc zero), 1, bytes)) (h1 : ∀ x, (enc x).oneCell' = true) (hz : (enc zero).cells.size = 1)
    (hs : a.eval s = .slice A n c) (hown : Own enc w B e A n c xs) (hB : B ≤ w.heap.size) (A' : Option Addr) (m c' : Nat) (ys : List α) (d : α) (hm : ys.length = m) (hsrc : Cells w A' m (fun i => enc (ys.getD i d)))
    (hx : a.eval x = .slice A' m c') (hl : n + m ≤ maxLen) (hby : (n + m) * bytes ≤ 140737488355328)
    (h : ∀ A2 c2 w', Own enc w' B e A2 (n + m) c2 (xs ++ ys) → Kept B w w' → wpListIn F nF P ops Q rest (a.put o.dst (.slice A2 (n + m) c2)) w') : wpListIn F nF P ops Q (o :: rest) a w := by
  refine wpListIn_plain hgd fun K' hK' => ?_
  obtain ⟨A2, c2, w', hrun, h2, h3, h4⟩ := run_append_own_any (P := P) o.type ht hi h1 hz hown hB A' m c' ys d hm hsrc hl hby
  unfold Oper.wpIn
  refine ⟨by simp [Oper.about, ho, resolve, Target.leads, Sem.run_pure], ?_⟩
  rw [Oper.semAt_plain F _ _ (by rw [ho]; intro c hc'; cases hc')]
  simp [execOp, ho, resolve, invoke, builtin, hs, hx, hrun, Result.andThen]
  exact hK' _ _ (h A2 c2 w' h2 (Kept.of_own hown hB h4))
theorem wpListIn_pushv (hgd : o.guard = none) (s x : Operand) (ho : o.op = .call { callee := .builtin .append, args := #[s, x], argTypes := #[t, t] })
    (ht : P.underlying t = some (.slice e)) (hi : (P.info? e).map (fun i => (i.zero, i.size, i.bytes)) = some (some (enc zero), 1, bytes)) (h1 : ∀ x, (enc x).oneCell' = true) (hz : (enc zero).cells.size = 1)
    (hs : a.eval s = .slice A n c) (hown : Own enc w B e A n c xs) (hB : B ≤ w.heap.size) (y : α) (v : Value) (hv : enc y = v)
    (hx : a.eval x = .slice (some ⟨w.heap.size, 0, none⟩) 1 1) (hl : n + 1 ≤ maxLen) (hby : (n + 1) * bytes ≤ 140737488355328)
    (h : ∀ A2 c2 w', Own enc w' B e A2 (n + 1) c2 (xs ++ [y]) → Kept B w w' → wpListIn F nF P ops Q rest (a.put o.dst (.slice A2 (n + 1) c2)) w') : wpListIn F nF P ops Q (o :: rest) a (w.alloc (.cells #[v] e)) := by
  subst hv
  have hb0 : Below w.heap.size w (w.alloc (.cells #[enc y] e)) := (Below.refl _ _).alloc (Nat.le_refl _) _
  refine wpListIn_app hgd s x ho ht hi h1 hz hs (hown.below hb0) (by simp; omega) (some ⟨w.heap.size, 0, none⟩) 1 1 [y] y rfl (fun _ => ⟨w.heap.size, 0, rfl, by simp, fun i hi => by
    obtain rfl : i = 0 := by omega
    simp⟩) hx hl hby (fun A2 c2 w' g1 g2 => h A2 c2 w' g1 ((Kept.alloc _ hB).trans g2))
end
end Go.Proofs.YtohadkmaemmfgaaGreatDoor.Dic
namespace Go.Proofs
open Go.Shelf
def Tryz.keysZ_ren : Go.Shelf.Ren := ⟨fun | 7 => 135 | 10 => 206 | n => n, fun | 23 => 154 | 26 => 9 | 3 => 3 | 28 => 159 | 0 => 0 | 27 => 158 | 33 => 162 | 4 => 4 | n => n, fun | n => n⟩
theorem Tryz.keysZ : Go.Proofs.SlLaysZ.n7 Tryz.prog Tryz.keysZ_ren := {
  mixed := by kernel_rfl
  f7 := ⟨Tryz.f135.name, by decide, Tryz.func135.trans (congrArg some (by kernel_rfl))⟩
  f10 := ⟨Tryz.f206.name, by decide, Tryz.func206.trans (congrArg some (by kernel_rfl))⟩
  t0 := Tryz.underlying0
  a0 := Tryz.isAgg0
  z0 := Tryz.sizeOf0
  v0 := Tryz.zeroValue0
  t4 := Tryz.underlying4
  a4 := Tryz.isAgg4
  z4 := Tryz.sizeOf4
  v4 := Tryz.zeroValue4
  t23 := Tryz.underlying154
  a23 := Tryz.isAgg154
  z23 := Tryz.sizeOf154
  v23 := Tryz.zeroValue154
  t26 := Tryz.underlying9
  a26 := Tryz.isAgg9
  z26 := Tryz.sizeOf9
  v26 := Tryz.zeroValue9
  t27 := Tryz.underlying158
  a27 := Tryz.isAgg158
  z27 := Tryz.sizeOf158
  v27 := Tryz.zeroValue158
  t28 := Tryz.underlying159
  a28 := Tryz.isAgg159
  z28 := Tryz.sizeOf159
  v28 := Tryz.zeroValue159
  t33 := Tryz.underlying162
  a33 := Tryz.isAgg162
  z33 := Tryz.sizeOf162
  v33 := Tryz.zeroValue162 }
def Tryz.collectZ_ren : Go.Shelf.Ren := ⟨fun | 8 => 134 | 11 => 205 | n => n, fun | 26 => 9 | 28 => 159 | 24 => 77 | 0 => 0 | 33 => 162 | 4 => 4 | n => n, fun | n => n⟩
theorem Tryz.collectZ : Go.Proofs.SlLaysZ.n8 Tryz.prog Tryz.collectZ_ren := {
  mixed := by kernel_rfl
  f8 := ⟨Tryz.f134.name, by decide, Tryz.func134.trans (congrArg some (by kernel_rfl))⟩
  f11 := ⟨Tryz.f205.name, by decide, Tryz.func205.trans (congrArg some (by kernel_rfl))⟩
  t0 := Tryz.underlying0
  a0 := Tryz.isAgg0
  z0 := Tryz.sizeOf0
  v0 := Tryz.zeroValue0
  t24 := Tryz.underlying77
  a24 := Tryz.isAgg77
  z24 := Tryz.sizeOf77
  v24 := Tryz.zeroValue77
  t26 := Tryz.underlying9
  a26 := Tryz.isAgg9
  z26 := Tryz.sizeOf9
  v26 := Tryz.zeroValue9
  t28 := Tryz.underlying159
  a28 := Tryz.isAgg159
  z28 := Tryz.sizeOf159
  v28 := Tryz.zeroValue159
  i26 := by kernel_rfl }
end Go.Proofs

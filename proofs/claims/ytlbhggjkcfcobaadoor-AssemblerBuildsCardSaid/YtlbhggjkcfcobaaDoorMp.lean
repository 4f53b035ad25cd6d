/- A map of the call's own from strings to numbers, as a plain function. No program in sight. -/
import Derived.Test.YtlbhggjkcfcobaaDoorKs
import Derived.Test.YtlbhggjkcfcobaaDoorRf
import Derived.Maps.OwnIn
import Derived.Maps.OwnSet
import Derived.Maps.OwnOps
namespace Go.Proofs.YtlbhggjkcfcobaaDoor
open Go.RowKit Go.Proofs
set_option linter.unusedVariables false

/-- block b is a map of at most n entries: string s holds f s. -/
def MapIs (P : Program) (k e : TypeId) (q : IntKind) (w : World) (b n : Nat) (f : List UInt8 → Option Int) : Prop :=
  ∃ D : DataW Unit, w.ownsMap P k (plainElem P e) b n D ∧ ∀ s, Maps.has D (.string s) = (f s).isSome ∧ D.atKey (.string s) (.lit (.int q 0)) = .lit (.int q ((f s).getD 0))
def fput (f : List UInt8 → Option Int) (s : List UInt8) (v : Int) : List UInt8 → Option Int := fun t => if t = s then some v else f t
section
variable {P : Program} {k e : TypeId} {q : IntKind} {w w' : World} {b n : Nat} {f : List UInt8 → Option Int}
theorem MapIs.lt (h : MapIs P k e q w b n f) : b < w.heap.size := by obtain ⟨D, h, _⟩ := h; exact h.lt
theorem MapIs.same (h : MapIs P k e q w b n f) (hb : w'.heap[b]? = w.heap[b]?) : MapIs P k e q w' b n f := by
  obtain ⟨D, ⟨es, clock, h1, h2⟩, h3⟩ := h
  exact ⟨D, ⟨es, clock, hb.trans h1, h2⟩, h3⟩
theorem MapIs.below (h : MapIs P k e q w b n f) (hb : Below w.heap.size w w') : MapIs P k e q w' b n f := h.same (hb.block b h.lt)
theorem MapIs.isMap (h : MapIs P k e q w b n f) : ∃ o, w.heap[b]? = some o ∧ o.isCells = false := by
  obtain ⟨D, ⟨es, clock, h1, h2⟩, h3⟩ := h
  exact ⟨_, h1, rfl⟩
theorem MapIs.mono (h : MapIs P k e q w b n f) {m : Nat} (hm : n ≤ m) : MapIs P k e q w b m f := by
  obtain ⟨D, ⟨es, clock, h1, h2, h4, h5⟩, h3⟩ := h
  exact ⟨D, ⟨es, clock, h1, h2, by omega, h5⟩, h3⟩
theorem MapIs.cong (h : MapIs P k e q w b n f) {g : List UInt8 → Option Int} (hg : ∀ s, g s = f s) : MapIs P k e q w b n g := by
  obtain ⟨D, h1, h3⟩ := h
  exact ⟨D, h1, fun s => by rw [hg s]; exact h3 s⟩
theorem MapIs.made (w : World) : MapIs P k e q (w.alloc (.map #[] 0)) w.heap.size 0 (fun _ => none) :=
  ⟨.map [], World.ownsMap_made _ _ _ _, fun s => ⟨rfl, rfl⟩⟩
variable {ops : Array Oper} {rest : List Oper} {o : Oper} {a : Act} {Q : Exit → Act → World → Prop} {F : Fence} {nF : Nat}
theorem strB_key (hk : P.underlying k = some .string) (s : List UInt8) (hs : s.length ≤ maxLen) : keyOf P k (.string (strB s)) = some (.string s) :=
  Go.WideMaps.keyOf_string_mk hk (s := strB s) (by show s.length ≤ _; exact hs)
theorem MapIs.put {D : DataW Unit} (hm : Maps.IsMap D) (h : ∀ s, Maps.has D (.string s) = (f s).isSome ∧ D.atKey (.string s) (.lit (.int q 0)) = .lit (.int q ((f s).getD 0))) (s : List UInt8) (v : Int) :
    ∀ t, Maps.has (D.put (.string s) (.lit (.int q v))) (.string t) = (fput f s v t).isSome ∧ (D.put (.string s) (.lit (.int q v))).atKey (.string t) (.lit (.int q 0)) = .lit (.int q ((fput f s v t).getD 0)) := fun t => by
  unfold fput
  by_cases ht : t = s
  · subst ht
    rw [if_pos rfl]
    exact ⟨Maps.has_put_same hm (show WideAt.IsKeyLit (.string t) from trivial) _, Maps.atKey_put_same hm (show WideAt.IsKeyLit (.string t) from trivial) _ _⟩
  · rw [if_neg ht]
    have hne : (Lit.string t) ≠ .string s := fun e => ht (by injection e)
    rw [Maps.has_put_other hne, Maps.atKey_put_other hne]
    exact h t
theorem isMap_of {D : DataW Unit} (h : w.ownsMap P k (plainElem P e) b n D) : Maps.IsMap D := by
  obtain ⟨es, clock, _, _, _, rfl⟩ := h
  exact ⟨_, rfl⟩
/-- m[s] = v. -/
theorem wpList_mapset (hg : o.guard = none) (m x v : Operand) (t : TypeId) (hop : o.op = Op.mapUpdate t m x v)
    (hk : P.underlying k = some .string) (ht : P.underlying t = some (.map k e)) (he : P.underlying e = some (.int q))
    (hm : a.eval m = .map (some b)) (hown : MapIs P k e q w b n f) (hn : n < maxLen) (s : List UInt8) (hs : s.length ≤ maxLen) (c : Int) (hx : a.eval x = .string (strB s)) (hv : a.eval v = .int q c) (hc : (Lit.int q c).wf = true)
    (hK : ∀ w', MapIs P k e q w' b (n + 1) (fput f s c) → w.grownBy w' (some b) → wpList P ops Q rest (a.put o.dst undef) w') : wpList P ops Q (o :: rest) a w := by
  obtain ⟨D, h1, h2⟩ := hown
  exact wpList_mapUpdate_own w hg m x v t hop k e (Maps.string_keyed hk) ht _ b n D hm h1 hn _ _ _ hx hv (strB_key hk s hs) (.lit (.int q c)) [] (plainElem_int he hc)
    (fun w' r1 r2 => hK w' ⟨_, r1, MapIs.put (isMap_of h1) h2 s c⟩ r2)
theorem wpListIn_mapset (hg : o.guard = none) (m x v : Operand) (t : TypeId) (hop : o.op = Op.mapUpdate t m x v)
    (hk : P.underlying k = some .string) (ht : P.underlying t = some (.map k e)) (he : P.underlying e = some (.int q))
    (hm : a.eval m = .map (some b)) (hown : MapIs P k e q w b n f) (hn : n < maxLen) (s : List UInt8) (hs : s.length ≤ maxLen) (c : Int) (hx : a.eval x = .string (strB s)) (hv : a.eval v = .int q c) (hc : (Lit.int q c).wf = true)
    (hK : ∀ w', MapIs P k e q w' b (n + 1) (fput f s c) → w.grownBy w' (some b) → wpListIn F nF P ops Q rest (a.put o.dst undef) w') : wpListIn F nF P ops Q (o :: rest) a w := by
  obtain ⟨D, h1, h2⟩ := hown
  exact wpListIn_mapUpdate_own w hg m x v t hop k e (Maps.string_keyed hk) ht _ b n D hm h1 hn _ _ _ hx hv (strB_key hk s hs) (.lit (.int q c)) [] (plainElem_int he hc)
    (fun w' r1 r2 => hK w' ⟨_, r1, MapIs.put (isMap_of h1) h2 s c⟩ r2)
/-- m[s]. -/
theorem wpList_mapget (hg : o.guard = none) (m x : Operand) (t : TypeId) (hop : o.op = Op.lookup t m x false)
    (hk : P.underlying k = some .string) (ht : P.underlying t = some (.map k e)) (he : P.underlying e = some (.int q)) (hz : (zeroValue e).run P w = .ok (.int q 0) w)
    (hm : a.eval m = .map (some b)) (hown : MapIs P k e q w b n f) (s : List UInt8) (hs : s.length ≤ maxLen) (hx : a.eval x = .string (strB s))
    (hK : wpList P ops Q rest (a.put o.dst (.int q ((f s).getD 0))) w) : wpList P ops Q (o :: rest) a w := by
  obtain ⟨D, h1, h2⟩ := hown
  refine wpList_lookup_own_int w hg m x t hop k e q (Maps.string_keyed hk) ht he hz b n D hm h1 _ _ hx (strB_key hk s hs) (fun c hat hwc => ?_)
  rw [(h2 s).2] at hat
  injection hat with hat
  injection hat with _ hat
  rw [← hat]
  exact hK
theorem wpListIn_mapget (hg : o.guard = none) (m x : Operand) (t : TypeId) (hop : o.op = Op.lookup t m x false)
    (hk : P.underlying k = some .string) (ht : P.underlying t = some (.map k e)) (he : P.underlying e = some (.int q)) (hz : (zeroValue e).run P w = .ok (.int q 0) w)
    (hm : a.eval m = .map (some b)) (hown : MapIs P k e q w b n f) (s : List UInt8) (hs : s.length ≤ maxLen) (hx : a.eval x = .string (strB s))
    (hK : wpListIn F nF P ops Q rest (a.put o.dst (.int q ((f s).getD 0))) w) : wpListIn F nF P ops Q (o :: rest) a w := by
  obtain ⟨D, h1, h2⟩ := hown
  refine wpListIn_lookup_own_int w hg m x t hop k e q (Maps.string_keyed hk) ht he hz b n D hm h1 _ _ hx (strB_key hk s hs) (fun c hat hwc => ?_)
  rw [(h2 s).2] at hat
  injection hat with hat
  injection hat with _ hat
  rw [← hat]
  exact hK
theorem wpListIn_mapgetok (hg : o.guard = none) (m x : Operand) (t : TypeId) (hop : o.op = Op.lookup t m x true)
    (hk : P.underlying k = some .string) (ht : P.underlying t = some (.map k e)) (he : P.underlying e = some (.int q)) (hz : (zeroValue e).run P w = .ok (.int q 0) w)
    (hm : a.eval m = .map (some b)) (hown : MapIs P k e q w b n f) (s : List UInt8) (hs : s.length ≤ maxLen) (hx : a.eval x = .string (strB s))
    (hK : wpListIn F nF P ops Q rest (a.put o.dst (.tuple #[.int q ((f s).getD 0), .bool (f s).isSome])) w) : wpListIn F nF P ops Q (o :: rest) a w := by
  obtain ⟨D, h1, h2⟩ := hown
  refine wpListIn_lookup_own_ok_int w hg m x t hop k e q (Maps.string_keyed hk) ht he hz b n D hm h1 _ _ hx (strB_key hk s hs) (fun c hat hwc => ?_)
  rw [(h2 s).2] at hat
  injection hat with hat
  injection hat with _ hat
  rw [← hat, (h2 s).1]
  exact hK
theorem wpListIn_mapget_some (hg : o.guard = none) (m x : Operand) (t : TypeId) (hop : o.op = Op.lookup t m x true)
    (hk : P.underlying k = some .string) (ht : P.underlying t = some (.map k e)) (he : P.underlying e = some (.int q)) (hz : (zeroValue e).run P w = .ok (.int q 0) w)
    (hm : a.eval m = .map (some b)) (hown : MapIs P k e q w b n f) (s : List UInt8) (hs : s.length ≤ maxLen) (hx : a.eval x = .string (strB s)) (c : Int) (hf : f s = some c)
    (hK : wpListIn F nF P ops Q rest (a.put o.dst (.tuple #[.int q c, .bool true])) w) : wpListIn F nF P ops Q (o :: rest) a w :=
  wpListIn_mapgetok hg m x t hop hk ht he hz hm hown s hs hx (by rw [hf]; exact hK)
theorem wpListIn_mapget_none (hg : o.guard = none) (m x : Operand) (t : TypeId) (hop : o.op = Op.lookup t m x true)
    (hk : P.underlying k = some .string) (ht : P.underlying t = some (.map k e)) (he : P.underlying e = some (.int q)) (hz : (zeroValue e).run P w = .ok (.int q 0) w)
    (hm : a.eval m = .map (some b)) (hown : MapIs P k e q w b n f) (s : List UInt8) (hs : s.length ≤ maxLen) (hx : a.eval x = .string (strB s)) (hf : f s = none)
    (hK : wpListIn F nF P ops Q rest (a.put o.dst (.tuple #[.int q 0, .bool false])) w) : wpListIn F nF P ops Q (o :: rest) a w :=
  wpListIn_mapgetok hg m x t hop hk ht he hz hm hown s hs hx (by rw [hf]; exact hK)
theorem MapIs.run_getok (h : MapIs P k e q w b n f) (t : TypeId) (hk : P.underlying k = some .string) (ht : P.underlying t = some (.map k e)) (he : P.underlying e = some (.int q)) (hz : ∀ W : World, (zeroValue e).run P W = .ok (.int q 0) W) (s : List UInt8) (hs : s.length ≤ maxLen) (p : Nat) :
    (Instr.lookup t (.map (some b)) (.string (strB s)) true).run P (w.drewN p) = .ok (.tuple #[.int q ((f s).getD 0), .bool (f s).isSome]) (w.drewN p) := by
  obtain ⟨D, h1, h2⟩ := h
  have h1' : (w.drewN p).ownsMap P k (plainElem P e) b n D := h1
  obtain ⟨v, ps, hrun, hv⟩ := h1'.look_ok (Maps.string_keyed hk) ht (hz _) (plainElem_int (P := P) (a := 0) he (by cases q <;> decide)) (strB_key hk s hs)
  obtain ⟨c, rfl, hc, hwc⟩ := plainElem_int_inv he hv
  have hat := congrArg Prod.fst hc
  dsimp only at hat
  rw [(h2 s).2] at hat
  injection hat with hat
  injection hat with _ hat
  rw [hrun, ← hat, (h2 s).1]
/-- a map with one more entry, a string that it does not hold. -/
theorem run_mapset_new {mty kt et : TypeId} {r clock : Nat} {es : Array MapEntry} {s : ByteArray} {val : Value} (hm : P.underlying mty = some (.map kt et)) (hk : P.underlying kt = some .string) (hb : w.heap[r]? = some (.map es clock)) (hf : Instr.findNow .string (.string s) es.toList 0 = some none) :
    (Instr.mapUpdate mty (.map (some r)) (.string s) val).run P w = .ok () { w with heap := w.heap.setIfInBounds r (.map (es.push { key := .string s, val := val, born := clock }) (clock + 1)) } := by
  have hc : (Instr.checkKey false 10000 kt (.string s)).run P w = .ok () w := MapKept.run_checkKey (k := .string s) hk (by simp [MapKept.IsKey]) false 9999
  simp [Instr.mapUpdate, run_underlying hm, MapKept.run_getObj_map hb, hc, MapKept.run_findKey hk hf, MapKept.run_setObj_map _ hb, Result.andThen]
/-- a look-up in a map of strings. -/
theorem run_mapget_hit {mty kt et : TypeId} {r clock i : Nat} {es : Array MapEntry} {s : ByteArray} {v : Value} (hm : P.underlying mty = some (.map kt et)) (hk : P.underlying kt = some .string) (hb : w.heap[r]? = some (.map es clock)) (hf : Instr.findNow .string (.string s) es.toList 0 = some (some (i, v))) (W : World) (hW : ∃ q, W = w.drewN q) :
    (Instr.lookup mty (.map (some r)) (.string s) true).run P W = .ok (.tuple #[v, .bool true]) W := by
  obtain ⟨q, rfl⟩ := hW
  have hb' : (w.drewN q).heap[r]? = some (.map es clock) := hb
  have hc : (Instr.checkKey es.isEmpty 10000 kt (.string s)).run P (w.drewN q) = .ok () (w.drewN q) := MapKept.run_checkKey (k := .string s) hk (by simp [MapKept.IsKey]) es.isEmpty 9999
  simp [Instr.lookup, run_underlying hm, MapKept.run_getObj_map hb', hc, MapKept.run_findKey hk hf, Result.andThen]
theorem run_mapget_miss {mty kt et : TypeId} {r clock : Nat} {es : Array MapEntry} {s : ByteArray} {z : Value} (hm : P.underlying mty = some (.map kt et)) (hk : P.underlying kt = some .string) (hz : ∀ W : World, (zeroValue et).run P W = .ok z W) (hb : w.heap[r]? = some (.map es clock)) (hf : Instr.findNow .string (.string s) es.toList 0 = some none) (W : World) (hW : ∃ q, W = w.drewN q) :
    (Instr.lookup mty (.map (some r)) (.string s) true).run P W = .ok (.tuple #[z, .bool false]) W := by
  obtain ⟨q, rfl⟩ := hW
  have hb' : (w.drewN q).heap[r]? = some (.map es clock) := hb
  have hc : (Instr.checkKey es.isEmpty 10000 kt (.string s)).run P (w.drewN q) = .ok () (w.drewN q) := MapKept.run_checkKey (k := .string s) hk (by simp [MapKept.IsKey]) es.isEmpty 9999
  simp [Instr.lookup, run_underlying hm, MapKept.run_getObj_map hb', hc, MapKept.run_findKey hk hf, hz, Result.andThen]
end
end Go.Proofs.YtlbhggjkcfcobaaDoor

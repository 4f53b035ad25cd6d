/- The assembler's table of declarations: what it holds; a look-up in it. The assembler's reader: what a method leaves; name. -/
import Derived.Test.YtlbhggjkcfcobaaDoorAv
import Derived.Test.YtlbhggjkcfcobaaDoorMp
import Derived.WideMake
namespace Go.Proofs.YtlbhggjkcfcobaaDoor
open Go.RowKit Go.Proofs
set_option linter.unusedVariables false

/-- the table: closures of the reader at g, whose address lies in cell c, too. -/
def declEs (c g : Nat) : Array MapEntry := #[
  { key := .string ⟨#[98, 121, 116, 101, 115]⟩, val := .func (.func 68) #[] #[.pointer (some ⟨c, 0, none⟩)], born := 0 },
  { key := .string ⟨#[119, 111, 114, 100, 115]⟩, val := .func (.func 70) #[] #[.pointer (some ⟨c, 0, none⟩)], born := 1 },
  { key := .string ⟨#[108, 111, 99, 97, 108]⟩, val := .func (.func 71) #[.pointer (some ⟨g, 0, none⟩)] #[], born := 2 },
  { key := .string ⟨#[99, 111, 110, 115, 116]⟩, val := .func (.func 72) #[.pointer (some ⟨g, 0, none⟩)] #[], born := 3 }]
def DeclM (w : World) (m c g : Nat) : Prop := w.heap[m]? = some (.map (declEs c g) 4) ∧ rowV w c 67 #[.pointer (some ⟨g, 0, none⟩)]
theorem mapset_step {P : Program} {W : World} {mty kt et : TypeId} {b clock : Nat} {es : Array MapEntry} {s : ByteArray} {v : Value} (hm : P.underlying mty = some (.map kt et)) (hk : P.underlying kt = some .string)
    (hb : W.heap[b]? = some (.map es clock)) (hf : Instr.findNow .string (.string s) es.toList 0 = some none) :
    ∃ W', (Instr.mapUpdate mty (.map (some b)) (.string s) v).run P W = .ok () W' ∧ W'.heap[b]? = some (.map (es.push { key := .string s, val := v, born := clock }) (clock + 1)) ∧ (∀ k, k ≠ b → W'.heap[k]? = W.heap[k]?) ∧ (∀ B, B ≤ b → Below B W W') := by
  refine ⟨_, run_mapset_new hm hk hb hf, ?_, fun k hk => ?_, fun B hB => ⟨rfl, rfl, rfl, by simp, fun k hk => ?_⟩⟩
  · have hlt : b < W.heap.size := (Array.getElem?_eq_some_iff.1 hb).1
    simp [Array.getElem?_setIfInBounds, hlt]
  · simp [Array.getElem?_setIfInBounds, Ne.symm hk]
  · have : b ≠ k := by omega
    simp [Array.getElem?_setIfInBounds, this]
theorem uM : Tryd.prog.underlying 94 = some (.map 9 1) := by kernel_rfl
set_option maxRecDepth 100000 in
set_option maxHeartbeats 2000000 in
theorem declarations_at (g : Nat) (w : World) : Calls Tryd.prog 42 #[.pointer (some ⟨g, 0, none⟩)] w fun e w' => e = .returned (.map (some (w.heap.size + 1))) ∧ DeclM w' (w.heap.size + 1) w.heap.size g ∧ Below w.heap.size w w' := by
  have hmk : ∀ W : World, (Instr.makeMap 94 none).run Tryd.prog W = .ok (.map (some W.heap.size)) (W.alloc (.map #[] 0)) := fun W => run_makeMap_plain W _
  obtain ⟨W0, hW0⟩ : ∃ W0, W0 = (w.alloc (.cells #[.pointer (some ⟨g, 0, none⟩)] 67)).alloc (.map #[] 0) := ⟨_, rfl⟩
  have h0 : W0.heap[w.heap.size + 1]? = some (.map #[] 0) := by
    have := heap_alloc_new (w.alloc (.cells #[.pointer (some ⟨g, 0, none⟩)] 67)) (.map #[] 0)
    rw [← hW0] at this
    simpa using this
  have r0 : rowV W0 w.heap.size 67 #[.pointer (some ⟨g, 0, none⟩)] := by
    rw [hW0]
    exact (rowV.new w 67 #[.pointer (some ⟨g, 0, none⟩)]).below (balloc (Below.refl _ _) _) (rowV.new w _ _).lt
  have b0 : Below w.heap.size w W0 := by rw [hW0]; exact balloc (balloc (Below.refl _ _) _) _
  obtain ⟨W1, e1, h1, k1, b1⟩ := mapset_step (P := Tryd.prog) (mty := 94) (s := ⟨#[98, 121, 116, 101, 115]⟩) (v := .func (.func 68) #[] #[.pointer (some ⟨w.heap.size, 0, none⟩)]) uM uS h0 rfl
  obtain ⟨W2, e2, h2, k2, b2⟩ := mapset_step (P := Tryd.prog) (mty := 94) (s := ⟨#[119, 111, 114, 100, 115]⟩) (v := .func (.func 70) #[] #[.pointer (some ⟨w.heap.size, 0, none⟩)]) uM uS h1 (by rfl)
  obtain ⟨W3, e3, h3, k3, b3⟩ := mapset_step (P := Tryd.prog) (mty := 94) (s := ⟨#[108, 111, 99, 97, 108]⟩) (v := .func (.func 71) #[.pointer (some ⟨g, 0, none⟩)] #[]) uM uS h2 (by rfl)
  obtain ⟨W4, e4, h4, k4, b4⟩ := mapset_step (P := Tryd.prog) (mty := 94) (s := ⟨#[99, 111, 110, 115, 116]⟩) (v := .func (.func 72) #[.pointer (some ⟨g, 0, none⟩)] #[]) uM uS h3 (by rfl)
  have hc : ∀ {X Y : World}, (∀ k, k ≠ w.heap.size + 1 → Y.heap[k]? = X.heap[k]?) → rowV X w.heap.size 67 #[.pointer (some ⟨g, 0, none⟩)] → rowV Y w.heap.size 67 #[.pointer (some ⟨g, 0, none⟩)] := fun h r => (h _ (by omega)).trans r
  have q1 := hc k1 r0
  have q2 := hc k2 q1
  have q3 := hc k3 q2
  have q4 := hc k4 q3
  have cell : ∀ {X : World}, rowV X w.heap.size 67 #[.pointer (some ⟨g, 0, none⟩)] → X.cell? ⟨w.heap.size, 0, none⟩ = some (.pointer (some ⟨g, 0, none⟩)) := fun h => by
    unfold rowV at h
    simp [World.cell?, h]
  have c2 := cell q2
  have c3 := cell q3
  have bb : Below w.heap.size w W4 := b0.trans ((b1 _ (by omega)).trans ((b2 _ (by omega)).trans ((b3 _ (by omega)).trans (b4 _ (by omega)))))
  have HD : Hid (DeclM W4 (w.heap.size + 1) w.heap.size g ∧ Below w.heap.size w W4) := ⟨⟨h4, q4⟩, bb⟩
  rw [hW0] at e1
  clear hW0 h0 r0 b0 h1 k1 b1 h2 k2 b2 h3 k3 b3 h4 k4 b4 q1 q2 q3 q4 bb hc cell
  go_enter Tryd.func42, Tryd.ntmps42
  go_wp2_with fail
  go_ret
  exact ⟨rfl, HD.out.1, HD.out.2⟩
theorem declarations_any (g : Nat) (w : World) : Calls Tryd.prog 42 #[.pointer (some ⟨g, 0, none⟩)] w fun e w' => ∃ m c, e = .returned (.map (some m)) ∧ DeclM w' m c g ∧ Below w.heap.size w w' := by
  refine (declarations_at g w).mono ?_
  rintro e w' ⟨rfl, h1, h2⟩
  exact ⟨_, _, rfl, h1, h2⟩
/-- whether a word begins a declaration. -/
def declB (x : List UInt8) : Bool := declL4.contains x
theorem sameS (x y : List UInt8) : Instr.sameNow .string (.string (strB x)) (.string (strB y)) = some (decide (x = y)) := by
  show some (strB x == strB y) = _
  congr 1
  have e : (strB x == strB y) = (x.toArray == y.toArray) := rfl
  rw [e]
  by_cases h : x = y
  · rw [decide_eq_true h, h]; exact beq_self_eq_true _
  · rw [decide_eq_false h]
    exact beq_eq_false_iff_ne.2 (fun e => h (by simpa using e))
theorem findNow_cons (x y : List UInt8) (v : Value) (b : Nat) (es : List MapEntry) (i : Nat) : Instr.findNow .string (.string (strB x)) ({ key := .string (strB y), val := v, born := b } :: es) i = if x = y then some (some (i, v)) else Instr.findNow .string (.string (strB x)) es (i + 1) := by
  rw [Instr.findNow, sameS]
  by_cases h : x = y
  · rw [decide_eq_true h, if_pos h]
  · rw [decide_eq_false h, if_neg h]
theorem decl_find (x : List UInt8) (c g : Nat) : Instr.findNow .string (.string (strB x)) (declEs c g).toList 0 =
    if x = [98, 121, 116, 101, 115] then some (some (0, .func (.func 68) #[] #[.pointer (some ⟨c, 0, none⟩)]))
    else if x = [119, 111, 114, 100, 115] then some (some (1, .func (.func 70) #[] #[.pointer (some ⟨c, 0, none⟩)]))
    else if x = [108, 111, 99, 97, 108] then some (some (2, .func (.func 71) #[.pointer (some ⟨g, 0, none⟩)] #[]))
    else if x = [99, 111, 110, 115, 116] then some (some (3, .func (.func 72) #[.pointer (some ⟨g, 0, none⟩)] #[]))
    else some none := by
  show Instr.findNow .string (.string (strB x)) [{ key := .string (strB [98, 121, 116, 101, 115]), val := _, born := 0 }, { key := .string (strB [119, 111, 114, 100, 115]), val := _, born := 1 }, { key := .string (strB [108, 111, 99, 97, 108]), val := _, born := 2 }, { key := .string (strB [99, 111, 110, 115, 116]), val := _, born := 3 }] 0 = _
  rw [findNow_cons, findNow_cons, findNow_cons, findNow_cons]
  rfl
theorem zM (W : World) : (zeroValue 1).run Tryd.prog W = .ok .nilFunc W := by kernel_rfl
end Go.Proofs.YtlbhggjkcfcobaaDoor
namespace Go.Proofs.YtlbhggjkcfcobaaDoor
open Go.RowKit Go.Proofs
set_option linter.unusedVariables false

theorem cell_rowV {w : World} {g : Nat} {t : TypeId} {cs : Array Value} (h : rowV w g t cs) {j : Nat} {v : Value} (hj : cs[j]? = some v) : w.cell? ⟨g, j, none⟩ = some v := by
  unfold rowV at h
  simp [World.cell?, h, hj]
def wdV (x : Wd) : Value := .agg #[.string (strB x.1), .int .i64 (x.2 : Int)]
/-- what a method of the reader leaves that only reads words. -/
def NxW (B g n : Nat) (v2 v3 v4 v5 v6 v7 : Value) (ws : List Wd) (w w' : World) : Prop := ∃ A k c, k ≤ 9000 ∧ rowV w' g 73 (rdC A k c n v2 v3 v4 v5 v6 v7) ∧ WordsM B w' A k c ws ∧ w.grownBy w' (some g)
/-- a call that leaves with an error at a place. -/
def FailsB (B : Nat) (w : World) (at_ e : Int) (en : Ending) (w' : World) : Prop := en = .panicked [{ v := failV at_ e, recovered := false }] ∧ Below B w w'
theorem grownBy.setNew {w X : World} {row : Option Nat} (h : w.grownBy X row) {p : Addr} (hp : w.heap.size ≤ p.block) (v : Value) : w.grownBy (X.setCell p v) row :=
  ⟨h.os, h.tape, h.output, by simpa [World.setCell] using h.size, fun k hk hr => (Below.heap_setCell X p v k (by omega)).trans (h.block k hk hr)⟩
theorem grownBy.below' {w X Y : World} {row : Option Nat} (h : w.grownBy X row) (hb : Below X.heap.size X Y) : w.grownBy Y row :=
  ⟨hb.os.trans h.os, hb.tape.trans h.tape, hb.output.trans h.output, Nat.le_trans h.size hb.size, fun k hk hr => (hb.block k (Nat.lt_of_lt_of_le hk h.size)).trans (h.block k hk hr)⟩
theorem Below.ofGrown {B g : Nat} {w X : World} (h : w.grownBy X (some g)) (hB : B ≤ g) (hs : B ≤ w.heap.size) : Below B w X :=
  ⟨h.os, h.tape, h.output, h.size, fun k hk => h.block k (by omega) (fun e => by injection e with e; omega)⟩
theorem rowV.setFar {w : World} {g : Nat} {t : TypeId} {cs : Array Value} (h : rowV w g t cs) {p : Addr} (hp : g ≠ p.block) (v : Value) : rowV (w.setCell p v) g t cs := (Below.heap_setCell w p v g hp).trans h
theorem WordsM.setFar {B : Nat} {w : World} {A : Option Addr} {n c : Nat} {l : List Wd} (h : WordsM B w A n c l) {p : Addr} (hp : B ≤ p.block) (v : Value) : WordsM B (w.setCell p v) A n c l :=
  h.below ⟨rfl, rfl, rfl, by simp [World.setCell], fun k hk => Below.heap_setCell w p v k (by omega)⟩
def lettS : List UInt8 := [97, 98, 99, 100, 101, 102, 103, 104, 105, 106, 107, 108, 109, 110, 111, 112, 113, 114, 115, 116, 117, 118, 119, 120, 121, 122]
def nameS : List UInt8 := [97, 98, 99, 100, 101, 102, 103, 104, 105, 106, 107, 108, 109, 110, 111, 112, 113, 114, 115, 116, 117, 118, 119, 120, 121, 122, 48, 49, 50, 51, 52, 53, 54, 55, 56, 57, 95]
theorem lettS_iff (b : UInt8) : lettS.contains b = (97 ≤ b && b ≤ 122) := by
  have : ∀ c : Fin 256, lettS.contains (UInt8.ofNat c.val) = (97 ≤ (UInt8.ofNat c.val) && (UInt8.ofNat c.val) ≤ 122 : Bool) := by decide +kernel
  have := this ⟨b.toNat, b.toNat_lt⟩
  simpa using this
theorem nameS_iff (b : UInt8) : nameS.contains b = nameChar b := by
  have : ∀ c : Fin 256, nameS.contains (UInt8.ofNat c.val) = nameChar (UInt8.ofNat c.val) := by decide +kernel
  have := this ⟨b.toNat, b.toNat_lt⟩
  simpa using this
theorem nameL_eq {x : List UInt8} (h0 : 0 < x.length) : nameL x = (decide (x.length ≤ 32) && onlyL (x.take 1) lettS && onlyL x nameS && !(declB x) && !(findL x).isSome) := by
  unfold nameL declB onlyL
  rw [show x.all nameChar = x.all (fun b => nameS.contains b) from by congr 1; funext b; exact (nameS_iff b).symm]
  cases x with
  | nil => simp at h0
  | cons b t =>
    simp only [List.head?_cons, List.take_succ_cons, List.take_zero, List.all_cons, List.all_nil, Bool.and_true]
    rw [lettS_iff b]
    have : decide (1 ≤ (b :: t).length ∧ (b :: t).length ≤ 32) = decide ((b :: t).length ≤ 32) := by
      apply decide_eq_decide.2; simp
    rw [this]
    cases findL (b :: t) <;> simp
theorem nameL_nil : nameL [] = false := rfl
theorem decl_look {w : World} {m c g : Nat} (h : DeclM w m c g) (x : List UInt8) : ∃ v, ∀ q, (Instr.lookup 94 (.map (some m)) (.string (strB x)) true).run Tryd.prog (w.drewN q) = .ok (.tuple #[v, .bool (declB x)]) (w.drewN q) := by
  have hf := decl_find x c g
  have hd : declB x = decide (x = [98, 121, 116, 101, 115] ∨ x = [119, 111, 114, 100, 115] ∨ x = [108, 111, 99, 97, 108] ∨ x = [99, 111, 110, 115, 116]) := by
    unfold declB declL4
    simp [Bool.decide_or]
  rw [hd]
  by_cases h1 : x = [98, 121, 116, 101, 115]
  · rw [if_pos h1] at hf
    exact ⟨_, fun q => by rw [decide_eq_true (.inl h1)]; exact run_mapget_hit uM uS h.1 hf _ ⟨q, rfl⟩⟩
  rw [if_neg h1] at hf
  by_cases h2 : x = [119, 111, 114, 100, 115]
  · rw [if_pos h2] at hf
    exact ⟨_, fun q => by rw [decide_eq_true (.inr (.inl h2))]; exact run_mapget_hit uM uS h.1 hf _ ⟨q, rfl⟩⟩
  rw [if_neg h2] at hf
  by_cases h3 : x = [108, 111, 99, 97, 108]
  · rw [if_pos h3] at hf
    exact ⟨_, fun q => by rw [decide_eq_true (.inr (.inr (.inl h3)))]; exact run_mapget_hit uM uS h.1 hf _ ⟨q, rfl⟩⟩
  rw [if_neg h3] at hf
  by_cases h4 : x = [99, 111, 110, 115, 116]
  · rw [if_pos h4] at hf
    exact ⟨_, fun q => by rw [decide_eq_true (.inr (.inr (.inr h4)))]; exact run_mapget_hit uM uS h.1 hf _ ⟨q, rfl⟩⟩
  rw [if_neg h4] at hf
  exact ⟨_, fun q => by rw [decide_eq_false (by simp [h1, h2, h3, h4])]; exact run_mapget_miss uM uS zM h.1 hf _ ⟨q, rfl⟩⟩
theorem decl_look' {w : World} {m c g : Nat} (h : DeclM w m c g) (x : List UInt8) : ∃ v, (Instr.lookup 94 (.map (some m)) (.string (strB x)) true).run Tryd.prog w = .ok (.tuple #[v, .bool (declB x)]) w := by
  obtain ⟨v, hv⟩ := decl_look h x
  exact ⟨v, hv 0⟩
end Go.Proofs.YtlbhggjkcfcobaaDoor

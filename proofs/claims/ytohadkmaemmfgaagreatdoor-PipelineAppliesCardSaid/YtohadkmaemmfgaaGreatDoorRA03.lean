/- Yb Zx. -/
import Derived.Test.YtohadkmaemmfgaaGreatDoorRA01
import Derived.Test.YtohadkmaemmfgaaGreatDoorRA02
set_option maxRecDepth 100000
set_option maxHeartbeats 4000000
namespace Go.Proofs.YtohadkmaemmfgaaGreatDoor
open Go.RowKit Go.Proofs
set_option linter.unusedVariables false
set_option linter.unusedSimpArgs false
def Stgs (w : World) (A : Option Addr) (n c : Nat) (l : List Stg) : Prop := l.length = n ∧ n ≤ c ∧ (∀ x ∈ l, (Lit.int .i64 x.1).wf = true ∧ (Lit.int .i64 x.2).wf = true) ∧ Cells2 w A n (fun i => .int .i64 (sG l i).1) (fun i => .int .i64 (sG l i).2)
theorem Stgs.below {w w' : World} {A : Option Addr} {n c : Nat} {l : List Stg} (h : Stgs w A n c l) (hb : Below w.heap.size w w') : Stgs w' A n c l := ⟨h.1, h.2.1, h.2.2.1, h.2.2.2.below hb⟩
theorem Stgs.wf {w : World} {A : Option Addr} {n c : Nat} {l : List Stg} (h : Stgs w A n c l) (k : Nat) : (Lit.int .i64 (sG l k).1).wf = true ∧ (Lit.int .i64 (sG l k).2).wf = true := by
  unfold sG
  rcases Nat.lt_or_ge k l.length with hk | hk
  · rw [List.getD_eq_getElem?_getD, List.getElem?_eq_getElem hk]; exact h.2.2.1 _ (List.getElem_mem hk)
  · rw [List.getD_eq_getElem?_getD, List.getElem?_eq_none hk]; exact ⟨by decide, by decide⟩
theorem Stgs.cell {w : World} {A : Option Addr} {n c : Nat} {l : List Stg} (h : Stgs w A n c l) {k : Nat} (hk : k < n) : ∃ b off, A = some ⟨b, off, none⟩ ∧ b < w.heap.size ∧ w.cell? ⟨b, off + k * 2, none⟩ = some (.int .i64 (sG l k).1) ∧ w.cell? ⟨b, off + k * 2 + 1, none⟩ = some (.int .i64 (sG l k).2) := by
  obtain ⟨b, off, hA, hlt, hc⟩ := h.2.2.2 (by omega)
  exact ⟨b, off, hA, hlt, (hc k hk).1, (hc k hk).2⟩
def rowV (w : World) (g : Nat) (t : TypeId) (cs : Array Value) : Prop := w.heap[g]? = some (.cells cs t (0, 0))
theorem rowV.lt {w : World} {g : Nat} {t : TypeId} {cs : Array Value} (h : rowV w g t cs) : g < w.heap.size := by
  rcases Nat.lt_or_ge g w.heap.size with hlt | hge
  · exact hlt
  · unfold rowV at h; rw [Array.getElem?_eq_none hge] at h; cases h
theorem rowV.below {w w' : World} {g B : Nat} {t : TypeId} {cs : Array Value} (h : rowV w g t cs) (hb : Below B w w') (hg : g < B) : rowV w' g t cs := (hb.block g hg).trans h
theorem rowV.new (w : World) (t : TypeId) (cs : Array Value) : rowV (w.alloc (.cells cs t)) w.heap.size t cs := heap_alloc_new w _
theorem rowV.cell {w : World} {g : Nat} {t : TypeId} {cs : Array Value} (h : rowV w g t cs) {j : Nat} {v : Value} (hj : cs[j]? = some v) : w.cell? ⟨g, j, none⟩ = some v := by
  unfold rowV at h; simp [World.cell?, h, hj]
theorem two_cellsV {w : World} {g : Nat} {t : TypeId} {a b : Value} (h : rowV w g t #[a, b]) : w.cell? ⟨g, 0, none⟩ = some a ∧ w.cell? ⟨g, 1, none⟩ = some b := ⟨h.cell rfl, h.cell rfl⟩
theorem rowV.set {w : World} {g : Nat} {t : TypeId} {cs : Array Value} (h : rowV w g t cs) (j : Nat) (v : Value) : rowV (w.setCell ⟨g, j, none⟩ v) g t (cs.setIfInBounds j v) := by
  unfold rowV at h ⊢
  simp [World.setCell, Array.getElem?_modify, h]
theorem rowV.frozen {w : World} {g : Nat} {t : TypeId} {cs : Array Value} (h : rowV w g t cs) (j : Nat) : w.frozen? ⟨g, j, none⟩ = false := by
  unfold rowV at h; simp [World.frozen?, h]
theorem ret_cell {P : Program} {fn : Func} {p u : Tmp} {ty t : TypeId} {R : Ending → World → Prop} {tmps : Array Value} {W : World} {g : Nat} {cs : Array Value} {v : Value} {d : TypeDesc} (h : fn.results = #[.cell p ty, .tmp u])
    (hp : tmps.getD p undef = .pointer (some ⟨g, 0, none⟩)) (hv : tmps.getD u undef = v) (hr : rowV W g t cs) (hu : P.underlying ty = some d) (hd : (match d with | .struct _ | .array _ _ => true | _ => false) = true) (hi : (P.info? ty).map (·.size) = some cs.size)
    (hR : R (.returned (.tuple #[.agg cs, v])) W) : bodyPost P fn R .ret { tmps := tmps, defers := [] } W := by
  refine bodyPost_ret (v := .tuple #[.agg cs, v]) ?_ rfl hR
  rw [results_cell_tmp h, hp, hv]
  simp [asAddr, run_loadVar_row W g t ty cs (0, 0) d hr hu hd hi, Result.andThen]
theorem wpList_store_new {P : Program} {ops : Array Oper} {rest : List Oper} {o : Oper} {a : Act} {w : World} {Q : Exit → Act → World → Prop} (hgd : o.guard = none) (ty : TypeId) (x y : Operand) (ho : o.op = .store ty x y)
    (cells : Array Value) (t : TypeId) (old : Array Value) (hx : a.eval x = .pointer (some ⟨w.heap.size, 0, none⟩)) (hy : a.eval y = .agg cells) (hi : (P.info? ty).map (·.size) = some cells.size)
    (hold : old.size = cells.size) (h1 : cells.all (·.oneCell') = true)
    (h : wpList P ops Q rest (a.put o.dst undef) (w.alloc (.cells cells t))) : wpList P ops Q (o :: rest) a (w.alloc (.cells old t)) := by
  refine wpList_store_row hgd ty x y ho w.heap.size cells hx hy t old (heap_alloc_new w _) hi hold h1 ?_
  rw [World.setRow_alloc_new]; exact h
theorem i5 (a b c d e : Value) : (Tryz.prog.info? 45).map (·.size) = some (#[a, b, c, d, e] : Array Value).size := by kernel_rfl
theorem all5 (s : ByteArray) (x y : Int) (g g' : Nat) (l l' : Array Value) : (#[.string s, .int .i64 x, .int .i64 y, .func (.func g) #[] l, .func (.func g') #[] l'] : Array Value).all (·.oneCell') = true := by simp [Value.oneCell']
def zeroS : Array Value := (List.replicate 10 [Value.string (strB []), .int .i64 0, .int .i64 0, .nilFunc, .nilFunc]).flatten.toArray
theorem zS (W : World) : (zeroValue 46).run Tryz.prog W = .ok (.agg zeroS) W := (Go.zero_of_info (n := 50) (by kernel_rfl)).1 W
theorem uSh : Tryz.prog.underlying 46 = some (.array 10 45) := Tryz.underlying46
def shV (f : Nat → Value) : Array Value :=
  #[.string (strB (nameP 0)), .int .i64 0, .int .i64 1, .func (.func 27) #[] #[], .func (.func 27) #[] #[],
    .string (strB (nameP 1)), .int .i64 1, .int .i64 1, .func (.func 28) #[] #[], .func (.func 29) #[] #[],
    .string (strB (nameP 2)), .int .i64 1, .int .i64 0, .func (.func 30) #[] #[], .func (.func 31) #[] #[],
    .string (strB (nameP 3)), .int .i64 1, .int .i64 0, .func (.func 27) #[] #[], .func (.func 27) #[] #[],
    .string (strB (nameP 4)), .int .i64 0, .int .i64 0, f 0, f 1,
    .string (strB (nameP 5)), .int .i64 0, .int .i64 0, f 2, f 3,
    .string (strB (nameP 6)), .int .i64 0, .int .i64 0, f 4, f 5,
    .string (strB (nameP 7)), .int .i64 0, .int .i64 2, f 6, f 7,
    .string (strB (nameP 8)), .int .i64 2, .int .i64 3, f 8, f 9,
    .string (strB (nameP 9)), .int .i64 3, .int .i64 0, f 10, f 11]
theorem iSh (f : Nat → Value) : (Tryz.prog.info? 46).map (·.size) = some (shV f).size := by kernel_rfl
theorem zS_size (f : Nat → Value) : zeroS.size = (shV f).size := by show zeroS.size = 50; decide +kernel
def IsCl (f : Nat → Value) : Prop := ∀ i, ∃ p, f i = .func (.func 74) #[] #[.pointer p]
theorem allSh {f : Nat → Value} (h : IsCl f) : (shV f).all (·.oneCell') = true := by
  have hc : ∀ i, (f i).oneCell' = true := fun i => by obtain ⟨p, e⟩ := h i; rw [e]; rfl
  simp [shV, Value.oneCell', hc] <;> exact ⟨hc 0, hc 1, hc 2, hc 3, hc 4, hc 5, hc 6, hc 7, hc 8, hc 9, hc 10, hc 11⟩
def toK (k : Nat) : Int := if k = 0 ∨ k = 1 then 1 else if k = 7 then 2 else if k = 8 then 3 else 0
theorem shV_at {f : Nat → Value} (hf : IsCl f) {k : Nat} (hk : k < 10) : ∃ (g g' : Nat) (lb lb' : Array Value), (shV f)[k * 5]? = some (.string (strB (nameP k))) ∧ (shV f)[k * 5 + 1]? = some (.int .i64 (frK k)) ∧ (shV f)[k * 5 + 2]? = some (.int .i64 (toK k)) ∧ (shV f)[k * 5 + 3]? = some (.func (.func g) #[] lb) ∧ (shV f)[k * 5 + 4]? = some (.func (.func g') #[] lb') := by
  match k, hk with
  | 0, _ => exact ⟨_, _, _, _, rfl, rfl, rfl, rfl, rfl⟩
  | 1, _ => exact ⟨_, _, _, _, rfl, rfl, rfl, rfl, rfl⟩
  | 2, _ => exact ⟨_, _, _, _, rfl, rfl, rfl, rfl, rfl⟩
  | 3, _ => exact ⟨_, _, _, _, rfl, rfl, rfl, rfl, rfl⟩
  | 4, _ => obtain ⟨p, e⟩ := hf 0; obtain ⟨q, e'⟩ := hf 1; exact ⟨_, _, _, _, rfl, rfl, rfl, congrArg some e, congrArg some e'⟩
  | 5, _ => obtain ⟨p, e⟩ := hf 2; obtain ⟨q, e'⟩ := hf 3; exact ⟨_, _, _, _, rfl, rfl, rfl, congrArg some e, congrArg some e'⟩
  | 6, _ => obtain ⟨p, e⟩ := hf 4; obtain ⟨q, e'⟩ := hf 5; exact ⟨_, _, _, _, rfl, rfl, rfl, congrArg some e, congrArg some e'⟩
  | 7, _ => obtain ⟨p, e⟩ := hf 6; obtain ⟨q, e'⟩ := hf 7; exact ⟨_, _, _, _, rfl, rfl, rfl, congrArg some e, congrArg some e'⟩
  | 8, _ => obtain ⟨p, e⟩ := hf 8; obtain ⟨q, e'⟩ := hf 9; exact ⟨_, _, _, _, rfl, rfl, rfl, congrArg some e, congrArg some e'⟩
  | 9, _ => obtain ⟨p, e⟩ := hf 10; obtain ⟨q, e'⟩ := hf 11; exact ⟨_, _, _, _, rfl, rfl, rfl, congrArg some e, congrArg some e'⟩
def clV (p : Option Addr) : Value := .func (.func 74) #[] #[.pointer p]
theorem cell_blk_eq {w w' : World} {a : Addr} (h : w'.heap[a.block]? = w.heap[a.block]?) : w'.cell? a = w.cell? a := by unfold World.cell?; rw [h]
def BoxF (w : World) (B : Nat) (p : Option Addr) (g : Nat) : Prop := ∃ b, p = some ⟨b, 0, none⟩ ∧ B ≤ b ∧ w.cell? ⟨b, 0, none⟩ = some (.func (.func g) #[] #[])
theorem BoxF.below {w w' : World} {B g : Nat} {p : Option Addr} (h : BoxF w B p g) (hb : Below w.heap.size w w') : BoxF w' B p g := by
  obtain ⟨b, h1, h2, h3⟩ := h
  exact ⟨b, h1, h2, (hb.cell (p := ⟨b, 0, none⟩) (World.block_lt_of_cell? w _ h3)).trans h3⟩
theorem BoxF.mono {w : World} {B B' g : Nat} {p : Option Addr} (h : BoxF w B p g) (hB : B' ≤ B) : BoxF w B' p g := by
  obtain ⟨b, h1, h2, h3⟩ := h
  exact ⟨b, h1, by omega, h3⟩
theorem plain_any (g : Nat) (w : World) : Calls Tryz.prog 32 #[.func (.func g) #[] #[]] w fun e w' => (∃ p, e = .returned (.func (.func 74) #[] #[.pointer p]) ∧ BoxF w' w.heap.size p g) ∧ Below w.heap.size w w' := by
  go_enter Tryz.func32, Tryz.ntmps32
  go_wp2
  go_ret
  exact ⟨⟨_, rfl, w.heap.size, rfl, Nat.le_refl _, by simp⟩, (Below.refl _ _).alloc (Nat.le_refl _) _⟩
def fnsI : List Nat := [33, 34, 35, 36, 37, 38, 39, 40, 41, 42, 43, 44]
def ClAt (w : World) (B : Nat) (f : Nat → Value) : Prop := ∀ i, i < 12 → ∃ p, f i = clV p ∧ BoxF w B p (fnsI.getD i 0)
theorem ClAt.below {w w' : World} {B : Nat} {f : Nat → Value} (h : ClAt w B f) (hb : Below w.heap.size w w') : ClAt w' B f := fun i hi => by
  obtain ⟨p, h1, h2⟩ := h i hi
  exact ⟨p, h1, h2.below hb⟩
section
variable {P : Program} {ops : Array Oper} {rest : List Oper} {o : Oper} {a : Act} {w : World} {Q : Exit → Act → World → Prop}
theorem wpList_built (hg : o.guard = none) (t : TypeId) (parts : Array (Nat × Operand)) (ho : o.op = .build t parts) (cells : Array Value)
    (hf : P.built t (parts.map fun (i, x) => (i, a.eval x)).toList = some cells) (h : wpList P ops Q rest (a.put o.dst (.agg cells)) w) : wpList P ops Q (o :: rest) a w :=
  wpList_build hg t parts ho (by rw [hf]; rfl) (by rw [hf]; exact h)
end
theorem shapes_all (w : World) : Calls Tryz.prog 16 #[] w fun e w' => (∃ f, IsCl f ∧ ClAt w' w.heap.size f ∧ e = .returned (.agg (shV f))) ∧ Below w.heap.size w w' := by
  have z1 := zS
  have hr0 := rowV.new w 46 zeroS
  go_enter Tryz.func16, Tryz.ntmps16
  go_wp2_with (fail)
  refine (plain_any _ _).mono ?_
  rintro e1 w1 ⟨⟨p1, rfl, q1⟩, hb1⟩
  go_wp2_with (fail)
  refine (plain_any _ _).mono ?_
  rintro e2 w2 ⟨⟨p2, rfl, q2⟩, hb2⟩
  go_wp2_with (fail)
  refine (plain_any _ _).mono ?_
  rintro e3 w3 ⟨⟨p3, rfl, q3⟩, hb3⟩
  go_wp2_with (fail)
  refine (plain_any _ _).mono ?_
  rintro e4 w4 ⟨⟨p4, rfl, q4⟩, hb4⟩
  go_wp2_with (fail)
  refine (plain_any _ _).mono ?_
  rintro e5 w5 ⟨⟨p5, rfl, q5⟩, hb5⟩
  go_wp2_with (fail)
  refine (plain_any _ _).mono ?_
  rintro e6 w6 ⟨⟨p6, rfl, q6⟩, hb6⟩
  go_wp2_with (fail)
  refine (plain_any _ _).mono ?_
  rintro e7 w7 ⟨⟨p7, rfl, q7⟩, hb7⟩
  go_wp2_with (fail)
  refine (plain_any _ _).mono ?_
  rintro e8 w8 ⟨⟨p8, rfl, q8⟩, hb8⟩
  go_wp2_with (fail)
  refine (plain_any _ _).mono ?_
  rintro e9 w9 ⟨⟨p9, rfl, q9⟩, hb9⟩
  go_wp2_with (fail)
  refine (plain_any _ _).mono ?_
  rintro e10 w10 ⟨⟨p10, rfl, q10⟩, hb10⟩
  go_wp2_with (fail)
  refine (plain_any _ _).mono ?_
  rintro e11 w11 ⟨⟨p11, rfl, q11⟩, hb11⟩
  go_wp2_with (fail)
  rename_i K12 ha12
  refine (plain_any _ _).mono ?_
  rintro e12 w12 ⟨⟨p12, rfl, q12⟩, hb12⟩
  dsimp only
  have c1 := hb1
  have c2 := c1.trans (hb2.mono c1.size)
  have c3 := c2.trans (hb3.mono c2.size)
  have c4 := c3.trans (hb4.mono c3.size)
  have c5 := c4.trans (hb5.mono c4.size)
  have c6 := c5.trans (hb6.mono c5.size)
  have c7 := c6.trans (hb7.mono c6.size)
  have c8 := c7.trans (hb8.mono c7.size)
  have c9 := c8.trans (hb9.mono c8.size)
  have c10 := c9.trans (hb10.mono c9.size)
  have c11 := c10.trans (hb11.mono c10.size)
  have c12 := c11.trans (hb12.mono c11.size)
  have d12 := hb12
  have d11 := hb11.trans (d12.mono hb11.size)
  have d10 := hb10.trans (d11.mono hb10.size)
  have d9 := hb9.trans (d10.mono hb9.size)
  have d8 := hb8.trans (d9.mono hb8.size)
  have d7 := hb7.trans (d8.mono hb7.size)
  have d6 := hb6.trans (d7.mono hb6.size)
  have d5 := hb5.trans (d6.mono hb5.size)
  have d4 := hb4.trans (d5.mono hb4.size)
  have d3 := hb3.trans (d4.mono hb3.size)
  have d2 := hb2.trans (d3.mono hb2.size)
  have z1' := q1.below d2
  have z2' := q2.below d3
  have z3' := q3.below d4
  have z4' := q4.below d5
  have z5' := q5.below d6
  have z6' := q6.below d7
  have z7' := q7.below d8
  have z8' := q8.below d9
  have z9' := q9.below d10
  have z10' := q10.below d11
  have z11' := q11.below d12
  have hs0 : w.heap.size < (w.alloc (.cells zeroS 46)).heap.size := by rw [World.size_alloc]; omega
  refine ha12 _ _ ?_
  refine wpList_built rfl _ _ rfl #[.string (strB (nameP 9)), .int .i64 3, .int .i64 0, clV p11, clV p12] (by kernel_rfl) ?_
  refine wpList_built rfl _ _ rfl (shV fun i => clV ([p1, p2, p3, p4, p5, p6, p7, p8, p9, p10, p11, p12].getD i none)) (by kernel_rfl) ?_
  have hr := hr0.below c12 hr0.lt
  obtain ⟨f, hf⟩ : ∃ f : Nat → Value, f = fun i => clV ([p1, p2, p3, p4, p5, p6, p7, p8, p9, p10, p11, p12].getD i none) := ⟨_, rfl⟩
  have hcl : IsCl f := fun i => ⟨_, by rw [hf]; rfl⟩
  have hca : ClAt w12 (w.heap.size + 1) f := fun i hi => by
    refine ⟨_, by rw [hf], ?_⟩
    have k1 := c1.size; have k2 := c2.size; have k3 := c3.size; have k4 := c4.size; have k5 := c5.size; have k6 := c6.size
    have k7 := c7.size; have k8 := c8.size; have k9 := c9.size; have k10 := c10.size; have k11 := c11.size
    match i, hi with
    | 0, _ => exact z1'.mono (by omega)
    | 1, _ => exact z2'.mono (by omega)
    | 2, _ => exact z3'.mono (by omega)
    | 3, _ => exact z4'.mono (by omega)
    | 4, _ => exact z5'.mono (by omega)
    | 5, _ => exact z6'.mono (by omega)
    | 6, _ => exact z7'.mono (by omega)
    | 7, _ => exact z8'.mono (by omega)
    | 8, _ => exact z9'.mono (by omega)
    | 9, _ => exact z10'.mono (by omega)
    | 10, _ => exact z11'.mono (by omega)
    | 11, _ => exact q12.mono (by omega)
  have hca2 : ClAt (w12.setRow w.heap.size (shV f)) w.heap.size f := fun i hi => by
    obtain ⟨p, h1, b, h2, h3, h4⟩ := hca i hi
    exact ⟨p, h1, b, h2, by omega, (cell_blk_eq (a := ⟨b, 0, none⟩) (setRow_other w12 _ b _ (by omega))).trans h4⟩
  rw [← hf]
  refine wpList_store_row rfl _ _ _ rfl w.heap.size _ rfl rfl _ _ hr (iSh f) (zS_size f) (allSh hcl) ?_
  have r6 := setRow_heap w12 w.heap.size _ (shV f) _ _ hr
  have c13 : Below w.heap.size w w12 := (balloc (Below.refl _ _) _).trans (c12.mono (by rw [World.size_alloc]; omega))
  have b13 : Below w.heap.size w (w12.setRow w.heap.size (shV f)) := ⟨c13.1, c13.2, c13.3, by rw [size_setRow]; exact c13.4, fun i hi => (setRow_other w12 _ i _ (by omega)).trans (c13.5 i hi)⟩
  obtain ⟨w13, hw13⟩ : ∃ x, x = w12.setRow w.heap.size (shV f) := ⟨_, rfl⟩
  rw [← hw13] at r6 b13 hca2 ⊢
  go_wp2
  exact bodyPost_ret (v := .agg (shV f)) (results_cell_row rfl _ _ _ _ _ _ _ rfl r6 uSh rfl (iSh f)) rfl ⟨⟨f, hcl, hca2, rfl⟩, b13⟩
theorem shapes_any (w : World) : Calls Tryz.prog 16 #[] w fun e w' => (∃ f, IsCl f ∧ e = .returned (.agg (shV f))) ∧ Below w.heap.size w w' := by
  refine (shapes_all w).mono ?_
  rintro e w' ⟨⟨f, h1, -, h2⟩, h3⟩
  exact ⟨⟨f, h1, h2⟩, h3⟩
section
variable {α : Type} {enc : α → List Value} {sz : Nat} {w : World} {B : Nat} {e : TypeId} {A : Option Addr} {n c : Nat} {xs : List α}
end
section
variable {α : Type} {enc : α → List Value} {sz : Nat} {P : Program} {w : World} {B : Nat} {e t : TypeId} {A : Option Addr} {n c : Nat} {xs : List α} {z : Value} {bytes : Nat}
  {ops : Array Oper} {rest : List Oper} {o : Oper} {a : Act} {Q : Exit → Act → World → Prop}
end
def encG (s : Stg) : List Value := [.int .i64 s.1, .int .i64 s.2]
theorem Stgs.src {w : World} {A : Option Addr} {n c : Nat} {l : List Stg} (h : Stgs w A n c l) : (A = none → n = 0) ∧ ∀ a, A = some a → ∀ j u, (l.flatMap encG)[j]? = some u → w.cell? (a.add j) = some u := by
  have hl := h.1
  constructor
  · intro e
    subst e
    rcases Nat.eq_zero_or_pos n with h0 | h0
    · exact h0
    · obtain ⟨b, off, hA, -⟩ := h.cell (k := 0) h0; cases hA
  · rintro a rfl j u hj
    have hlen : j < l.length * 2 := by
      have := (List.getElem?_eq_some_iff.1 hj).1
      rwa [flat_length (enc := encG) (sz := 2) (fun _ => rfl)] at this
    obtain ⟨b, off, hA, -, c0, c1⟩ := h.cell (k := j / 2) (by omega)
    injection hA with hA
    subst hA
    have hg := flat_get (enc := encG) (sz := 2) (fun _ => rfl) (0, 0) l (j / 2) (j % 2) (by omega) (Nat.mod_lt _ (by decide))
    rw [show j / 2 * 2 + j % 2 = j by omega, hj] at hg
    rw [addr_add]
    rcases Nat.mod_two_eq_zero_or_one j with e | e
    · rw [e] at hg
      have hu : u = .int .i64 (sG l (j / 2)).1 := by injection hg
      rw [hu, ← c0, show off + j / 2 * 2 = off + j by omega]
    · rw [e] at hg
      have hu : u = .int .i64 (sG l (j / 2)).2 := by injection hg
      rw [hu, ← c1, show off + j / 2 * 2 + 1 = off + j by omega]
end Go.Proofs.YtohadkmaemmfgaaGreatDoor

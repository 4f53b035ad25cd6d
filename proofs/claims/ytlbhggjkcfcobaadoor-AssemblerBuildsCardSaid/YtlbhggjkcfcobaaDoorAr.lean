/- The assembler's reader in memory, whole: its invariant; look-ups in lists of names. -/
import Derived.Test.YtlbhggjkcfcobaaDoorAq
import Derived.Test.YtlbhggjkcfcobaaDoorAm
namespace Go.Proofs.YtlbhggjkcfcobaaDoor
open Go.RowKit Go.Proofs
set_option linter.unusedVariables false

def encAr (x : Arr) : List Value := [.bool x.word, .int .i64 x.size]
def encIn (x : Ins) : List Value := [.int .i64 x.op, .int .u32 x.arg]
def encSt (x : List UInt8) : List Value := [.string (strB x)]
theorem encAr_one (x : Arr) : ∀ u ∈ encAr x, u.oneCell' = true := by
  intro u hu; simp [encAr] at hu; rcases hu with rfl | rfl <;> rfl
theorem encIn_one (x : Ins) : ∀ u ∈ encIn x, u.oneCell' = true := by
  intro u hu; simp [encIn] at hu; rcases hu with rfl | rfl <;> rfl
theorem encSt_one (x : List UInt8) : ∀ u ∈ encSt x, u.oneCell' = true := by
  intro u hu; simp [encSt] at hu; rw [hu]; rfl
theorem infoAr : (Tryd.prog.info? 47).map (fun i => (i.zero, i.size, i.bytes)) = some (some (.agg #[.bool false, .int .i64 0]), 2, 16) := by kernel_rfl
theorem infoIn : (Tryd.prog.info? 57).map (fun i => (i.zero, i.size, i.bytes)) = some (some (.agg #[.int .i64 0, .int .u32 0]), 2, 16) := by kernel_rfl
theorem infoSt : (Tryd.prog.info? 9).map (fun i => (i.zero, i.size, i.bytes)) = some (some (.string ⟨#[]⟩), 1, 16) := by kernel_rfl
theorem uAr : Tryd.prog.underlying 24 = some (.slice 47) := by kernel_rfl
theorem uIn : Tryd.prog.underlying 25 = some (.slice 57) := by kernel_rfl
theorem uSt : Tryd.prog.underlying 34 = some (.slice 9) := by kernel_rfl
theorem uMc : Tryd.prog.underlying 71 = some (.map 9 3) := by kernel_rfl
theorem uInt : Tryd.prog.underlying 3 = some (.int .i64) := by kernel_rfl
theorem zInt (W : World) : (zeroValue 3).run Tryd.prog W = .ok (.int .i64 0) W := by kernel_rfl

section
variable {α : Type} {enc : α → List Value} {sz : Nat} {w w' : World} {B : Nat} {e : TypeId} {A : Option Addr} {n c : Nat} {xs : List α}
theorem OwnS.blk (h : OwnS enc sz w B e A n c xs) {b : Nat} (hb : (Value.slice A n c).ownBlock = some b) : b < w.heap.size ∧ B ≤ b ∧ ∃ cur, w.heap[b]? = some (.cells cur e (0, 0)) := by
  rcases h.2 with ⟨h1, _⟩ | ⟨g, cap, cur, h1, h2, h3, _⟩
  · rw [h1] at hb; cases hb
  · rw [h1] at hb
    injection hb with hb
    have hg : g = b := hb
    subst hg
    exact ⟨(Array.getElem?_eq_some_iff.1 h3).1, h2, cur, h3⟩
theorem OwnS.grown (h : OwnS enc sz w B e A n c xs) {row : Option Nat} (hg : w.grownBy w' row) (hne : ∀ b, (Value.slice A n c).ownBlock = some b → some b ≠ row) : OwnS enc sz w' B e A n c xs := by
  refine ⟨h.1, ?_⟩
  rcases h.2 with h1 | ⟨g, cap, cur, h1, h2, h3, h4⟩
  · exact .inl h1
  · exact .inr ⟨g, cap, cur, h1, h2, (hg.block g (Array.getElem?_eq_some_iff.1 h3).1 (hne g (by rw [h1]; rfl))).trans h3, h4⟩
theorem OwnS.ne_row (h : OwnS enc sz w B e A n c xs) {g : Nat} {t : TypeId} {cs : Array Value} (hr : rowV w g t cs) (hne : e ≠ t) : ∀ b, (Value.slice A n c).ownBlock = some b → some b ≠ some g := fun b hb he => by
  injection he with he
  subst he
  obtain ⟨_, _, cur, h3⟩ := h.blk hb
  unfold rowV at hr
  rw [hr] at h3
  injection h3 with h3
  injection h3 with _ h3
  exact hne h3.symm
theorem OwnS.ne_map (h : OwnS enc sz w B e A n c xs) {m : Nat} {o : Obj} (hm : w.heap[m]? = some o) (ho : o.isCells = false) : ∀ b, (Value.slice A n c).ownBlock = some b → b ≠ m := fun b hb he => by
  subst he
  obtain ⟨_, _, cur, h3⟩ := h.blk hb
  rw [hm] at h3
  injection h3 with h3
  rw [h3] at ho
  cases ho
theorem OwnS.ne_own {α' : Type} {enc' : α' → List Value} {sz' : Nat} {e' : TypeId} {A' : Option Addr} {n' c' : Nat} {ys : List α'} (h : OwnS enc sz w B e A n c xs) (h' : OwnS enc' sz' w B e' A' n' c' ys) (hne : e ≠ e') :
    ∀ b, (Value.slice A n c).ownBlock = some b → some b ≠ (Value.slice A' n' c').ownBlock := fun b hb he => by
  obtain ⟨_, _, cur, h3⟩ := h.blk hb
  obtain ⟨_, _, cur', h3'⟩ := h'.blk he.symm
  rw [h3] at h3'
  injection h3' with h3'
  injection h3' with _ h3'
  exact hne h3'
end
/-- append of one element; the block that holds the result is the old one or a new one. -/
theorem run_append_ownS' {P : Program} {α : Type} {enc : α → List Value} {sz : Nat} {w : World} {B : Nat} {e t : TypeId} {A : Option Addr} {n c : Nat} {xs : List α} (ty : TypeId) {z : Value} {bytes : Nat} (ht : P.underlying t = some (.slice e)) (hi : (P.info? e).map (fun i => (i.zero, i.size, i.bytes)) = some (some z, sz, bytes))
    (h1 : ∀ x, ∀ u ∈ enc x, u.oneCell' = true) (hz : z.cells.size = sz) (hl : ∀ x, (enc x).length = sz) (hs : 0 < sz)
    (hown : OwnS enc sz w B e A n c xs) (hB : B ≤ w.heap.size) (y : α) (hml : n + 1 ≤ maxLen) (hby : (n + 1) * bytes ≤ 140737488355328) :
    ∃ A2 c2 w', (Builtin.append_ #[t, t] ty #[.slice A n c, .slice (some ⟨w.heap.size, 0, none⟩) 1 1]).run P (w.alloc (.cells (enc y).toArray e)) = .ok (.slice A2 (n + 1) c2) w' ∧ OwnS enc sz w' B e A2 (n + 1) c2 (xs ++ [y]) ∧ Below B w w' ∧ w.grownBy w' (Value.slice A n c).ownBlock ∧
      (∀ b, (Value.slice A2 (n + 1) c2).ownBlock = some b → (Value.slice A n c).ownBlock = some b ∨ w.heap.size ≤ b) := by
  obtain ⟨i, hi0, hz0, hs1, hb⟩ := info_parts hi
  have hb0 : Below w.heap.size w (w.alloc (.cells (enc y).toArray e)) := (Below.refl _ _).alloc (Nat.le_refl _) _
  obtain ⟨v', w', hrun, h2, h3, _, h5⟩ := run_append_own_at (P := P) (w.alloc (.cells (enc y).toArray e)) B t ty e i z sz bytes ht hi0 hz0 hs1 hb hz hs _ n _ (hown.below hb0) ⟨w.heap.size, 0, none⟩ 1 1 (enc y) (by rw [hl, Nat.one_mul]) (fun j u hu => by
    rw [addr_add, Nat.zero_add, World.cell?_alloc_mark]
    simpa using hu) (h1 y) hml hby (by simp; omega)
  have hform : ∃ A2 c2, v' = .slice A2 (n + 1) c2 := by
    rcases h2.2 with ⟨rfl, h0⟩ | ⟨g, cap, cur, rfl, _⟩
    · exact ⟨none, 0, by rw [h0]⟩
    · exact ⟨_, _, rfl⟩
  obtain ⟨A2, c2, rfl⟩ := hform
  have hg := grownBy.trans' (World.grownBy_alloc w (.cells (enc y).toArray e) (Value.slice A n c).ownBlock) h3
  refine ⟨A2, c2, w', hrun, ?_, (Below.refl B w).grown hg hB (fun k hk => (World.ownsRow.lt hown k hk).1), hg, fun b hb => ?_⟩
  · unfold OwnS
    rw [List.flatMap_append, List.flatMap_cons, List.flatMap_nil, List.append_nil]
    exact h2
  · rcases h5 with h5 | h5
    · exact .inl (h5 ▸ hb)
    · rw [h5] at hb
      injection hb with hb
      refine .inr ?_
      simp at hb
      omega
theorem wpList_pushT {P : Program} {α : Type} {enc : α → List Value} {sz : Nat} {w : World} {B : Nat} {e t : TypeId} {A : Option Addr} {n c : Nat} {xs : List α} {z : Value} {bytes : Nat}
  {ops : Array Oper} {rest : List Oper} {o : Oper} {a : Act} {Q : Exit → Act → World → Prop} (hgd : o.guard = none) (s x : Operand) (ho : o.op = .call { callee := .builtin .append, args := #[s, x], argTypes := #[t, t] })
    (ht : P.underlying t = some (.slice e)) (hi : (P.info? e).map (fun i => (i.zero, i.size, i.bytes)) = some (some z, sz, bytes))
    (h1 : ∀ x, ∀ u ∈ enc x, u.oneCell' = true) (hz : z.cells.size = sz) (hl : ∀ x, (enc x).length = sz) (hsz : 0 < sz)
    (hs : a.eval s = .slice A n c) (hown : OwnS enc sz w B e A n c xs) (hB : B ≤ w.heap.size) (y : α) (cs : Array Value) (hcs : (enc y).toArray = cs)
    (hx : a.eval x = .slice (some ⟨w.heap.size, 0, none⟩) 1 1) (hml : n + 1 ≤ maxLen) (hby : (n + 1) * bytes ≤ 140737488355328)
    (h : ∀ A2 c2 w', OwnS enc sz w' B e A2 (n + 1) c2 (xs ++ [y]) → Below B w w' → w.grownBy w' (Value.slice A n c).ownBlock → (∀ b, (Value.slice A2 (n + 1) c2).ownBlock = some b → (Value.slice A n c).ownBlock = some b ∨ w.heap.size ≤ b) → wpList P ops Q rest (a.put o.dst (.slice A2 (n + 1) c2)) w') : wpList P ops Q (o :: rest) a (w.alloc (.cells cs e)) := by
  subst hcs
  refine wpList_plain hgd fun K hK => ?_
  obtain ⟨A2, c2, w', hrun, h2, h3, h4, h5⟩ := run_append_ownS' (P := P) o.type ht hi h1 hz hl hsz hown hB y hml hby
  unfold Oper.wp execOp
  simp only [ho, resolve, invoke, builtin, Sem.run_bind, Sem.run_pure, Result.andThen_ok, List.map_toArray, List.map_cons, List.map_nil, hs, hx, hrun]
  exact hK _ _ (h A2 c2 w' h2 h3 h4 h5)

/-- where the reader's parts lie. -/
structure RVs where
  A : Option Addr
  k : Nat
  c : Nat
  Aa : Option Addr
  na : Nat
  ca : Nat
  Ac : Option Addr
  nc : Nat
  cc : Nat
  An : Option Addr
  nn : Nat
  cn : Nat
  Al : Option Addr
  nl : Nat
  cl : Nat
  m : Nat
def rdV (v : RVs) (n L : Nat) : Array Value := rdC v.A v.k v.c n (.slice v.Aa v.na v.ca) (.int .i64 (L : Int)) (.slice v.Ac v.nc v.cc) (.slice v.An v.nn v.cn) (.slice v.Al v.nl v.cl) (.map (some v.m))
def conF (s : AS) (x : List UInt8) : Option Int := (conOf s x).map fun k => (k : Int)
structure RD (B g n : Nat) (w : World) (s : AS) (ws : List Wd) (v : RVs) : Prop where
  row : rowV w g 73 (rdV v n s.ln.length)
  wm : WordsM B w v.A v.k v.c ws
  hk : v.k ≤ 9000
  hB : B ≤ g
  hm : B ≤ v.m
  oa : OwnS encAr 2 w B 47 v.Aa v.na v.ca s.arrs
  oc : OwnS encIn 2 w B 57 v.Ac v.nc v.cc s.code
  on : OwnS encSt 1 w B 9 v.An v.nn v.cn s.an
  ol : OwnS encSt 1 w B 9 v.Al v.nl v.cl s.ln
  ne : ∀ b, (Value.slice v.An v.nn v.cn).ownBlock = some b → some b ≠ (Value.slice v.Al v.nl v.cl).ownBlock
  mp : MapIs Tryd.prog 9 3 .i64 w v.m s.cn.length (conF s)
  few : s.cn.length + ws.length ≤ 9000
  err : ErrR w
  hE : 7 < B
  fm : Formed s
  dcl : DeclM w (g + 2) (g + 1) g
  hdm : g + 2 ≠ v.m
theorem DeclM.grown {w X : World} {m c g : Nat} {row : Option Nat} (h : DeclM w m c g) (hg : w.grownBy X row) (h1 : some m ≠ row) (h2 : some c ≠ row) : DeclM X m c g :=
  ⟨(hg.block m (Array.getElem?_eq_some_iff.1 h.1).1 h1).trans h.1, h.2.grown hg h2⟩
theorem DeclM.below {w X : World} {m c g : Nat} (h : DeclM w m c g) (hb : Below w.heap.size w X) : DeclM X m c g :=
  ⟨(hb.block m (Array.getElem?_eq_some_iff.1 h.1).1).trans h.1, h.2.below hb h.2.lt⟩
theorem DeclM.ne_cells {w : World} {m c g k : Nat} {cs : Array Value} {t : TypeId} (h : DeclM w m c g) (hr : w.heap[k]? = some (.cells cs t (0, 0))) (ht : t ≠ 67) : m ≠ k ∧ c ≠ k := by
  refine ⟨fun e => ?_, fun e => ?_⟩
  · have := h.1
    rw [e, hr] at this
    injection this with this
    cases this
  · have := h.2
    unfold rowV at this
    rw [e, hr] at this
    injection this with this
    injection this with _ this
    exact ht this
theorem DeclM.ne_own {α : Type} {enc : α → List Value} {sz : Nat} {w : World} {B : Nat} {e : TypeId} {A : Option Addr} {n c : Nat} {xs : List α} {m d g : Nat} (h : DeclM w m d g) (ho : OwnS enc sz w B e A n c xs) (he : e ≠ 67) : some m ≠ (Value.slice A n c).ownBlock ∧ some d ≠ (Value.slice A n c).ownBlock := by
  refine ⟨fun e1 => ?_, fun e1 => ?_⟩
  · obtain ⟨_, _, cur, h3⟩ := ho.blk e1.symm
    exact (h.ne_cells h3 he).1 rfl
  · obtain ⟨_, _, cur, h3⟩ := ho.blk e1.symm
    exact (h.ne_cells h3 he).2 rfl
theorem DeclM.setRow {w : World} {m c g k j : Nat} {cs : Array Value} {t : TypeId} (h : DeclM w m c g) (hr : rowV w k t cs) (ht : t ≠ 67) (u : Value) : DeclM (w.setCell ⟨k, j, none⟩ u) m c g :=
  have hn := h.ne_cells hr ht
  ⟨(Below.heap_setCell w ⟨k, j, none⟩ u m hn.1).trans h.1, h.2.setFar (p := ⟨k, j, none⟩) hn.2 u⟩
def RVs.at_ (v : RVs) (A : Option Addr) (k c : Nat) : RVs := { v with A := A, k := k, c := c }
theorem ErrR.grown {w w' : World} {row : Option Nat} (h : ErrR w) (hg : w.grownBy w' row) (hne : ∀ b, row = some b → 7 < b) : ErrR w' := by
  obtain ⟨ev, h1, h2⟩ := h
  refine ⟨ev, ?_, h2⟩
  rw [World.cell?_of_block (w := w) (w' := w')]
  · exact h1
  · exact hg.block _ (World.block_lt_of_cell? w _ h1) (fun e => by have := hne _ e.symm; exact absurd this (Nat.lt_irrefl _))
/-- behind a method that only reads words. -/
theorem RD.next' {B g n : Nat} {w w' : World} {s : AS} {ws ws' : List Wd} {v : RVs} (h : RD B g n w s ws v) (hw : ws'.length ≤ ws.length) {A : Option Addr} {k c : Nat} (hk : k ≤ 9000)
    (hr : rowV w' g 73 (rdC A k c n (.slice v.Aa v.na v.ca) (.int .i64 (s.ln.length : Int)) (.slice v.Ac v.nc v.cc) (.slice v.An v.nn v.cn) (.slice v.Al v.nl v.cl) (.map (some v.m)))) (hwm : WordsM B w' A k c ws') (hg : w.grownBy w' (some g)) :
    RD B g n w' s ws' (v.at_ A k c) := by
  have hdn := h.dcl.ne_cells h.row (by decide)
  refine ⟨hr, hwm, hk, h.hB, h.hm, h.oa.grown hg (h.oa.ne_row h.row (by decide)), h.oc.grown hg (h.oc.ne_row h.row (by decide)), h.on.grown hg (h.on.ne_row h.row (by decide)), h.ol.grown hg (h.ol.ne_row h.row (by decide)), h.ne, ?_, by have := h.few; omega, h.err.grown hg (fun b hb => by injection hb with hb; have := h.hE; have := h.hB; omega), h.hE, h.fm, h.dcl.grown hg (fun e => hdn.1 (by injection e)) (fun e => hdn.2 (by injection e)), h.hdm⟩
  refine h.mp.same (hg.block _ h.mp.lt (fun e => ?_))
  injection e with e
  obtain ⟨o, ho, hc⟩ := h.mp.isMap
  have := h.row
  unfold rowV at this
  have e' : v.m = g := e
  rw [e'] at ho
  rw [this] at ho
  injection ho with ho
  rw [← ho] at hc
  cases hc
def NxV (B g n : Nat) (v : RVs) (s : AS) (ws : List Wd) (w w' : World) : Prop := NxW B g n (.slice v.Aa v.na v.ca) (.int .i64 (s.ln.length : Int)) (.slice v.Ac v.nc v.cc) (.slice v.An v.nn v.cn) (.slice v.Al v.nl v.cl) (.map (some v.m)) ws w w'
theorem RD.next {B g n : Nat} {w w' : World} {s : AS} {ws ws' : List Wd} {v : RVs} (h : RD B g n w s ws v) (hw : ws'.length ≤ ws.length) (hx : NxV B g n v s ws' w w') : ∃ A k c, RD B g n w' s ws' (v.at_ A k c) ∧ w.grownBy w' (some g) := by
  obtain ⟨A, k, c, hk, hr, hwm, hg⟩ := hx
  exact ⟨A, k, c, h.next' hw hk hr hwm hg, hg⟩
theorem RD.toBelow {B g n : Nat} {w w' : World} {s : AS} {ws : List Wd} {v : RVs} (h : RD B g n w s ws v) (hg : w.grownBy w' (some g)) : Below B w w' := Below.ofGrown hg h.hB (Nat.le_trans h.hB (Nat.le_of_lt h.row.lt))
theorem RD.le {B g n : Nat} {w : World} {s : AS} {ws : List Wd} {v : RVs} (h : RD B g n w s ws v) : B ≤ w.heap.size := Nat.le_trans h.hB (Nat.le_of_lt h.row.lt)
theorem RD.below {B g n : Nat} {w w' : World} {s : AS} {ws : List Wd} {v : RVs} (h : RD B g n w s ws v) (hb : Below w.heap.size w w') : RD B g n w' s ws v :=
  ⟨h.row.below hb h.row.lt, h.wm.below (hb.mono h.le), h.hk, h.hB, h.hm, h.oa.below hb, h.oc.below hb, h.on.below hb, h.ol.below hb, h.ne, h.mp.below hb, h.few, h.err.below hb, h.hE, h.fm, h.dcl.below hb, h.hdm⟩
theorem contains_strs (xs : List (List UInt8)) (x : List UInt8) : Lib.containsS (xs.map strB) (strB x) = xs.contains x := by
  have h1 := Lib.containsS_iff (xs.map strB) (strB x)
  have h2 : strB x ∈ xs.map strB ↔ x ∈ xs := by
    rw [List.mem_map]
    exact ⟨fun ⟨y, hy, e⟩ => strB_inj e ▸ hy, fun h => ⟨x, h, rfl⟩⟩
  cases hc : xs.contains x with
  | true =>
    exact h1.2 (h2.2 (by simpa using hc))
  | false =>
    have : ¬ x ∈ xs := by simpa using hc
    cases hb : Lib.containsS (xs.map strB) (strB x) with
    | false => rfl
    | true => exact absurd (h2.1 (h1.1 hb)) this
theorem getD_strs (xs : List (List UInt8)) {j : Nat} (hj : j < xs.length) : (xs.map strB).getD j ByteArray.empty = strB (xs.getD j []) := by
  rw [List.getD_eq_getElem?_getD, List.getD_eq_getElem?_getD, List.getElem?_map, List.getElem?_eq_getElem hj]
  rfl
theorem OwnS.strs {w : World} {B n c : Nat} {A : Option Addr} {xs : List (List UInt8)} (h : OwnS encSt 1 w B 9 A n c xs) (hn : 0 < n) : ∃ b, A = some ⟨b, 0, none⟩ ∧ n = xs.length ∧ ∀ j, j < (xs.map strB).length → w.cell? ⟨b, 0 + j, none⟩ = some (.string ((xs.map strB).getD j ByteArray.empty)) := by
  have hl := h.length (fun _ => rfl) (by decide)
  obtain ⟨b, hA, _, _, hc⟩ := h.get (fun _ => rfl) (by decide) ([] : List UInt8) hn
  refine ⟨b, hA, hl.symm, fun j hj => ?_⟩
  have hj' : j < xs.length := by simpa using hj
  rw [getD_strs xs hj']
  have := hc j 0 (.string (strB (xs.getD j []))) (by omega) rfl
  simpa using this
theorem contains_any (B : Nat) (A : Option Addr) (n c : Nat) (xs : List (List UInt8)) (x : List UInt8) (w : World) (h : OwnS encSt 1 w B 9 A n c xs) (hn : n ≤ 100000) (q : Nat) :
    Calls Tryd.prog 117 #[.slice A n c, .string (strB x)] (w.drewN q) fun e w' => e = .returned (.bool (xs.contains x)) ∧ w' = w.drewN q := by
  have hl := h.length (fun _ => rfl) (by decide)
  by_cases h0 : n = 0
  · subst h0
    have : xs = [] := List.length_eq_zero_iff.1 hl
    subst this
    exact Tryd.slices_Contains_string_empty A c (strB x) (w.drewN q)
  · obtain ⟨b, rfl, hnl, hc⟩ := h.strs (by omega)
    have H := Tryd.slices_Contains_string b 0 n c (xs.map strB) (strB x) (w.drewN q) (by simp; omega) (by omega) hc
    rw [List.take_of_length_le (by simp; omega), contains_strs] at H
    exact H
theorem idxOf_strs (xs : List (List UInt8)) (x : List UInt8) : Lib.idxOfS (xs.map strB) (strB x) = if xs.contains x = true then (xs.idxOf x : Int) else -1 := by
  have key : ∀ (ys : List (List UInt8)) (i : Nat), Lib.idxFromS (ys.map strB) (strB x) i = if ys.contains x = true then ((i + ys.idxOf x : Nat) : Int) else -1 := fun ys => by
    induction ys with
    | nil => intro i; rfl
    | cons y ys ih =>
      intro i
      rw [List.map_cons, Lib.idxFromS, ih]
      by_cases h : y = x
      · subst h
        simp
      · have hne : strB y ≠ strB x := fun e => h (strB_inj e)
        have hc : (y :: ys).contains x = ys.contains x := by simp [Ne.symm h]
        rw [hc, List.idxOf_cons, if_neg hne]
        by_cases h2 : ys.contains x = true
        · rw [if_pos h2, if_pos h2]
          have hb : (y == x) = false := by simpa using h
          rw [hb]
          simp only [cond_false]
          omega
        · rw [if_neg h2, if_neg h2]
  have := key xs 0
  rw [Nat.zero_add] at this
  exact this
theorem index_any (B : Nat) (A : Option Addr) (n c : Nat) (xs : List (List UInt8)) (x : List UInt8) (w : World) (h : OwnS encSt 1 w B 9 A n c xs) (hn : n ≤ 100000) :
    Calls Tryd.prog 105 #[.slice A n c, .string (strB x)] w fun e w' => e = .returned (.int .i64 (if xs.contains x = true then (xs.idxOf x : Int) else -1)) ∧ w' = w := by
  have hl := h.length (fun _ => rfl) (by decide)
  rw [← idxOf_strs]
  by_cases h0 : n = 0
  · subst h0
    have : xs = [] := List.length_eq_zero_iff.1 hl
    subst this
    exact Tryd.slices_Index_string_empty A c (strB x) w
  · obtain ⟨b, rfl, hnl, hc⟩ := h.strs (by omega)
    have H := Tryd.slices_Index_string b 0 n c (xs.map strB) (strB x) w (by simp; omega) (by omega) hc
    rw [List.take_of_length_le (by simp; omega)] at H
    exact H
end Go.Proofs.YtlbhggjkcfcobaaDoor

/- The reference of the assembler: declare. (Printed by wip/mkhf.py.) -/
import Derived.Test.YtlbhggjkcfcobaaDoorHe
namespace Go.Proofs.YtlbhggjkcfcobaaDoor
open Go.RowKit Go.Proofs
set_option linter.unusedVariables false

theorem three_allocW (w : World) (a b c : Array Value) (s t u : TypeId) : Below w.heap.size w (((w.alloc (.cells a s)).alloc (.cells b t)).alloc (.cells c u)) ∧ rowV (((w.alloc (.cells a s)).alloc (.cells b t)).alloc (.cells c u)) w.heap.size s a ∧ rowV (((w.alloc (.cells a s)).alloc (.cells b t)).alloc (.cells c u)) (w.heap.size + 1) t b ∧ rowV (((w.alloc (.cells a s)).alloc (.cells b t)).alloc (.cells c u)) (w.heap.size + 1 + 1) u c := by
  obtain ⟨hb, r1, r2⟩ := two_allocW w a b s t
  have h := rowV.new ((w.alloc (.cells a s)).alloc (.cells b t)) u c
  rw [show ((w.alloc (.cells a s)).alloc (.cells b t)).heap.size = w.heap.size + 1 + 1 by simp] at h
  have hx := (Below.refl ((w.alloc (.cells a s)).alloc (.cells b t)).heap.size ((w.alloc (.cells a s)).alloc (.cells b t))).alloc (Nat.le_refl _) (.cells c u)
  exact ⟨balloc hb _, r1.below hx r1.lt, r2.below hx r2.lt, h⟩
theorem grownBy_setRow (w : World) (g : Nat) (cs : Array Value) : w.grownBy (w.setRow g cs) (some g) := ⟨rfl, rfl, rfl, by rw [size_setRow]; exact Nat.le_refl _, fun k hk hne => setRow_other w g k cs (fun e => hne (congrArg some e))⟩
theorem Below.setRowG {B g : Nat} {w0 w : World} (hb : Below B w0 w) (hBg : B ≤ g) (cs : Array Value) : Below B w0 (w.setRow g cs) := ⟨hb.1, hb.2, hb.3, by rw [size_setRow]; exact hb.4, fun i hi => (setRow_other w g i cs (by omega)).trans (hb.5 i hi)⟩
theorem RS.setRow {B : Nat} {w : World} {arrs : List Arr} {an ln kn : List (List UInt8)} {kv : List Nat} {code : List Ins} {v : SVs} (h : RS B w arrs an ln kn kv code v) {g : Nat} {cs : Array Value} (hr : rowV w g 76 cs) (cs' : Array Value) : RS B (w.setRow g cs') arrs an ln kn kv code v :=
  h.far hr (grownBy_setRow w g cs') (by decide) (by decide) (by decide) (by decide)
/-- blocks of other types than the lists' elements are kept. -/
def KT (w W : World) : Prop := ∀ (g : Nat) (cs : Array Value) (t : TypeId) (fr : Nat × Nat), w.heap[g]? = some (.cells cs t fr) → 47 ≠ t ∧ 57 ≠ t ∧ 9 ≠ t ∧ 3 ≠ t → W.heap[g]? = w.heap[g]?
theorem KT.refl (w : World) : KT w w := fun _ _ _ _ _ _ => rfl
theorem KT.below {w W X : World} (h : KT w W) (hb : Below w.heap.size W X) : KT w X := fun g cs t fr hg ht => (hb.block g (Array.getElem?_eq_some_iff.1 hg).1).trans (h g cs t fr hg ht)
theorem KT.push {α : Type} {enc : α → List Value} {sz B n c : Nat} {e : TypeId} {A : Option Addr} {xs : List α} {w W X : World} (h : KT w W) (ho : OwnS enc sz W B e A n c xs) (hg : W.grownBy X (Value.slice A n c).ownBlock) (hle : w.heap.size ≤ W.heap.size) (he : ∀ t : TypeId, 47 ≠ t ∧ 57 ≠ t ∧ 9 ≠ t ∧ 3 ≠ t → e ≠ t) : KT w X := fun g cs t fr hw ht => by
  have h1 := h g cs t fr hw ht
  have hlt := (Array.getElem?_eq_some_iff.1 hw).1
  refine (hg.block g (by omega) (fun e0 => ?_)).trans h1
  obtain ⟨_, _, cur, h3⟩ := ho.blk e0.symm
  rw [h1, hw] at h3
  injection h3 with h3
  injection h3 with _ h3
  exact he t ht h3.symm
theorem KT.row {w W : World} (h : KT w W) {g : Nat} {t : TypeId} {cs : Array Value} (hr : rowV w g t cs) (ht : 47 ≠ t ∧ 57 ≠ t ∧ 9 ≠ t ∧ 3 ≠ t) : rowV W g t cs := (h g cs t _ hr ht).trans hr
theorem KT.own {α : Type} {enc : α → List Value} {sz B n c : Nat} {e : TypeId} {A : Option Addr} {xs : List α} {w W : World} (h : KT w W) (ho : OwnS enc sz w B e A n c xs) (ht : 47 ≠ e ∧ 57 ≠ e ∧ 9 ≠ e ∧ 3 ≠ e) : OwnS enc sz W B e A n c xs := by
  refine ⟨ho.1, ?_⟩
  rcases ho.2 with h1 | ⟨g, cap, cur, h1, h2, h3, h4⟩
  · exact .inl h1
  · exact .inr ⟨g, cap, cur, h1, h2, (h g cur e _ h3 ht).trans h3, h4⟩
theorem KT.trans {w W X : World} (h : KT w W) (h2 : KT W X) : KT w X := fun g cs t fr hg ht => (h2 g cs t fr ((h g cs t fr hg ht).trans hg) ht).trans (h g cs t fr hg ht)
theorem infoS : (Tryd.prog.info? 76).map (·.size) = some 10 := by kernel_rfl
/-- the state as a value. -/
def stA (v : SVs) (L C a er : Int) : Array Value := #[.slice v.Aa v.na v.ca, .int .i64 L, .slice v.Ac v.nc v.cc, .slice v.An v.nn v.cn, .slice v.Al v.nl v.cl, .slice v.Ak v.nk v.ck, .slice v.Av v.nv v.cv, .int .i64 C, .int .i64 a, .int .i64 er]
/-- what declare returns. -/
def DecP (B : Nat) (w : World) (res : AR) (e : Ending) (w' : World) : Prop := Below B w w' ∧ KT w w' ∧ ∃ (v : SVs) (L C a er : Int), e = .returned (.agg (stA v L C a er)) ∧ match res with
  | .bad a' e' => a = (a' : Int) ∧ er = e'
  | .ok s' _ => er = 0 ∧ L = (s'.ln.length : Int) ∧ C = s'.cells ∧ RS B w' s'.arrs s'.an s'.ln (s'.cn.map (·.1)) (s'.cn.map (·.2)) s'.code v
theorem namedE_f {s : AS} {y x : List UInt8} (h : freshE s x ≠ 0) : namedE s y x = freshE s x := by unfold namedE; rw [if_pos h]
theorem namedE_6 {s : AS} {y x : List UInt8} (h : freshE s x = 0) (h2 : ((y = [98, 121, 116, 101, 115] ∨ y = [119, 111, 114, 100, 115]) ∧ 8 ≤ s.an.length) ∨ (y = [108, 111, 99, 97, 108] ∧ 16 ≤ s.ln.length)) : namedE s y x = 6 := by unfold namedE; rw [if_neg (by simp [h]), if_pos h2]
theorem namedE_0 {s : AS} {y x : List UInt8} (h : freshE s x = 0) (h2 : ¬ (((y = [98, 121, 116, 101, 115] ∨ y = [119, 111, 114, 100, 115]) ∧ 8 ≤ s.an.length) ∨ (y = [108, 111, 99, 97, 108] ∧ 16 ≤ s.ln.length))) : namedE s y x = 0 := by unfold namedE; rw [if_neg (by simp [h]), if_neg h2]
theorem localL_named (n : Nat) (s : AS) (r : List Wd) : localL n s r = if namedE s [108, 111, 99, 97, 108] (nextW n r).1 ≠ 0 then .bad (nextW n r).2 (namedE s [108, 111, 99, 97, 108] (nextW n r).1) else .ok { s with ln := s.ln ++ [(nextW n r).1] } r.tail := by
  unfold localL
  dsimp only
  by_cases h1 : freshE s (nextW n r).1 = 0
  · rw [if_neg (by simp [h1])]
    by_cases h2 : 16 ≤ s.ln.length
    · rw [if_pos h2, namedE_6 h1 (.inr ⟨rfl, h2⟩), if_pos (by decide)]
    · rw [if_neg h2, namedE_0 h1 (by rintro (⟨h | h, _⟩ | ⟨_, h⟩); exact absurd h (by decide); exact absurd h (by decide); exact h2 h), if_neg (by decide)]
  · rw [if_pos h1, namedE_f h1, if_pos h1]
theorem constL_named (n : Nat) (s : AS) (r : List Wd) : constL n s r = if namedE s [99, 111, 110, 115, 116] (nextW n r).1 ≠ 0 then .bad (nextW n r).2 (namedE s [99, 111, 110, 115, 116] (nextW n r).1) else if (valueL s (nextW n r.tail).1).2 ≠ 0 then .bad (nextW n r.tail).2 (valueL s (nextW n r.tail).1).2 else .ok { s with cn := s.cn ++ [((nextW n r).1, (valueL s (nextW n r.tail).1).1)] } r.tail.tail := by
  unfold constL
  dsimp only
  by_cases h1 : freshE s (nextW n r).1 = 0
  · rw [if_neg (by simp [h1]), namedE_0 h1 (by rintro (⟨h | h, _⟩ | ⟨h, _⟩) <;> exact absurd h (by decide))]
    rfl
  · rw [if_pos h1, namedE_f h1, if_pos h1]
theorem arrayL_named (n : Nat) (wide : Bool) (s : AS) (r : List Wd) (y : List UInt8) (hy : y = [98, 121, 116, 101, 115] ∨ y = [119, 111, 114, 100, 115]) : arrayL n wide s r = if namedE s y (nextW n r).1 ≠ 0 then .bad (nextW n r).2 (namedE s y (nextW n r).1) else if (valueL s (nextW n r.tail).1).2 ≠ 0 then .bad (nextW n r.tail).2 (valueL s (nextW n r.tail).1).2 else if ((valueL s (nextW n r.tail).1).1 : Int) < 1 ∨ 65536 < ((valueL s (nextW n r.tail).1).1 : Int) + s.cells then .bad (nextW n r.tail).2 2 else .ok { s with arrs := s.arrs ++ [⟨wide, (valueL s (nextW n r.tail).1).1⟩], an := s.an ++ [(nextW n r).1] } r.tail.tail := by
  have hl : y ≠ [108, 111, 99, 97, 108] := by rcases hy with h | h <;> rw [h] <;> decide
  unfold arrayL
  dsimp only
  by_cases h1 : freshE s (nextW n r).1 = 0
  · rw [if_neg (by simp [h1])]
    by_cases h2 : 8 ≤ s.an.length
    · rw [if_pos h2, namedE_6 h1 (.inl ⟨hy, h2⟩), if_pos (by decide)]
    · rw [if_neg h2, namedE_0 h1 (by rintro (⟨_, h⟩ | ⟨h, _⟩); exact h2 h; exact hl h)]
      rfl
  · rw [if_pos h1, namedE_f h1, if_pos h1]
theorem cells_nonneg {s : AS} (hF : Formed s) : 0 ≤ s.cells := by
  have hsz : ∀ l : List Arr, (∀ x ∈ l, 1 ≤ x.size ∧ x.size ≤ 65536) → 0 ≤ (l.map (·.size)).sum := fun l => by
    induction l with
    | nil => intro _; exact Int.le_refl _
    | cons z l ih => intro hl; rw [List.map_cons, List.sum_cons]; have := hl z (by simp); have := ih (fun x hx => hl x (by simp [hx])); omega
  exact hsz _ hF.sizes

set_option maxRecDepth 100000 in
set_option maxHeartbeats 16000000 in
theorem declare_local (B : Nat) (w : World) (s : AS) (v : SVs) (n : Nat) (r : List Wd) (at_ er : Int) (h : RS B w s.arrs s.an s.ln (s.cn.map (·.1)) (s.cn.map (·.2)) s.code v) (hF : Formed s) (hB : B ≤ w.heap.size) (hk : v.nk ≤ 90000) (hx0' : (nextW n r).1.length ≤ 9000) (hx1' : (nextW n r.tail).1.length ≤ 9000) :
    Calls Tryd.prog 47 #[.agg #[.slice v.Aa v.na v.ca, .int .i64 (s.ln.length : Int), .slice v.Ac v.nc v.cc, .slice v.An v.nn v.cn, .slice v.Al v.nl v.cl, .slice v.Ak v.nk v.ck, .slice v.Av v.nv v.cv, .int .i64 s.cells, .int .i64 at_, .int .i64 er], .string (strB [108, 111, 99, 97, 108]), .agg #[.string (strB (nextW n r).1), .int .i64 ((nextW n r).2 : Int), .string (strB (nextW n r.tail).1), .int .i64 ((nextW n r.tail).2 : Int)]] w (DecP B w (localL n s r)) := by
  obtain ⟨res, hres⟩ : ∃ res, res = localL n s r := ⟨_, rfl⟩
  rw [← hres]
  have HRES := hres.trans (localL_named n s r)
  obtain ⟨y, hy⟩ : ∃ y : List UInt8, y = [108, 111, 99, 97, 108] := ⟨_, rfl⟩
  rw [← hy] at HRES ⊢
  obtain ⟨x0, z0, hw0⟩ : ∃ x z, nextW n r = (x, z) := ⟨_, _, rfl⟩
  obtain ⟨x1, z1, hw1⟩ : ∃ x z, nextW n r.tail = (x, z) := ⟨_, _, rfl⟩
  rw [hw0] at hx0' HRES ⊢
  rw [hw1] at hx1' ⊢
  try rw [hw1] at HRES
  dsimp only at hx0' hx1' HRES ⊢
  have hkn : v.nn ≤ 8 := by have e := h.on.length (fun _ => rfl) (by decide); have := hF.an; have := hF.few; omega
  have hkl : v.nl ≤ 16 := by have e := h.ol.length (fun _ => rfl) (by decide); have := hF.locs; omega
  have hna : v.na ≤ 8 := by have e := h.oa.length (fun _ => rfl) (by decide); have := hF.few; omega
  have hC0 := cells_nonneg hF
  have hC1 := hF.cells
  obtain ⟨b4, r0, r1, r2⟩ := three_allocW w #[.slice v.Aa v.na v.ca, .int .i64 (s.ln.length : Int), .slice v.Ac v.nc v.cc, .slice v.An v.nn v.cn, .slice v.Al v.nl v.cl, .slice v.Ak v.nk v.ck, .slice v.Av v.nv v.cv, .int .i64 s.cells, .int .i64 (z0 : Int), .int .i64 er] #[.string (strB x0), .int .i64 (z0 : Int), .string (strB x1), .int .i64 (z1 : Int)] #[.slice none 0 0, .int .i64 0, .slice none 0 0, .slice none 0 0, .slice none 0 0, .slice none 0 0, .slice none 0 0, .int .i64 0, .int .i64 0, .int .i64 0] 76 105 76
  have h4 := h.below b4
  obtain ⟨w4, hw4⟩ : ∃ w4, w4 = (((w.alloc (.cells #[.slice v.Aa v.na v.ca, .int .i64 (s.ln.length : Int), .slice v.Ac v.nc v.cc, .slice v.An v.nn v.cn, .slice v.Al v.nl v.cl, .slice v.Ak v.nk v.ck, .slice v.Av v.nv v.cv, .int .i64 s.cells, .int .i64 (z0 : Int), .int .i64 er] 76)).alloc (.cells #[.string (strB x0), .int .i64 (z0 : Int), .string (strB x1), .int .i64 (z1 : Int)] 105)).alloc (.cells #[.slice none 0 0, .int .i64 0, .slice none 0 0, .slice none 0 0, .slice none 0 0, .slice none 0 0, .slice none 0 0, .int .i64 0, .int .i64 0, .int .i64 0] 76)) := ⟨_, rfl⟩
  rw [← hw4] at r0 r1 r2 h4 b4
  have HN := Lib.hid (namedR_any B w4 s.arrs s.code s v (s.ln.length : Int) s.cells (z0 : Int) er h4 y x0 hx0' (by omega) (by omega) (by omega))
  have HW := Lib.hid hw4
  have H4 := Lib.hid (And.intro r0 (And.intro r1 (And.intro r2 (And.intro h4 b4))))
  have HF := Lib.hid hF
  clear r0 r1 r2 h4 b4 hw4 hw0 hw1 h hF
  replace HRES := Lib.hid HRES
  have y3 : ((strB y).toList == ([108, 111, 99, 97, 108] : List UInt8)) = true := by rw [strB_toList, hy]; rfl
  have HC := Lib.hid (And.intro hC0 hC1)
  obtain ⟨C, hC⟩ : ∃ C, C = s.cells := ⟨_, rfl⟩
  clear hy hres hC0 hC1
  go_enter Tryd.func47, Tryd.ntmps47
  go_wp2_with fail
  rw [← HW.out]
  refine HN.out.mono ?_
  rintro e w5 ⟨rfl, hb5⟩
  have r05 := H4.out.1.below hb5 H4.out.1.lt
  have r15 := H4.out.2.1.below hb5 H4.out.2.1.lt
  have r25 := H4.out.2.2.1.below hb5 H4.out.2.2.1.lt
  have h5 := H4.out.2.2.2.1.below hb5
  have b5 := H4.out.2.2.2.2.trans (hb5.mono H4.out.2.2.2.2.size)
  have c0 : (w5).cell? ⟨w.heap.size, 0, none⟩ = some (.slice v.Aa v.na v.ca) := cell_rowV r05 rfl
  have c1 : (w5).cell? ⟨w.heap.size, 1, none⟩ = some (.int .i64 (s.ln.length : Int)) := cell_rowV r05 rfl
  have c2 : (w5).cell? ⟨w.heap.size, 2, none⟩ = some (.slice v.Ac v.nc v.cc) := cell_rowV r05 rfl
  have c3 : (w5).cell? ⟨w.heap.size, 3, none⟩ = some (.slice v.An v.nn v.cn) := cell_rowV r05 rfl
  have c4 : (w5).cell? ⟨w.heap.size, 4, none⟩ = some (.slice v.Al v.nl v.cl) := cell_rowV r05 rfl
  have c5 : (w5).cell? ⟨w.heap.size, 5, none⟩ = some (.slice v.Ak v.nk v.ck) := cell_rowV r05 rfl
  have c6 : (w5).cell? ⟨w.heap.size, 6, none⟩ = some (.slice v.Av v.nv v.cv) := cell_rowV r05 rfl
  have c7 : (w5).cell? ⟨w.heap.size, 7, none⟩ = some (.int .i64 s.cells) := cell_rowV r05 rfl
  have c8 : (w5).cell? ⟨w.heap.size, 8, none⟩ = some (.int .i64 (z0 : Int)) := cell_rowV r05 rfl
  have c9 : (w5).cell? ⟨w.heap.size, 9, none⟩ = some (.int .i64 er) := cell_rowV r05 rfl
  have d0 : (w5).cell? ⟨(w.heap.size + 1), 0, none⟩ = some (.string (strB x0)) := cell_rowV r15 rfl
  have d1 : (w5).cell? ⟨(w.heap.size + 1), 1, none⟩ = some (.int .i64 (z0 : Int)) := cell_rowV r15 rfl
  have d2 : (w5).cell? ⟨(w.heap.size + 1), 2, none⟩ = some (.string (strB x1)) := cell_rowV r15 rfl
  have d3 : (w5).cell? ⟨(w.heap.size + 1), 3, none⟩ = some (.int .i64 (z1 : Int)) := cell_rowV r15 rfl
  have f9 := frozen_rowV' r05 9
  obtain ⟨ne, hne⟩ : ∃ ne, ne = namedE s y x0 := ⟨_, rfl⟩
  rw [← hne] at HRES ⊢
  have r06 : rowV (w5.setCell ⟨w.heap.size, 9, none⟩ (.int .i64 ne)) w.heap.size 76 #[.slice v.Aa v.na v.ca, .int .i64 (s.ln.length : Int), .slice v.Ac v.nc v.cc, .slice v.An v.nn v.cn, .slice v.Al v.nl v.cl, .slice v.Ak v.nk v.ck, .slice v.Av v.nv v.cv, .int .i64 s.cells, .int .i64 (z0 : Int), .int .i64 ne] := r05.set 9 (.int .i64 ne)
  have r16 := r15.setFar (p := ⟨w.heap.size, 9, none⟩) (by show w.heap.size + 1 ≠ w.heap.size; omega) (.int .i64 ne)
  have r26 := r25.setFar (p := ⟨w.heap.size, 9, none⟩) (by show w.heap.size + 1 + 1 ≠ w.heap.size; omega) (.int .i64 ne)
  have h6 := h5.set r05 9 (.int .i64 ne)
  have b6 := b5.trans (Below.setG (w := w5) (j := 9) (Nat.le_refl w.heap.size) (.int .i64 ne))
  have H6 := Lib.hid (And.intro r06 (And.intro r16 (And.intro r26 (And.intro h6 b6))))
  clear hne hb5 r05 r15 r25 h5 b5 r06 r16 r26 h6 b6 H4 HW HN
  by_cases hne : ne ≠ 0
  · have Z := Lib.hid (HRES.out.trans (if_pos hne))
    have dne : (ne != 0) = true := by simpa using hne
    clear HRES hne
    go_wp2_with (refine wpList_store_row rfl 76 (.tmp 6) (.tmp 23) rfl _ #[.slice v.Aa v.na v.ca, .int .i64 (s.ln.length : Int), .slice v.Ac v.nc v.cc, .slice v.An v.nn v.cn, .slice v.Al v.nl v.cl, .slice v.Ak v.nk v.ck, .slice v.Av v.nv v.cv, .int .i64 s.cells, .int .i64 (z0 : Int), .int .i64 ne] rfl rfl _ _ H6.out.2.2.1 infoS rfl (by simp [Value.oneCell']) ?_)
    have r7 : rowV ((w5.setCell ⟨w.heap.size, 9, none⟩ (.int .i64 ne)).setRow (w.heap.size + 1 + 1) #[.slice v.Aa v.na v.ca, .int .i64 (s.ln.length : Int), .slice v.Ac v.nc v.cc, .slice v.An v.nn v.cn, .slice v.Al v.nl v.cl, .slice v.Ak v.nk v.ck, .slice v.Av v.nv v.cv, .int .i64 s.cells, .int .i64 (z0 : Int), .int .i64 ne]) (w.heap.size + 1 + 1) 76 #[.slice v.Aa v.na v.ca, .int .i64 (s.ln.length : Int), .slice v.Ac v.nc v.cc, .slice v.An v.nn v.cn, .slice v.Al v.nl v.cl, .slice v.Ak v.nk v.ck, .slice v.Av v.nv v.cv, .int .i64 s.cells, .int .i64 (z0 : Int), .int .i64 ne] := setRow_heap (w5.setCell ⟨w.heap.size, 9, none⟩ (.int .i64 ne)) (w.heap.size + 1 + 1) _ #[.slice v.Aa v.na v.ca, .int .i64 (s.ln.length : Int), .slice v.Ac v.nc v.cc, .slice v.An v.nn v.cn, .slice v.Al v.nl v.cl, .slice v.Ak v.nk v.ck, .slice v.Av v.nv v.cv, .int .i64 s.cells, .int .i64 (z0 : Int), .int .i64 ne] _ _ H6.out.2.2.1
    have g7 := grownBy_setRow (w5.setCell ⟨w.heap.size, 9, none⟩ (.int .i64 ne)) (w.heap.size + 1 + 1) #[.slice v.Aa v.na v.ca, .int .i64 (s.ln.length : Int), .slice v.Ac v.nc v.cc, .slice v.An v.nn v.cn, .slice v.Al v.nl v.cl, .slice v.Ak v.nk v.ck, .slice v.Av v.nv v.cv, .int .i64 s.cells, .int .i64 (z0 : Int), .int .i64 ne]
    have hbW : Below w.heap.size w ((w5.setCell ⟨w.heap.size, 9, none⟩ (.int .i64 ne)).setRow (w.heap.size + 1 + 1) #[.slice v.Aa v.na v.ca, .int .i64 (s.ln.length : Int), .slice v.Ac v.nc v.cc, .slice v.An v.nn v.cn, .slice v.Al v.nl v.cl, .slice v.Ak v.nk v.ck, .slice v.Av v.nv v.cv, .int .i64 s.cells, .int .i64 (z0 : Int), .int .i64 ne]) := H6.out.2.2.2.2.trans (Below.setRowG (Below.refl _ _) (by omega) _)
    refine bodyPost_ret (v := .agg #[.slice v.Aa v.na v.ca, .int .i64 (s.ln.length : Int), .slice v.Ac v.nc v.cc, .slice v.An v.nn v.cn, .slice v.Al v.nl v.cl, .slice v.Ak v.nk v.ck, .slice v.Av v.nv v.cv, .int .i64 s.cells, .int .i64 (z0 : Int), .int .i64 ne]) ?_ rfl ⟨hbW.mono hB, (KT.refl w).below hbW, v, _, _, _, _, rfl, ?_⟩
    case refine_2 => rw [Z.out]; exact ⟨rfl, rfl⟩
    obtain ⟨W7, hW7⟩ : ∃ W7, W7 = (w5.setCell ⟨w.heap.size, 9, none⟩ (.int .i64 ne)).setRow (w.heap.size + 1 + 1) #[.slice v.Aa v.na v.ca, .int .i64 (s.ln.length : Int), .slice v.Ac v.nc v.cc, .slice v.An v.nn v.cn, .slice v.Al v.nl v.cl, .slice v.Ak v.nk v.ck, .slice v.Av v.nv v.cv, .int .i64 s.cells, .int .i64 (z0 : Int), .int .i64 ne] := ⟨_, rfl⟩
    rw [← hW7] at r7 ⊢
    have k0 : (W7).cell? ⟨(w.heap.size + 1 + 1), 0, none⟩ = some (.slice v.Aa v.na v.ca) := cell_rowV r7 rfl
    have k1 : (W7).cell? ⟨(w.heap.size + 1 + 1), 1, none⟩ = some (.int .i64 (s.ln.length : Int)) := cell_rowV r7 rfl
    have k2 : (W7).cell? ⟨(w.heap.size + 1 + 1), 2, none⟩ = some (.slice v.Ac v.nc v.cc) := cell_rowV r7 rfl
    have k3 : (W7).cell? ⟨(w.heap.size + 1 + 1), 3, none⟩ = some (.slice v.An v.nn v.cn) := cell_rowV r7 rfl
    have k4 : (W7).cell? ⟨(w.heap.size + 1 + 1), 4, none⟩ = some (.slice v.Al v.nl v.cl) := cell_rowV r7 rfl
    have k5 : (W7).cell? ⟨(w.heap.size + 1 + 1), 5, none⟩ = some (.slice v.Ak v.nk v.ck) := cell_rowV r7 rfl
    have k6 : (W7).cell? ⟨(w.heap.size + 1 + 1), 6, none⟩ = some (.slice v.Av v.nv v.cv) := cell_rowV r7 rfl
    have k7 : (W7).cell? ⟨(w.heap.size + 1 + 1), 7, none⟩ = some (.int .i64 s.cells) := cell_rowV r7 rfl
    have k8 : (W7).cell? ⟨(w.heap.size + 1 + 1), 8, none⟩ = some (.int .i64 (z0 : Int)) := cell_rowV r7 rfl
    have k9 : (W7).cell? ⟨(w.heap.size + 1 + 1), 9, none⟩ = some (.int .i64 ne) := cell_rowV r7 rfl
    clear hW7 hbW
    simp [results, Tryd.results47, go_sem, k0, k1, k2, k3, k4, k5, k6, k7, k8, k9]
  obtain rfl : ne = 0 := by simpa using hne
  have HR0 := Lib.hid (HRES.out.trans (if_neg hne))
  clear HRES hne
  have hm : Hid (v.nl + 1 ≤ maxLen ∧ (v.nl + 1) * 16 ≤ 140737488355328) := ⟨by simp [maxLen]; omega, by omega⟩
  have HBL : Hid (B ≤ (w5.setCell ⟨w.heap.size, 9, none⟩ (.int .i64 0)).heap.size) := Nat.le_trans hB H6.out.2.2.2.2.size
  have hl16 : s.ln.length ≤ 16 := HF.out.locs
  go_wp2_with (first | (at_builtin; refine wpList_pushT (enc := encSt) rfl (.tmp 27) (.tmp 31) rfl uSt infoSt encSt_one rfl (fun _ => rfl) (by decide) rfl H6.out.2.2.2.1.ol HBL.out x0 _ rfl (by first | rfl | (simp only [setCell_size]; rfl)) hm.out.1 hm.out.2 ?_; intro A7 cA7 w7 ho7 hb7 hg7 hf7; have q0 : rowV w7 w.heap.size 76 #[.slice v.Aa v.na v.ca, .int .i64 (s.ln.length : Int), .slice v.Ac v.nc v.cc, .slice v.An v.nn v.cn, .slice v.Al v.nl v.cl, .slice v.Ak v.nk v.ck, .slice v.Av v.nv v.cv, .int .i64 s.cells, .int .i64 (z0 : Int), .int .i64 0] := H6.out.1.grown hg7 (fun e => (H6.out.2.2.2.1.ol.ne_row H6.out.1 (by decide)) _ e.symm rfl); have q2 : rowV w7 (w.heap.size + 1 + 1) 76 #[.slice none 0 0, .int .i64 0, .slice none 0 0, .slice none 0 0, .slice none 0 0, .slice none 0 0, .slice none 0 0, .int .i64 0, .int .i64 0, .int .i64 0] := H6.out.2.2.1.grown hg7 (fun e => (H6.out.2.2.2.1.ol.ne_row H6.out.2.2.1 (by decide)) _ e.symm rfl); have q8 : rowV (w7.setCell ⟨w.heap.size, 4, none⟩ (.slice A7 (v.nl + 1) cA7)) w.heap.size 76 #[.slice v.Aa v.na v.ca, .int .i64 (s.ln.length : Int), .slice v.Ac v.nc v.cc, .slice v.An v.nn v.cn, .slice A7 (v.nl + 1) cA7, .slice v.Ak v.nk v.ck, .slice v.Av v.nv v.cv, .int .i64 s.cells, .int .i64 (z0 : Int), .int .i64 0] := q0.set 4 _; have q9 : rowV ((w7.setCell ⟨w.heap.size, 4, none⟩ (.slice A7 (v.nl + 1) cA7)).setCell ⟨w.heap.size, 1, none⟩ (.int .i64 ((s.ln.length : Int) + 1))) (w.heap.size + 1 + 1) 76 #[.slice none 0 0, .int .i64 0, .slice none 0 0, .slice none 0 0, .slice none 0 0, .slice none 0 0, .slice none 0 0, .int .i64 0, .int .i64 0, .int .i64 0] := (q2.setFar (p := ⟨w.heap.size, 4, none⟩) (by show w.heap.size + 1 + 1 ≠ w.heap.size; omega) _).setFar (p := ⟨w.heap.size, 1, none⟩) (by show w.heap.size + 1 + 1 ≠ w.heap.size; omega) _; have HQ9 := Lib.hid q9; have c0 : (w7).cell? ⟨w.heap.size, 0, none⟩ = some (.slice v.Aa v.na v.ca) := cell_rowV q0 rfl; have c1 : (w7).cell? ⟨w.heap.size, 1, none⟩ = some (.int .i64 (s.ln.length : Int)) := cell_rowV q0 rfl; have c2 : (w7).cell? ⟨w.heap.size, 2, none⟩ = some (.slice v.Ac v.nc v.cc) := cell_rowV q0 rfl; have c3 : (w7).cell? ⟨w.heap.size, 3, none⟩ = some (.slice v.An v.nn v.cn) := cell_rowV q0 rfl; have c4 : (w7).cell? ⟨w.heap.size, 4, none⟩ = some (.slice v.Al v.nl v.cl) := cell_rowV q0 rfl; have c5 : (w7).cell? ⟨w.heap.size, 5, none⟩ = some (.slice v.Ak v.nk v.ck) := cell_rowV q0 rfl; have c6 : (w7).cell? ⟨w.heap.size, 6, none⟩ = some (.slice v.Av v.nv v.cv) := cell_rowV q0 rfl; have c7 : (w7).cell? ⟨w.heap.size, 7, none⟩ = some (.int .i64 s.cells) := cell_rowV q0 rfl; have c8 : (w7).cell? ⟨w.heap.size, 8, none⟩ = some (.int .i64 (z0 : Int)) := cell_rowV q0 rfl; have c9 : (w7).cell? ⟨w.heap.size, 9, none⟩ = some (.int .i64 0) := cell_rowV q0 rfl; have f4 := frozen_rowV' q0 4; have f1 := frozen_rowV' q0 1) | refine wpList_store_row rfl 76 (.tmp 6) (.tmp 40) rfl _ #[.slice v.Aa v.na v.ca, .int .i64 ((s.ln.length : Int) + 1), .slice v.Ac v.nc v.cc, .slice v.An v.nn v.cn, .slice A7 (v.nl + 1) cA7, .slice v.Ak v.nk v.ck, .slice v.Av v.nv v.cv, .int .i64 s.cells, .int .i64 (z0 : Int), .int .i64 0] rfl rfl _ _ HQ9.out infoS rfl (by simp [Value.oneCell']) ?_)
  have r7 : rowV (((w7.setCell ⟨w.heap.size, 4, none⟩ (.slice A7 (v.nl + 1) cA7)).setCell ⟨w.heap.size, 1, none⟩ (.int .i64 ((s.ln.length : Int) + 1))).setRow (w.heap.size + 1 + 1) #[.slice v.Aa v.na v.ca, .int .i64 ((s.ln.length : Int) + 1), .slice v.Ac v.nc v.cc, .slice v.An v.nn v.cn, .slice A7 (v.nl + 1) cA7, .slice v.Ak v.nk v.ck, .slice v.Av v.nv v.cv, .int .i64 s.cells, .int .i64 (z0 : Int), .int .i64 0]) (w.heap.size + 1 + 1) 76 #[.slice v.Aa v.na v.ca, .int .i64 ((s.ln.length : Int) + 1), .slice v.Ac v.nc v.cc, .slice v.An v.nn v.cn, .slice A7 (v.nl + 1) cA7, .slice v.Ak v.nk v.ck, .slice v.Av v.nv v.cv, .int .i64 s.cells, .int .i64 (z0 : Int), .int .i64 0] := setRow_heap ((w7.setCell ⟨w.heap.size, 4, none⟩ (.slice A7 (v.nl + 1) cA7)).setCell ⟨w.heap.size, 1, none⟩ (.int .i64 ((s.ln.length : Int) + 1))) (w.heap.size + 1 + 1) _ #[.slice v.Aa v.na v.ca, .int .i64 ((s.ln.length : Int) + 1), .slice v.Ac v.nc v.cc, .slice v.An v.nn v.cn, .slice A7 (v.nl + 1) cA7, .slice v.Ak v.nk v.ck, .slice v.Av v.nv v.cv, .int .i64 s.cells, .int .i64 (z0 : Int), .int .i64 0] _ _ HQ9.out
  have g7 := grownBy_setRow ((w7.setCell ⟨w.heap.size, 4, none⟩ (.slice A7 (v.nl + 1) cA7)).setCell ⟨w.heap.size, 1, none⟩ (.int .i64 ((s.ln.length : Int) + 1))) (w.heap.size + 1 + 1) #[.slice v.Aa v.na v.ca, .int .i64 ((s.ln.length : Int) + 1), .slice v.Ac v.nc v.cc, .slice v.An v.nn v.cn, .slice A7 (v.nl + 1) cA7, .slice v.Ak v.nk v.ck, .slice v.Av v.nv v.cv, .int .i64 s.cells, .int .i64 (z0 : Int), .int .i64 0]
  have h7 := H6.out.2.2.2.1.push_ln ho7 hg7 hf7
  have h8 := h7.set q0 4 (.slice A7 (v.nl + 1) cA7)
  have h9 := h8.set q8 1 (.int .i64 ((s.ln.length : Int) + 1))
  have h10 := h9.setRow q9 #[.slice v.Aa v.na v.ca, .int .i64 ((s.ln.length : Int) + 1), .slice v.Ac v.nc v.cc, .slice v.An v.nn v.cn, .slice A7 (v.nl + 1) cA7, .slice v.Ak v.nk v.ck, .slice v.Av v.nv v.cv, .int .i64 s.cells, .int .i64 (z0 : Int), .int .i64 0]
  have bw8 : Below w.heap.size w7 (((w7.setCell ⟨w.heap.size, 4, none⟩ (.slice A7 (v.nl + 1) cA7)).setCell ⟨w.heap.size, 1, none⟩ (.int .i64 ((s.ln.length : Int) + 1))).setRow (w.heap.size + 1 + 1) #[.slice v.Aa v.na v.ca, .int .i64 ((s.ln.length : Int) + 1), .slice v.Ac v.nc v.cc, .slice v.An v.nn v.cn, .slice A7 (v.nl + 1) cA7, .slice v.Ak v.nk v.ck, .slice v.Av v.nv v.cv, .int .i64 s.cells, .int .i64 (z0 : Int), .int .i64 0]) := ((Below.setG (w := w7) (j := 4) (Nat.le_refl w.heap.size) _).trans (Below.setG (w := w7.setCell ⟨w.heap.size, 4, none⟩ (.slice A7 (v.nl + 1) cA7)) (j := 1) (Nat.le_refl w.heap.size) _)).trans (Below.setRowG (Below.refl _ _) (by omega) _)
  have hbW : Below B w (((w7.setCell ⟨w.heap.size, 4, none⟩ (.slice A7 (v.nl + 1) cA7)).setCell ⟨w.heap.size, 1, none⟩ (.int .i64 ((s.ln.length : Int) + 1))).setRow (w.heap.size + 1 + 1) #[.slice v.Aa v.na v.ca, .int .i64 ((s.ln.length : Int) + 1), .slice v.Ac v.nc v.cc, .slice v.An v.nn v.cn, .slice A7 (v.nl + 1) cA7, .slice v.Ak v.nk v.ck, .slice v.Av v.nv v.cv, .int .i64 s.cells, .int .i64 (z0 : Int), .int .i64 0]) := ((H6.out.2.2.2.2.mono hB).trans hb7).trans (bw8.mono hB)
  have hkt : KT w (((w7.setCell ⟨w.heap.size, 4, none⟩ (.slice A7 (v.nl + 1) cA7)).setCell ⟨w.heap.size, 1, none⟩ (.int .i64 ((s.ln.length : Int) + 1))).setRow (w.heap.size + 1 + 1) #[.slice v.Aa v.na v.ca, .int .i64 ((s.ln.length : Int) + 1), .slice v.Ac v.nc v.cc, .slice v.An v.nn v.cn, .slice A7 (v.nl + 1) cA7, .slice v.Ak v.nk v.ck, .slice v.Av v.nv v.cv, .int .i64 s.cells, .int .i64 (z0 : Int), .int .i64 0]) := (((KT.refl w).below H6.out.2.2.2.2).push H6.out.2.2.2.1.ol hg7 H6.out.2.2.2.2.size (fun t ht => ht.2.2.1)).below bw8
  refine bodyPost_ret (v := .agg #[.slice v.Aa v.na v.ca, .int .i64 ((s.ln.length : Int) + 1), .slice v.Ac v.nc v.cc, .slice v.An v.nn v.cn, .slice A7 (v.nl + 1) cA7, .slice v.Ak v.nk v.ck, .slice v.Av v.nv v.cv, .int .i64 s.cells, .int .i64 (z0 : Int), .int .i64 0]) ?_ rfl ⟨hbW, hkt, { v with Al := A7, nl := v.nl + 1, cl := cA7 }, _, _, _, _, rfl, ?_⟩
  case refine_2 => rw [HR0.out]; exact ⟨rfl, by simp, rfl, h10⟩
  obtain ⟨W7, hW7⟩ : ∃ W7, W7 = ((w7.setCell ⟨w.heap.size, 4, none⟩ (.slice A7 (v.nl + 1) cA7)).setCell ⟨w.heap.size, 1, none⟩ (.int .i64 ((s.ln.length : Int) + 1))).setRow (w.heap.size + 1 + 1) #[.slice v.Aa v.na v.ca, .int .i64 ((s.ln.length : Int) + 1), .slice v.Ac v.nc v.cc, .slice v.An v.nn v.cn, .slice A7 (v.nl + 1) cA7, .slice v.Ak v.nk v.ck, .slice v.Av v.nv v.cv, .int .i64 s.cells, .int .i64 (z0 : Int), .int .i64 0] := ⟨_, rfl⟩
  rw [← hW7] at r7 ⊢
  have k0 : (W7).cell? ⟨(w.heap.size + 1 + 1), 0, none⟩ = some (.slice v.Aa v.na v.ca) := cell_rowV r7 rfl
  have k1 : (W7).cell? ⟨(w.heap.size + 1 + 1), 1, none⟩ = some (.int .i64 ((s.ln.length : Int) + 1)) := cell_rowV r7 rfl
  have k2 : (W7).cell? ⟨(w.heap.size + 1 + 1), 2, none⟩ = some (.slice v.Ac v.nc v.cc) := cell_rowV r7 rfl
  have k3 : (W7).cell? ⟨(w.heap.size + 1 + 1), 3, none⟩ = some (.slice v.An v.nn v.cn) := cell_rowV r7 rfl
  have k4 : (W7).cell? ⟨(w.heap.size + 1 + 1), 4, none⟩ = some (.slice A7 (v.nl + 1) cA7) := cell_rowV r7 rfl
  have k5 : (W7).cell? ⟨(w.heap.size + 1 + 1), 5, none⟩ = some (.slice v.Ak v.nk v.ck) := cell_rowV r7 rfl
  have k6 : (W7).cell? ⟨(w.heap.size + 1 + 1), 6, none⟩ = some (.slice v.Av v.nv v.cv) := cell_rowV r7 rfl
  have k7 : (W7).cell? ⟨(w.heap.size + 1 + 1), 7, none⟩ = some (.int .i64 s.cells) := cell_rowV r7 rfl
  have k8 : (W7).cell? ⟨(w.heap.size + 1 + 1), 8, none⟩ = some (.int .i64 (z0 : Int)) := cell_rowV r7 rfl
  have k9 : (W7).cell? ⟨(w.heap.size + 1 + 1), 9, none⟩ = some (.int .i64 0) := cell_rowV r7 rfl
  clear hW7 hbW hkt h10 h9 h8 h7 bw8
  simp [results, Tryd.results47, go_sem, k0, k1, k2, k3, k4, k5, k6, k7, k8, k9]
set_option maxRecDepth 100000 in
set_option maxHeartbeats 16000000 in
theorem declare_array (B : Nat) (w : World) (s : AS) (v : SVs) (n : Nat) (r : List Wd) (at_ er : Int) (h : RS B w s.arrs s.an s.ln (s.cn.map (·.1)) (s.cn.map (·.2)) s.code v) (hF : Formed s) (hB : B ≤ w.heap.size) (hk : v.nk ≤ 90000) (hx0' : (nextW n r).1.length ≤ 9000) (hx1' : (nextW n r.tail).1.length ≤ 9000) (y : List UInt8) (wide : Bool) (hy : (y = [98, 121, 116, 101, 115] ∧ wide = false) ∨ (y = [119, 111, 114, 100, 115] ∧ wide = true)) :
    Calls Tryd.prog 47 #[.agg #[.slice v.Aa v.na v.ca, .int .i64 (s.ln.length : Int), .slice v.Ac v.nc v.cc, .slice v.An v.nn v.cn, .slice v.Al v.nl v.cl, .slice v.Ak v.nk v.ck, .slice v.Av v.nv v.cv, .int .i64 s.cells, .int .i64 at_, .int .i64 er], .string (strB y), .agg #[.string (strB (nextW n r).1), .int .i64 ((nextW n r).2 : Int), .string (strB (nextW n r.tail).1), .int .i64 ((nextW n r.tail).2 : Int)]] w (DecP B w (arrayL n wide s r)) := by
  obtain ⟨res, hres⟩ : ∃ res, res = arrayL n wide s r := ⟨_, rfl⟩
  rw [← hres]
  have HRES := hres.trans (arrayL_named n wide s r y (by rcases hy with ⟨h, _⟩ | ⟨h, _⟩ <;> simp [h]))
  obtain ⟨x0, z0, hw0⟩ : ∃ x z, nextW n r = (x, z) := ⟨_, _, rfl⟩
  obtain ⟨x1, z1, hw1⟩ : ∃ x z, nextW n r.tail = (x, z) := ⟨_, _, rfl⟩
  rw [hw0] at hx0' HRES ⊢
  rw [hw1] at hx1' ⊢
  try rw [hw1] at HRES
  dsimp only at hx0' hx1' HRES ⊢
  have hkn : v.nn ≤ 8 := by have e := h.on.length (fun _ => rfl) (by decide); have := hF.an; have := hF.few; omega
  have hkl : v.nl ≤ 16 := by have e := h.ol.length (fun _ => rfl) (by decide); have := hF.locs; omega
  have hna : v.na ≤ 8 := by have e := h.oa.length (fun _ => rfl) (by decide); have := hF.few; omega
  have hC0 := cells_nonneg hF
  have hC1 := hF.cells
  obtain ⟨b4, r0, r1, r2⟩ := three_allocW w #[.slice v.Aa v.na v.ca, .int .i64 (s.ln.length : Int), .slice v.Ac v.nc v.cc, .slice v.An v.nn v.cn, .slice v.Al v.nl v.cl, .slice v.Ak v.nk v.ck, .slice v.Av v.nv v.cv, .int .i64 s.cells, .int .i64 (z0 : Int), .int .i64 er] #[.string (strB x0), .int .i64 (z0 : Int), .string (strB x1), .int .i64 (z1 : Int)] #[.slice none 0 0, .int .i64 0, .slice none 0 0, .slice none 0 0, .slice none 0 0, .slice none 0 0, .slice none 0 0, .int .i64 0, .int .i64 0, .int .i64 0] 76 105 76
  have h4 := h.below b4
  obtain ⟨w4, hw4⟩ : ∃ w4, w4 = (((w.alloc (.cells #[.slice v.Aa v.na v.ca, .int .i64 (s.ln.length : Int), .slice v.Ac v.nc v.cc, .slice v.An v.nn v.cn, .slice v.Al v.nl v.cl, .slice v.Ak v.nk v.ck, .slice v.Av v.nv v.cv, .int .i64 s.cells, .int .i64 (z0 : Int), .int .i64 er] 76)).alloc (.cells #[.string (strB x0), .int .i64 (z0 : Int), .string (strB x1), .int .i64 (z1 : Int)] 105)).alloc (.cells #[.slice none 0 0, .int .i64 0, .slice none 0 0, .slice none 0 0, .slice none 0 0, .slice none 0 0, .slice none 0 0, .int .i64 0, .int .i64 0, .int .i64 0] 76)) := ⟨_, rfl⟩
  rw [← hw4] at r0 r1 r2 h4 b4
  have HN := Lib.hid (namedR_any B w4 s.arrs s.code s v (s.ln.length : Int) s.cells (z0 : Int) er h4 y x0 hx0' (by omega) (by omega) (by omega))
  have HW := Lib.hid hw4
  have H4 := Lib.hid (And.intro r0 (And.intro r1 (And.intro r2 (And.intro h4 b4))))
  have HF := Lib.hid hF
  clear r0 r1 r2 h4 b4 hw4 hw0 hw1 h hF
  obtain ⟨nn, qe, hq⟩ : ∃ nn qe, valueL s x1 = (nn, qe) := ⟨_, _, rfl⟩
  rw [hq] at HRES
  dsimp only at HRES
  have hnn : nn < 4294967296 := by have := valueL_lt HF.out.cn x1; rw [hq] at this; exact this
  have HQ := Lib.hid hq
  clear hq
  replace HRES := Lib.hid HRES
  have y3 : ((strB y).toList == ([108, 111, 99, 97, 108] : List UInt8)) = false := by rw [strB_toList, beq_dec]; rcases hy with ⟨h, _⟩ | ⟨h, _⟩ <;> rw [h] <;> decide
  have y4 : ((strB y).toList == ([99, 111, 110, 115, 116] : List UInt8)) = false := by rw [strB_toList, beq_dec]; rcases hy with ⟨h, _⟩ | ⟨h, _⟩ <;> rw [h] <;> decide
  have y2 : ((strB y).toList == ([119, 111, 114, 100, 115] : List UInt8)) = wide := by rw [strB_toList, beq_dec]; rcases hy with ⟨h, h2⟩ | ⟨h, h2⟩ <;> rw [h, h2] <;> decide
  clear hy hres
  go_enter Tryd.func47, Tryd.ntmps47
  go_wp2_with fail
  rw [← HW.out]
  refine HN.out.mono ?_
  rintro e w5 ⟨rfl, hb5⟩
  have r05 := H4.out.1.below hb5 H4.out.1.lt
  have r15 := H4.out.2.1.below hb5 H4.out.2.1.lt
  have r25 := H4.out.2.2.1.below hb5 H4.out.2.2.1.lt
  have h5 := H4.out.2.2.2.1.below hb5
  have b5 := H4.out.2.2.2.2.trans (hb5.mono H4.out.2.2.2.2.size)
  have c0 : (w5).cell? ⟨w.heap.size, 0, none⟩ = some (.slice v.Aa v.na v.ca) := cell_rowV r05 rfl
  have c1 : (w5).cell? ⟨w.heap.size, 1, none⟩ = some (.int .i64 (s.ln.length : Int)) := cell_rowV r05 rfl
  have c2 : (w5).cell? ⟨w.heap.size, 2, none⟩ = some (.slice v.Ac v.nc v.cc) := cell_rowV r05 rfl
  have c3 : (w5).cell? ⟨w.heap.size, 3, none⟩ = some (.slice v.An v.nn v.cn) := cell_rowV r05 rfl
  have c4 : (w5).cell? ⟨w.heap.size, 4, none⟩ = some (.slice v.Al v.nl v.cl) := cell_rowV r05 rfl
  have c5 : (w5).cell? ⟨w.heap.size, 5, none⟩ = some (.slice v.Ak v.nk v.ck) := cell_rowV r05 rfl
  have c6 : (w5).cell? ⟨w.heap.size, 6, none⟩ = some (.slice v.Av v.nv v.cv) := cell_rowV r05 rfl
  have c7 : (w5).cell? ⟨w.heap.size, 7, none⟩ = some (.int .i64 s.cells) := cell_rowV r05 rfl
  have c8 : (w5).cell? ⟨w.heap.size, 8, none⟩ = some (.int .i64 (z0 : Int)) := cell_rowV r05 rfl
  have c9 : (w5).cell? ⟨w.heap.size, 9, none⟩ = some (.int .i64 er) := cell_rowV r05 rfl
  have d0 : (w5).cell? ⟨(w.heap.size + 1), 0, none⟩ = some (.string (strB x0)) := cell_rowV r15 rfl
  have d1 : (w5).cell? ⟨(w.heap.size + 1), 1, none⟩ = some (.int .i64 (z0 : Int)) := cell_rowV r15 rfl
  have d2 : (w5).cell? ⟨(w.heap.size + 1), 2, none⟩ = some (.string (strB x1)) := cell_rowV r15 rfl
  have d3 : (w5).cell? ⟨(w.heap.size + 1), 3, none⟩ = some (.int .i64 (z1 : Int)) := cell_rowV r15 rfl
  have f9 := frozen_rowV' r05 9
  obtain ⟨ne, hne⟩ : ∃ ne, ne = namedE s y x0 := ⟨_, rfl⟩
  rw [← hne] at HRES ⊢
  have r06 : rowV (w5.setCell ⟨w.heap.size, 9, none⟩ (.int .i64 ne)) w.heap.size 76 #[.slice v.Aa v.na v.ca, .int .i64 (s.ln.length : Int), .slice v.Ac v.nc v.cc, .slice v.An v.nn v.cn, .slice v.Al v.nl v.cl, .slice v.Ak v.nk v.ck, .slice v.Av v.nv v.cv, .int .i64 s.cells, .int .i64 (z0 : Int), .int .i64 ne] := r05.set 9 (.int .i64 ne)
  have r16 := r15.setFar (p := ⟨w.heap.size, 9, none⟩) (by show w.heap.size + 1 ≠ w.heap.size; omega) (.int .i64 ne)
  have r26 := r25.setFar (p := ⟨w.heap.size, 9, none⟩) (by show w.heap.size + 1 + 1 ≠ w.heap.size; omega) (.int .i64 ne)
  have h6 := h5.set r05 9 (.int .i64 ne)
  have b6 := b5.trans (Below.setG (w := w5) (j := 9) (Nat.le_refl w.heap.size) (.int .i64 ne))
  have H6 := Lib.hid (And.intro r06 (And.intro r16 (And.intro r26 (And.intro h6 b6))))
  clear hne hb5 r05 r15 r25 h5 b5 r06 r16 r26 h6 b6 H4 HW HN
  by_cases hne : ne ≠ 0
  · have Z := Lib.hid (HRES.out.trans (if_pos hne))
    have dne : (ne != 0) = true := by simpa using hne
    clear HRES hne
    go_wp2_with (refine wpList_store_row rfl 76 (.tmp 6) (.tmp 23) rfl _ #[.slice v.Aa v.na v.ca, .int .i64 (s.ln.length : Int), .slice v.Ac v.nc v.cc, .slice v.An v.nn v.cn, .slice v.Al v.nl v.cl, .slice v.Ak v.nk v.ck, .slice v.Av v.nv v.cv, .int .i64 s.cells, .int .i64 (z0 : Int), .int .i64 ne] rfl rfl _ _ H6.out.2.2.1 infoS rfl (by simp [Value.oneCell']) ?_)
    have r7 : rowV ((w5.setCell ⟨w.heap.size, 9, none⟩ (.int .i64 ne)).setRow (w.heap.size + 1 + 1) #[.slice v.Aa v.na v.ca, .int .i64 (s.ln.length : Int), .slice v.Ac v.nc v.cc, .slice v.An v.nn v.cn, .slice v.Al v.nl v.cl, .slice v.Ak v.nk v.ck, .slice v.Av v.nv v.cv, .int .i64 s.cells, .int .i64 (z0 : Int), .int .i64 ne]) (w.heap.size + 1 + 1) 76 #[.slice v.Aa v.na v.ca, .int .i64 (s.ln.length : Int), .slice v.Ac v.nc v.cc, .slice v.An v.nn v.cn, .slice v.Al v.nl v.cl, .slice v.Ak v.nk v.ck, .slice v.Av v.nv v.cv, .int .i64 s.cells, .int .i64 (z0 : Int), .int .i64 ne] := setRow_heap (w5.setCell ⟨w.heap.size, 9, none⟩ (.int .i64 ne)) (w.heap.size + 1 + 1) _ #[.slice v.Aa v.na v.ca, .int .i64 (s.ln.length : Int), .slice v.Ac v.nc v.cc, .slice v.An v.nn v.cn, .slice v.Al v.nl v.cl, .slice v.Ak v.nk v.ck, .slice v.Av v.nv v.cv, .int .i64 s.cells, .int .i64 (z0 : Int), .int .i64 ne] _ _ H6.out.2.2.1
    have g7 := grownBy_setRow (w5.setCell ⟨w.heap.size, 9, none⟩ (.int .i64 ne)) (w.heap.size + 1 + 1) #[.slice v.Aa v.na v.ca, .int .i64 (s.ln.length : Int), .slice v.Ac v.nc v.cc, .slice v.An v.nn v.cn, .slice v.Al v.nl v.cl, .slice v.Ak v.nk v.ck, .slice v.Av v.nv v.cv, .int .i64 s.cells, .int .i64 (z0 : Int), .int .i64 ne]
    have hbW : Below w.heap.size w ((w5.setCell ⟨w.heap.size, 9, none⟩ (.int .i64 ne)).setRow (w.heap.size + 1 + 1) #[.slice v.Aa v.na v.ca, .int .i64 (s.ln.length : Int), .slice v.Ac v.nc v.cc, .slice v.An v.nn v.cn, .slice v.Al v.nl v.cl, .slice v.Ak v.nk v.ck, .slice v.Av v.nv v.cv, .int .i64 s.cells, .int .i64 (z0 : Int), .int .i64 ne]) := H6.out.2.2.2.2.trans (Below.setRowG (Below.refl _ _) (by omega) _)
    refine bodyPost_ret (v := .agg #[.slice v.Aa v.na v.ca, .int .i64 (s.ln.length : Int), .slice v.Ac v.nc v.cc, .slice v.An v.nn v.cn, .slice v.Al v.nl v.cl, .slice v.Ak v.nk v.ck, .slice v.Av v.nv v.cv, .int .i64 s.cells, .int .i64 (z0 : Int), .int .i64 ne]) ?_ rfl ⟨hbW.mono hB, (KT.refl w).below hbW, v, _, _, _, _, rfl, ?_⟩
    case refine_2 => rw [Z.out]; exact ⟨rfl, rfl⟩
    obtain ⟨W7, hW7⟩ : ∃ W7, W7 = (w5.setCell ⟨w.heap.size, 9, none⟩ (.int .i64 ne)).setRow (w.heap.size + 1 + 1) #[.slice v.Aa v.na v.ca, .int .i64 (s.ln.length : Int), .slice v.Ac v.nc v.cc, .slice v.An v.nn v.cn, .slice v.Al v.nl v.cl, .slice v.Ak v.nk v.ck, .slice v.Av v.nv v.cv, .int .i64 s.cells, .int .i64 (z0 : Int), .int .i64 ne] := ⟨_, rfl⟩
    rw [← hW7] at r7 ⊢
    have k0 : (W7).cell? ⟨(w.heap.size + 1 + 1), 0, none⟩ = some (.slice v.Aa v.na v.ca) := cell_rowV r7 rfl
    have k1 : (W7).cell? ⟨(w.heap.size + 1 + 1), 1, none⟩ = some (.int .i64 (s.ln.length : Int)) := cell_rowV r7 rfl
    have k2 : (W7).cell? ⟨(w.heap.size + 1 + 1), 2, none⟩ = some (.slice v.Ac v.nc v.cc) := cell_rowV r7 rfl
    have k3 : (W7).cell? ⟨(w.heap.size + 1 + 1), 3, none⟩ = some (.slice v.An v.nn v.cn) := cell_rowV r7 rfl
    have k4 : (W7).cell? ⟨(w.heap.size + 1 + 1), 4, none⟩ = some (.slice v.Al v.nl v.cl) := cell_rowV r7 rfl
    have k5 : (W7).cell? ⟨(w.heap.size + 1 + 1), 5, none⟩ = some (.slice v.Ak v.nk v.ck) := cell_rowV r7 rfl
    have k6 : (W7).cell? ⟨(w.heap.size + 1 + 1), 6, none⟩ = some (.slice v.Av v.nv v.cv) := cell_rowV r7 rfl
    have k7 : (W7).cell? ⟨(w.heap.size + 1 + 1), 7, none⟩ = some (.int .i64 s.cells) := cell_rowV r7 rfl
    have k8 : (W7).cell? ⟨(w.heap.size + 1 + 1), 8, none⟩ = some (.int .i64 (z0 : Int)) := cell_rowV r7 rfl
    have k9 : (W7).cell? ⟨(w.heap.size + 1 + 1), 9, none⟩ = some (.int .i64 ne) := cell_rowV r7 rfl
    clear hW7 hbW
    simp [results, Tryd.results47, go_sem, k0, k1, k2, k3, k4, k5, k6, k7, k8, k9]
  obtain rfl : ne = 0 := by simpa using hne
  have HR0 := Lib.hid (HRES.out.trans (if_neg hne))
  clear HRES hne
  have r07 : rowV ((w5.setCell ⟨w.heap.size, 9, none⟩ (.int .i64 0)).setCell ⟨w.heap.size, 8, none⟩ (.int .i64 (z1 : Int))) w.heap.size 76 #[.slice v.Aa v.na v.ca, .int .i64 (s.ln.length : Int), .slice v.Ac v.nc v.cc, .slice v.An v.nn v.cn, .slice v.Al v.nl v.cl, .slice v.Ak v.nk v.ck, .slice v.Av v.nv v.cv, .int .i64 s.cells, .int .i64 (z1 : Int), .int .i64 0] := H6.out.1.set 8 (.int .i64 (z1 : Int))
  have r17 := H6.out.2.1.setFar (p := ⟨w.heap.size, 8, none⟩) (by show w.heap.size + 1 ≠ w.heap.size; omega) (.int .i64 (z1 : Int))
  have r27 := H6.out.2.2.1.setFar (p := ⟨w.heap.size, 8, none⟩) (by show w.heap.size + 1 + 1 ≠ w.heap.size; omega) (.int .i64 (z1 : Int))
  have h7 := H6.out.2.2.2.1.set H6.out.1 8 (.int .i64 (z1 : Int))
  have b7 := H6.out.2.2.2.2.trans (Below.setG (w := w5.setCell ⟨w.heap.size, 9, none⟩ (.int .i64 0)) (j := 8) (Nat.le_refl w.heap.size) (.int .i64 (z1 : Int)))
  have HV := valueR_any B ((w5.setCell ⟨w.heap.size, 9, none⟩ (.int .i64 0)).setCell ⟨w.heap.size, 8, none⟩ (.int .i64 (z1 : Int))) s.arrs s.an s.ln s.code s v (s.ln.length : Int) s.cells (z1 : Int) 0 h7 x1 hx1' (by omega)
  rw [HQ.out] at HV
  replace HV := Lib.hid HV
  have H7 := Lib.hid (And.intro r07 (And.intro r17 (And.intro r27 (And.intro h7 b7))))
  have f8 : w5.frozen? ⟨w.heap.size, 8, none⟩ = false := by
    have := frozen_rowV' H6.out.1 8
    simpa [go_sem] using this
  clear r07 r17 r27 h7 b7 H6
  go_wp2_with fail
  refine HV.out.mono ?_
  rintro e w8 ⟨rfl, hb8⟩
  have r08 := H7.out.1.below hb8 H7.out.1.lt
  have r18 := H7.out.2.1.below hb8 H7.out.2.1.lt
  have r28 := H7.out.2.2.1.below hb8 H7.out.2.2.1.lt
  have h8 := H7.out.2.2.2.1.below hb8
  have b8 := H7.out.2.2.2.2.trans (hb8.mono H7.out.2.2.2.2.size)
  clear c0 c1 c2 c3 c4 c5 c6 c7 c8 c9 d0 d1 d2 d3 f9 f8
  have c0 : (w8).cell? ⟨w.heap.size, 0, none⟩ = some (.slice v.Aa v.na v.ca) := cell_rowV r08 rfl
  have c1 : (w8).cell? ⟨w.heap.size, 1, none⟩ = some (.int .i64 (s.ln.length : Int)) := cell_rowV r08 rfl
  have c2 : (w8).cell? ⟨w.heap.size, 2, none⟩ = some (.slice v.Ac v.nc v.cc) := cell_rowV r08 rfl
  have c3 : (w8).cell? ⟨w.heap.size, 3, none⟩ = some (.slice v.An v.nn v.cn) := cell_rowV r08 rfl
  have c4 : (w8).cell? ⟨w.heap.size, 4, none⟩ = some (.slice v.Al v.nl v.cl) := cell_rowV r08 rfl
  have c5 : (w8).cell? ⟨w.heap.size, 5, none⟩ = some (.slice v.Ak v.nk v.ck) := cell_rowV r08 rfl
  have c6 : (w8).cell? ⟨w.heap.size, 6, none⟩ = some (.slice v.Av v.nv v.cv) := cell_rowV r08 rfl
  have c7 : (w8).cell? ⟨w.heap.size, 7, none⟩ = some (.int .i64 s.cells) := cell_rowV r08 rfl
  have c8 : (w8).cell? ⟨w.heap.size, 8, none⟩ = some (.int .i64 (z1 : Int)) := cell_rowV r08 rfl
  have c9 : (w8).cell? ⟨w.heap.size, 9, none⟩ = some (.int .i64 0) := cell_rowV r08 rfl
  have d0 : (w8).cell? ⟨(w.heap.size + 1), 0, none⟩ = some (.string (strB x0)) := cell_rowV r18 rfl
  have d1 : (w8).cell? ⟨(w.heap.size + 1), 1, none⟩ = some (.int .i64 (z0 : Int)) := cell_rowV r18 rfl
  have d2 : (w8).cell? ⟨(w.heap.size + 1), 2, none⟩ = some (.string (strB x1)) := cell_rowV r18 rfl
  have d3 : (w8).cell? ⟨(w.heap.size + 1), 3, none⟩ = some (.int .i64 (z1 : Int)) := cell_rowV r18 rfl
  have f9 := frozen_rowV' r08 9
  have f7 := frozen_rowV' r08 7
  have f3 := frozen_rowV' r08 3
  have f0 := frozen_rowV' r08 0
  have r09 : rowV (w8.setCell ⟨w.heap.size, 9, none⟩ (.int .i64 qe)) w.heap.size 76 #[.slice v.Aa v.na v.ca, .int .i64 (s.ln.length : Int), .slice v.Ac v.nc v.cc, .slice v.An v.nn v.cn, .slice v.Al v.nl v.cl, .slice v.Ak v.nk v.ck, .slice v.Av v.nv v.cv, .int .i64 s.cells, .int .i64 (z1 : Int), .int .i64 qe] := r08.set 9 (.int .i64 qe)
  have r19 := r18.setFar (p := ⟨w.heap.size, 9, none⟩) (by show w.heap.size + 1 ≠ w.heap.size; omega) (.int .i64 qe)
  have r29 := r28.setFar (p := ⟨w.heap.size, 9, none⟩) (by show w.heap.size + 1 + 1 ≠ w.heap.size; omega) (.int .i64 qe)
  have h9 := h8.set r08 9 (.int .i64 qe)
  have b9 := b8.trans (Below.setG (w := w8) (j := 9) (Nat.le_refl w.heap.size) (.int .i64 qe))
  have H9 := Lib.hid (And.intro r09 (And.intro r19 (And.intro r29 (And.intro h9 b9))))
  clear hb8 r08 r18 r28 h8 b8 r09 r19 r29 h9 b9 H7 HV
  by_cases hqe : qe ≠ 0
  · have Z := Lib.hid (HR0.out.trans (if_pos hqe))
    have dqe : (qe != 0) = true := by simpa using hqe
    clear HR0 hqe
    go_wp2_with (refine wpList_store_row rfl 76 (.tmp 6) (.tmp 57) rfl _ #[.slice v.Aa v.na v.ca, .int .i64 (s.ln.length : Int), .slice v.Ac v.nc v.cc, .slice v.An v.nn v.cn, .slice v.Al v.nl v.cl, .slice v.Ak v.nk v.ck, .slice v.Av v.nv v.cv, .int .i64 s.cells, .int .i64 (z1 : Int), .int .i64 qe] rfl rfl _ _ H9.out.2.2.1 infoS rfl (by simp [Value.oneCell']) ?_)
    have r7 : rowV ((w8.setCell ⟨w.heap.size, 9, none⟩ (.int .i64 qe)).setRow (w.heap.size + 1 + 1) #[.slice v.Aa v.na v.ca, .int .i64 (s.ln.length : Int), .slice v.Ac v.nc v.cc, .slice v.An v.nn v.cn, .slice v.Al v.nl v.cl, .slice v.Ak v.nk v.ck, .slice v.Av v.nv v.cv, .int .i64 s.cells, .int .i64 (z1 : Int), .int .i64 qe]) (w.heap.size + 1 + 1) 76 #[.slice v.Aa v.na v.ca, .int .i64 (s.ln.length : Int), .slice v.Ac v.nc v.cc, .slice v.An v.nn v.cn, .slice v.Al v.nl v.cl, .slice v.Ak v.nk v.ck, .slice v.Av v.nv v.cv, .int .i64 s.cells, .int .i64 (z1 : Int), .int .i64 qe] := setRow_heap (w8.setCell ⟨w.heap.size, 9, none⟩ (.int .i64 qe)) (w.heap.size + 1 + 1) _ #[.slice v.Aa v.na v.ca, .int .i64 (s.ln.length : Int), .slice v.Ac v.nc v.cc, .slice v.An v.nn v.cn, .slice v.Al v.nl v.cl, .slice v.Ak v.nk v.ck, .slice v.Av v.nv v.cv, .int .i64 s.cells, .int .i64 (z1 : Int), .int .i64 qe] _ _ H9.out.2.2.1
    have g7 := grownBy_setRow (w8.setCell ⟨w.heap.size, 9, none⟩ (.int .i64 qe)) (w.heap.size + 1 + 1) #[.slice v.Aa v.na v.ca, .int .i64 (s.ln.length : Int), .slice v.Ac v.nc v.cc, .slice v.An v.nn v.cn, .slice v.Al v.nl v.cl, .slice v.Ak v.nk v.ck, .slice v.Av v.nv v.cv, .int .i64 s.cells, .int .i64 (z1 : Int), .int .i64 qe]
    have hbW : Below w.heap.size w ((w8.setCell ⟨w.heap.size, 9, none⟩ (.int .i64 qe)).setRow (w.heap.size + 1 + 1) #[.slice v.Aa v.na v.ca, .int .i64 (s.ln.length : Int), .slice v.Ac v.nc v.cc, .slice v.An v.nn v.cn, .slice v.Al v.nl v.cl, .slice v.Ak v.nk v.ck, .slice v.Av v.nv v.cv, .int .i64 s.cells, .int .i64 (z1 : Int), .int .i64 qe]) := H9.out.2.2.2.2.trans (Below.setRowG (Below.refl _ _) (by omega) _)
    refine bodyPost_ret (v := .agg #[.slice v.Aa v.na v.ca, .int .i64 (s.ln.length : Int), .slice v.Ac v.nc v.cc, .slice v.An v.nn v.cn, .slice v.Al v.nl v.cl, .slice v.Ak v.nk v.ck, .slice v.Av v.nv v.cv, .int .i64 s.cells, .int .i64 (z1 : Int), .int .i64 qe]) ?_ rfl ⟨hbW.mono hB, (KT.refl w).below hbW, v, _, _, _, _, rfl, ?_⟩
    case refine_2 => rw [Z.out]; exact ⟨rfl, rfl⟩
    obtain ⟨W7, hW7⟩ : ∃ W7, W7 = (w8.setCell ⟨w.heap.size, 9, none⟩ (.int .i64 qe)).setRow (w.heap.size + 1 + 1) #[.slice v.Aa v.na v.ca, .int .i64 (s.ln.length : Int), .slice v.Ac v.nc v.cc, .slice v.An v.nn v.cn, .slice v.Al v.nl v.cl, .slice v.Ak v.nk v.ck, .slice v.Av v.nv v.cv, .int .i64 s.cells, .int .i64 (z1 : Int), .int .i64 qe] := ⟨_, rfl⟩
    rw [← hW7] at r7 ⊢
    have k0 : (W7).cell? ⟨(w.heap.size + 1 + 1), 0, none⟩ = some (.slice v.Aa v.na v.ca) := cell_rowV r7 rfl
    have k1 : (W7).cell? ⟨(w.heap.size + 1 + 1), 1, none⟩ = some (.int .i64 (s.ln.length : Int)) := cell_rowV r7 rfl
    have k2 : (W7).cell? ⟨(w.heap.size + 1 + 1), 2, none⟩ = some (.slice v.Ac v.nc v.cc) := cell_rowV r7 rfl
    have k3 : (W7).cell? ⟨(w.heap.size + 1 + 1), 3, none⟩ = some (.slice v.An v.nn v.cn) := cell_rowV r7 rfl
    have k4 : (W7).cell? ⟨(w.heap.size + 1 + 1), 4, none⟩ = some (.slice v.Al v.nl v.cl) := cell_rowV r7 rfl
    have k5 : (W7).cell? ⟨(w.heap.size + 1 + 1), 5, none⟩ = some (.slice v.Ak v.nk v.ck) := cell_rowV r7 rfl
    have k6 : (W7).cell? ⟨(w.heap.size + 1 + 1), 6, none⟩ = some (.slice v.Av v.nv v.cv) := cell_rowV r7 rfl
    have k7 : (W7).cell? ⟨(w.heap.size + 1 + 1), 7, none⟩ = some (.int .i64 s.cells) := cell_rowV r7 rfl
    have k8 : (W7).cell? ⟨(w.heap.size + 1 + 1), 8, none⟩ = some (.int .i64 (z1 : Int)) := cell_rowV r7 rfl
    have k9 : (W7).cell? ⟨(w.heap.size + 1 + 1), 9, none⟩ = some (.int .i64 qe) := cell_rowV r7 rfl
    clear hW7 hbW
    simp [results, Tryd.results47, go_sem, k0, k1, k2, k3, k4, k5, k6, k7, k8, k9]
  obtain rfl : qe = 0 := by simpa using hqe
  have HR1 := Lib.hid (HR0.out.trans (if_neg hqe))
  clear HR0 hqe
  obtain ⟨C, hC⟩ : ∃ C, C = s.cells := ⟨_, rfl⟩
  by_cases hn1 : (nn : Int) < 1
  · have Z := Lib.hid (HR1.out.trans (if_pos (.inl hn1)))
    have d1 : decide ((nn : Int) < 1) = true := by simpa using hn1
    have d1' : decide (nn < 1) = true := decide_eq_true (by omega)
    clear HR1
    have q9 := H9.out.2.2.1.setFar (p := ⟨w.heap.size, 9, none⟩) (by show w.heap.size + 1 + 1 ≠ w.heap.size; omega) (.int .i64 2)
    have bq := H9.out.2.2.2.2.trans (Below.setG (w := w8.setCell ⟨w.heap.size, 9, none⟩ (.int .i64 0)) (j := 9) (Nat.le_refl w.heap.size) (.int .i64 2))
    have HQ9 := Lib.hid (And.intro q9 bq)
    clear q9 bq
    go_wp2_with (refine wpList_store_row rfl 76 (.tmp 6) (.tmp 85) rfl _ #[.slice v.Aa v.na v.ca, .int .i64 (s.ln.length : Int), .slice v.Ac v.nc v.cc, .slice v.An v.nn v.cn, .slice v.Al v.nl v.cl, .slice v.Ak v.nk v.ck, .slice v.Av v.nv v.cv, .int .i64 s.cells, .int .i64 (z1 : Int), .int .i64 2] rfl rfl _ _ HQ9.out.1 infoS rfl (by simp [Value.oneCell']) ?_)
    have r7 : rowV (((w8.setCell ⟨w.heap.size, 9, none⟩ (.int .i64 0)).setCell ⟨w.heap.size, 9, none⟩ (.int .i64 2)).setRow (w.heap.size + 1 + 1) #[.slice v.Aa v.na v.ca, .int .i64 (s.ln.length : Int), .slice v.Ac v.nc v.cc, .slice v.An v.nn v.cn, .slice v.Al v.nl v.cl, .slice v.Ak v.nk v.ck, .slice v.Av v.nv v.cv, .int .i64 s.cells, .int .i64 (z1 : Int), .int .i64 2]) (w.heap.size + 1 + 1) 76 #[.slice v.Aa v.na v.ca, .int .i64 (s.ln.length : Int), .slice v.Ac v.nc v.cc, .slice v.An v.nn v.cn, .slice v.Al v.nl v.cl, .slice v.Ak v.nk v.ck, .slice v.Av v.nv v.cv, .int .i64 s.cells, .int .i64 (z1 : Int), .int .i64 2] := setRow_heap ((w8.setCell ⟨w.heap.size, 9, none⟩ (.int .i64 0)).setCell ⟨w.heap.size, 9, none⟩ (.int .i64 2)) (w.heap.size + 1 + 1) _ #[.slice v.Aa v.na v.ca, .int .i64 (s.ln.length : Int), .slice v.Ac v.nc v.cc, .slice v.An v.nn v.cn, .slice v.Al v.nl v.cl, .slice v.Ak v.nk v.ck, .slice v.Av v.nv v.cv, .int .i64 s.cells, .int .i64 (z1 : Int), .int .i64 2] _ _ HQ9.out.1
    have g7 := grownBy_setRow ((w8.setCell ⟨w.heap.size, 9, none⟩ (.int .i64 0)).setCell ⟨w.heap.size, 9, none⟩ (.int .i64 2)) (w.heap.size + 1 + 1) #[.slice v.Aa v.na v.ca, .int .i64 (s.ln.length : Int), .slice v.Ac v.nc v.cc, .slice v.An v.nn v.cn, .slice v.Al v.nl v.cl, .slice v.Ak v.nk v.ck, .slice v.Av v.nv v.cv, .int .i64 s.cells, .int .i64 (z1 : Int), .int .i64 2]
    have hbW : Below w.heap.size w (((w8.setCell ⟨w.heap.size, 9, none⟩ (.int .i64 0)).setCell ⟨w.heap.size, 9, none⟩ (.int .i64 2)).setRow (w.heap.size + 1 + 1) #[.slice v.Aa v.na v.ca, .int .i64 (s.ln.length : Int), .slice v.Ac v.nc v.cc, .slice v.An v.nn v.cn, .slice v.Al v.nl v.cl, .slice v.Ak v.nk v.ck, .slice v.Av v.nv v.cv, .int .i64 s.cells, .int .i64 (z1 : Int), .int .i64 2]) := HQ9.out.2.trans (Below.setRowG (Below.refl _ _) (by omega) _)
    refine bodyPost_ret (v := .agg #[.slice v.Aa v.na v.ca, .int .i64 (s.ln.length : Int), .slice v.Ac v.nc v.cc, .slice v.An v.nn v.cn, .slice v.Al v.nl v.cl, .slice v.Ak v.nk v.ck, .slice v.Av v.nv v.cv, .int .i64 s.cells, .int .i64 (z1 : Int), .int .i64 2]) ?_ rfl ⟨hbW.mono hB, (KT.refl w).below hbW, v, _, _, _, _, rfl, ?_⟩
    case refine_2 => rw [Z.out]; exact ⟨rfl, rfl⟩
    obtain ⟨W7, hW7⟩ : ∃ W7, W7 = ((w8.setCell ⟨w.heap.size, 9, none⟩ (.int .i64 0)).setCell ⟨w.heap.size, 9, none⟩ (.int .i64 2)).setRow (w.heap.size + 1 + 1) #[.slice v.Aa v.na v.ca, .int .i64 (s.ln.length : Int), .slice v.Ac v.nc v.cc, .slice v.An v.nn v.cn, .slice v.Al v.nl v.cl, .slice v.Ak v.nk v.ck, .slice v.Av v.nv v.cv, .int .i64 s.cells, .int .i64 (z1 : Int), .int .i64 2] := ⟨_, rfl⟩
    rw [← hW7] at r7 ⊢
    have k0 : (W7).cell? ⟨(w.heap.size + 1 + 1), 0, none⟩ = some (.slice v.Aa v.na v.ca) := cell_rowV r7 rfl
    have k1 : (W7).cell? ⟨(w.heap.size + 1 + 1), 1, none⟩ = some (.int .i64 (s.ln.length : Int)) := cell_rowV r7 rfl
    have k2 : (W7).cell? ⟨(w.heap.size + 1 + 1), 2, none⟩ = some (.slice v.Ac v.nc v.cc) := cell_rowV r7 rfl
    have k3 : (W7).cell? ⟨(w.heap.size + 1 + 1), 3, none⟩ = some (.slice v.An v.nn v.cn) := cell_rowV r7 rfl
    have k4 : (W7).cell? ⟨(w.heap.size + 1 + 1), 4, none⟩ = some (.slice v.Al v.nl v.cl) := cell_rowV r7 rfl
    have k5 : (W7).cell? ⟨(w.heap.size + 1 + 1), 5, none⟩ = some (.slice v.Ak v.nk v.ck) := cell_rowV r7 rfl
    have k6 : (W7).cell? ⟨(w.heap.size + 1 + 1), 6, none⟩ = some (.slice v.Av v.nv v.cv) := cell_rowV r7 rfl
    have k7 : (W7).cell? ⟨(w.heap.size + 1 + 1), 7, none⟩ = some (.int .i64 s.cells) := cell_rowV r7 rfl
    have k8 : (W7).cell? ⟨(w.heap.size + 1 + 1), 8, none⟩ = some (.int .i64 (z1 : Int)) := cell_rowV r7 rfl
    have k9 : (W7).cell? ⟨(w.heap.size + 1 + 1), 9, none⟩ = some (.int .i64 2) := cell_rowV r7 rfl
    clear hW7 hbW
    simp [results, Tryd.results47, go_sem, k0, k1, k2, k3, k4, k5, k6, k7, k8, k9]
  have d1 : decide ((nn : Int) < 1) = false := by simpa using hn1
  have d1' : decide (nn < 1) = false := decide_eq_false (by omega)
  by_cases hn2 : 65536 < (nn : Int) + s.cells
  · have Z := Lib.hid (HR1.out.trans (if_pos (.inr hn2)))
    have d2 : decide (65536 - s.cells < (nn : Int)) = true := decide_eq_true (by omega)
    clear HR1
    have q9 := H9.out.2.2.1.setFar (p := ⟨w.heap.size, 9, none⟩) (by show w.heap.size + 1 + 1 ≠ w.heap.size; omega) (.int .i64 2)
    have bq := H9.out.2.2.2.2.trans (Below.setG (w := w8.setCell ⟨w.heap.size, 9, none⟩ (.int .i64 0)) (j := 9) (Nat.le_refl w.heap.size) (.int .i64 2))
    have HQ9 := Lib.hid (And.intro q9 bq)
    clear q9 bq
    go_wp2_with (refine wpList_store_row rfl 76 (.tmp 6) (.tmp 85) rfl _ #[.slice v.Aa v.na v.ca, .int .i64 (s.ln.length : Int), .slice v.Ac v.nc v.cc, .slice v.An v.nn v.cn, .slice v.Al v.nl v.cl, .slice v.Ak v.nk v.ck, .slice v.Av v.nv v.cv, .int .i64 s.cells, .int .i64 (z1 : Int), .int .i64 2] rfl rfl _ _ HQ9.out.1 infoS rfl (by simp [Value.oneCell']) ?_)
    have r7 : rowV (((w8.setCell ⟨w.heap.size, 9, none⟩ (.int .i64 0)).setCell ⟨w.heap.size, 9, none⟩ (.int .i64 2)).setRow (w.heap.size + 1 + 1) #[.slice v.Aa v.na v.ca, .int .i64 (s.ln.length : Int), .slice v.Ac v.nc v.cc, .slice v.An v.nn v.cn, .slice v.Al v.nl v.cl, .slice v.Ak v.nk v.ck, .slice v.Av v.nv v.cv, .int .i64 s.cells, .int .i64 (z1 : Int), .int .i64 2]) (w.heap.size + 1 + 1) 76 #[.slice v.Aa v.na v.ca, .int .i64 (s.ln.length : Int), .slice v.Ac v.nc v.cc, .slice v.An v.nn v.cn, .slice v.Al v.nl v.cl, .slice v.Ak v.nk v.ck, .slice v.Av v.nv v.cv, .int .i64 s.cells, .int .i64 (z1 : Int), .int .i64 2] := setRow_heap ((w8.setCell ⟨w.heap.size, 9, none⟩ (.int .i64 0)).setCell ⟨w.heap.size, 9, none⟩ (.int .i64 2)) (w.heap.size + 1 + 1) _ #[.slice v.Aa v.na v.ca, .int .i64 (s.ln.length : Int), .slice v.Ac v.nc v.cc, .slice v.An v.nn v.cn, .slice v.Al v.nl v.cl, .slice v.Ak v.nk v.ck, .slice v.Av v.nv v.cv, .int .i64 s.cells, .int .i64 (z1 : Int), .int .i64 2] _ _ HQ9.out.1
    have g7 := grownBy_setRow ((w8.setCell ⟨w.heap.size, 9, none⟩ (.int .i64 0)).setCell ⟨w.heap.size, 9, none⟩ (.int .i64 2)) (w.heap.size + 1 + 1) #[.slice v.Aa v.na v.ca, .int .i64 (s.ln.length : Int), .slice v.Ac v.nc v.cc, .slice v.An v.nn v.cn, .slice v.Al v.nl v.cl, .slice v.Ak v.nk v.ck, .slice v.Av v.nv v.cv, .int .i64 s.cells, .int .i64 (z1 : Int), .int .i64 2]
    have hbW : Below w.heap.size w (((w8.setCell ⟨w.heap.size, 9, none⟩ (.int .i64 0)).setCell ⟨w.heap.size, 9, none⟩ (.int .i64 2)).setRow (w.heap.size + 1 + 1) #[.slice v.Aa v.na v.ca, .int .i64 (s.ln.length : Int), .slice v.Ac v.nc v.cc, .slice v.An v.nn v.cn, .slice v.Al v.nl v.cl, .slice v.Ak v.nk v.ck, .slice v.Av v.nv v.cv, .int .i64 s.cells, .int .i64 (z1 : Int), .int .i64 2]) := HQ9.out.2.trans (Below.setRowG (Below.refl _ _) (by omega) _)
    refine bodyPost_ret (v := .agg #[.slice v.Aa v.na v.ca, .int .i64 (s.ln.length : Int), .slice v.Ac v.nc v.cc, .slice v.An v.nn v.cn, .slice v.Al v.nl v.cl, .slice v.Ak v.nk v.ck, .slice v.Av v.nv v.cv, .int .i64 s.cells, .int .i64 (z1 : Int), .int .i64 2]) ?_ rfl ⟨hbW.mono hB, (KT.refl w).below hbW, v, _, _, _, _, rfl, ?_⟩
    case refine_2 => rw [Z.out]; exact ⟨rfl, rfl⟩
    obtain ⟨W7, hW7⟩ : ∃ W7, W7 = ((w8.setCell ⟨w.heap.size, 9, none⟩ (.int .i64 0)).setCell ⟨w.heap.size, 9, none⟩ (.int .i64 2)).setRow (w.heap.size + 1 + 1) #[.slice v.Aa v.na v.ca, .int .i64 (s.ln.length : Int), .slice v.Ac v.nc v.cc, .slice v.An v.nn v.cn, .slice v.Al v.nl v.cl, .slice v.Ak v.nk v.ck, .slice v.Av v.nv v.cv, .int .i64 s.cells, .int .i64 (z1 : Int), .int .i64 2] := ⟨_, rfl⟩
    rw [← hW7] at r7 ⊢
    have k0 : (W7).cell? ⟨(w.heap.size + 1 + 1), 0, none⟩ = some (.slice v.Aa v.na v.ca) := cell_rowV r7 rfl
    have k1 : (W7).cell? ⟨(w.heap.size + 1 + 1), 1, none⟩ = some (.int .i64 (s.ln.length : Int)) := cell_rowV r7 rfl
    have k2 : (W7).cell? ⟨(w.heap.size + 1 + 1), 2, none⟩ = some (.slice v.Ac v.nc v.cc) := cell_rowV r7 rfl
    have k3 : (W7).cell? ⟨(w.heap.size + 1 + 1), 3, none⟩ = some (.slice v.An v.nn v.cn) := cell_rowV r7 rfl
    have k4 : (W7).cell? ⟨(w.heap.size + 1 + 1), 4, none⟩ = some (.slice v.Al v.nl v.cl) := cell_rowV r7 rfl
    have k5 : (W7).cell? ⟨(w.heap.size + 1 + 1), 5, none⟩ = some (.slice v.Ak v.nk v.ck) := cell_rowV r7 rfl
    have k6 : (W7).cell? ⟨(w.heap.size + 1 + 1), 6, none⟩ = some (.slice v.Av v.nv v.cv) := cell_rowV r7 rfl
    have k7 : (W7).cell? ⟨(w.heap.size + 1 + 1), 7, none⟩ = some (.int .i64 s.cells) := cell_rowV r7 rfl
    have k8 : (W7).cell? ⟨(w.heap.size + 1 + 1), 8, none⟩ = some (.int .i64 (z1 : Int)) := cell_rowV r7 rfl
    have k9 : (W7).cell? ⟨(w.heap.size + 1 + 1), 9, none⟩ = some (.int .i64 2) := cell_rowV r7 rfl
    clear hW7 hbW
    simp [results, Tryd.results47, go_sem, k0, k1, k2, k3, k4, k5, k6, k7, k8, k9]
  have d2 : decide (65536 - s.cells < (nn : Int)) = false := decide_eq_false (by omega)
  have HR2 := Lib.hid (HR1.out.trans (if_neg (fun h => h.elim hn1 hn2)))
  clear HR1
  have hm : Hid (v.nn + 1 ≤ maxLen ∧ (v.nn + 1) * 16 ≤ 140737488355328) := ⟨by simp [maxLen]; omega, by omega⟩
  have hma : Hid (v.na + 1 ≤ maxLen ∧ (v.na + 1) * 16 ≤ 140737488355328) := ⟨by simp [maxLen]; omega, by omega⟩
  have r0c : rowV ((w8.setCell ⟨w.heap.size, 9, none⟩ (.int .i64 0)).setCell ⟨w.heap.size, 7, none⟩ (.int .i64 (s.cells + (nn : Int)))) w.heap.size 76 #[.slice v.Aa v.na v.ca, .int .i64 (s.ln.length : Int), .slice v.Ac v.nc v.cc, .slice v.An v.nn v.cn, .slice v.Al v.nl v.cl, .slice v.Ak v.nk v.ck, .slice v.Av v.nv v.cv, .int .i64 (s.cells + (nn : Int)), .int .i64 (z1 : Int), .int .i64 0] := H9.out.1.set 7 (.int .i64 (s.cells + (nn : Int)))
  have r1c := H9.out.2.1.setFar (p := ⟨w.heap.size, 7, none⟩) (by show w.heap.size + 1 ≠ w.heap.size; omega) (.int .i64 (s.cells + (nn : Int)))
  have r2c := H9.out.2.2.1.setFar (p := ⟨w.heap.size, 7, none⟩) (by show w.heap.size + 1 + 1 ≠ w.heap.size; omega) (.int .i64 (s.cells + (nn : Int)))
  have hc := H9.out.2.2.2.1.set H9.out.1 7 (.int .i64 (s.cells + (nn : Int)))
  have bc := H9.out.2.2.2.2.trans (Below.setG (w := w8.setCell ⟨w.heap.size, 9, none⟩ (.int .i64 0)) (j := 7) (Nat.le_refl w.heap.size) (.int .i64 (s.cells + (nn : Int))))
  have HA := Lib.hid (And.intro r0c (And.intro r1c (And.intro r2c (And.intro hc bc))))
  have HBL : Hid (B ≤ ((w8.setCell ⟨w.heap.size, 9, none⟩ (.int .i64 0)).setCell ⟨w.heap.size, 7, none⟩ (.int .i64 (s.cells + (nn : Int)))).heap.size) := Nat.le_trans hB bc.size
  clear r0c r1c r2c hc bc H9
  go_wp2_with (first | (at_builtin; refine wpList_pushT (enc := encSt) rfl (.tmp 92) (.tmp 96) rfl uSt infoSt encSt_one rfl (fun _ => rfl) (by decide) rfl HA.out.2.2.2.1.on HBL.out x0 _ rfl (by first | rfl | (simp only [setCell_size]; rfl)) hm.out.1 hm.out.2 ?_; intro A7 cA7 w11 ho7 hb7 hg7 hf7; have q0 : rowV w11 w.heap.size 76 #[.slice v.Aa v.na v.ca, .int .i64 (s.ln.length : Int), .slice v.Ac v.nc v.cc, .slice v.An v.nn v.cn, .slice v.Al v.nl v.cl, .slice v.Ak v.nk v.ck, .slice v.Av v.nv v.cv, .int .i64 (s.cells + (nn : Int)), .int .i64 (z1 : Int), .int .i64 0] := HA.out.1.grown hg7 (fun e => (HA.out.2.2.2.1.on.ne_row HA.out.1 (by decide)) _ e.symm rfl); have q1 : rowV w11 (w.heap.size + 1) 105 #[.string (strB x0), .int .i64 (z0 : Int), .string (strB x1), .int .i64 (z1 : Int)] := HA.out.2.1.grown hg7 (fun e => (HA.out.2.2.2.1.on.ne_row HA.out.2.1 (by decide)) _ e.symm rfl); have q2 : rowV w11 (w.heap.size + 1 + 1) 76 #[.slice none 0 0, .int .i64 0, .slice none 0 0, .slice none 0 0, .slice none 0 0, .slice none 0 0, .slice none 0 0, .int .i64 0, .int .i64 0, .int .i64 0] := HA.out.2.2.1.grown hg7 (fun e => (HA.out.2.2.2.1.on.ne_row HA.out.2.2.1 (by decide)) _ e.symm rfl); have q0b : rowV (w11.setCell ⟨w.heap.size, 3, none⟩ (.slice A7 (v.nn + 1) cA7)) w.heap.size 76 #[.slice v.Aa v.na v.ca, .int .i64 (s.ln.length : Int), .slice v.Ac v.nc v.cc, .slice A7 (v.nn + 1) cA7, .slice v.Al v.nl v.cl, .slice v.Ak v.nk v.ck, .slice v.Av v.nv v.cv, .int .i64 (s.cells + (nn : Int)), .int .i64 (z1 : Int), .int .i64 0] := q0.set 3 _; have q2b : rowV (w11.setCell ⟨w.heap.size, 3, none⟩ (.slice A7 (v.nn + 1) cA7)) (w.heap.size + 1 + 1) 76 #[.slice none 0 0, .int .i64 0, .slice none 0 0, .slice none 0 0, .slice none 0 0, .slice none 0 0, .slice none 0 0, .int .i64 0, .int .i64 0, .int .i64 0] := q2.setFar (p := ⟨w.heap.size, 3, none⟩) (by show w.heap.size + 1 + 1 ≠ w.heap.size; omega) _; have hp7 := HA.out.2.2.2.1.push_an ho7 hg7 hf7; have hp8 := hp7.set q0 3 (.slice A7 (v.nn + 1) cA7); have HP := Lib.hid (And.intro q0b (And.intro q2b (And.intro hp8 (Nat.le_trans (Nat.le_trans hB HA.out.2.2.2.2.size) (Nat.le_trans hb7.size (Nat.le_of_eq (setCell_size w11 ⟨w.heap.size, 3, none⟩ (.slice A7 (v.nn + 1) cA7)).symm)))))); have u0 : (w11).cell? ⟨w.heap.size, 0, none⟩ = some (.slice v.Aa v.na v.ca) := cell_rowV q0 rfl; have u1 : (w11).cell? ⟨w.heap.size, 1, none⟩ = some (.int .i64 (s.ln.length : Int)) := cell_rowV q0 rfl; have u2 : (w11).cell? ⟨w.heap.size, 2, none⟩ = some (.slice v.Ac v.nc v.cc) := cell_rowV q0 rfl; have u3 : (w11).cell? ⟨w.heap.size, 3, none⟩ = some (.slice v.An v.nn v.cn) := cell_rowV q0 rfl; have u4 : (w11).cell? ⟨w.heap.size, 4, none⟩ = some (.slice v.Al v.nl v.cl) := cell_rowV q0 rfl; have u5 : (w11).cell? ⟨w.heap.size, 5, none⟩ = some (.slice v.Ak v.nk v.ck) := cell_rowV q0 rfl; have u6 : (w11).cell? ⟨w.heap.size, 6, none⟩ = some (.slice v.Av v.nv v.cv) := cell_rowV q0 rfl; have u7 : (w11).cell? ⟨w.heap.size, 7, none⟩ = some (.int .i64 (s.cells + (nn : Int))) := cell_rowV q0 rfl; have u8 : (w11).cell? ⟨w.heap.size, 8, none⟩ = some (.int .i64 (z1 : Int)) := cell_rowV q0 rfl; have u9 : (w11).cell? ⟨w.heap.size, 9, none⟩ = some (.int .i64 0) := cell_rowV q0 rfl; have t0 : (w11).cell? ⟨(w.heap.size + 1), 0, none⟩ = some (.string (strB x0)) := cell_rowV q1 rfl; have t1 : (w11).cell? ⟨(w.heap.size + 1), 1, none⟩ = some (.int .i64 (z0 : Int)) := cell_rowV q1 rfl; have t2 : (w11).cell? ⟨(w.heap.size + 1), 2, none⟩ = some (.string (strB x1)) := cell_rowV q1 rfl; have t3 : (w11).cell? ⟨(w.heap.size + 1), 3, none⟩ = some (.int .i64 (z1 : Int)) := cell_rowV q1 rfl; have uf3 := frozen_rowV' q0 3; have uf0 := frozen_rowV' q0 0) | (at_builtin; refine wpList_pushT (enc := encAr) rfl (.tmp 101) (.tmp 106) rfl uAr infoAr encAr_one rfl (fun _ => rfl) (by decide) rfl HP.out.2.2.1.oa HP.out.2.2.2 (⟨wide, (nn : Int)⟩ : Arr) _ rfl (by first | rfl | (simp only [setCell_size]; rfl)) hma.out.1 hma.out.2 ?_; intro A8 cA8 w13 ho8 hb8 hg8 hf8; have p0 : rowV w13 w.heap.size 76 #[.slice v.Aa v.na v.ca, .int .i64 (s.ln.length : Int), .slice v.Ac v.nc v.cc, .slice A7 (v.nn + 1) cA7, .slice v.Al v.nl v.cl, .slice v.Ak v.nk v.ck, .slice v.Av v.nv v.cv, .int .i64 (s.cells + (nn : Int)), .int .i64 (z1 : Int), .int .i64 0] := HP.out.1.grown hg8 (fun e => (HP.out.2.2.1.oa.ne_row HP.out.1 (by decide)) _ e.symm rfl); have p2 : rowV w13 (w.heap.size + 1 + 1) 76 #[.slice none 0 0, .int .i64 0, .slice none 0 0, .slice none 0 0, .slice none 0 0, .slice none 0 0, .slice none 0 0, .int .i64 0, .int .i64 0, .int .i64 0] := HP.out.2.1.grown hg8 (fun e => (HP.out.2.2.1.oa.ne_row HP.out.2.1 (by decide)) _ e.symm rfl); have p2b : rowV (w13.setCell ⟨w.heap.size, 0, none⟩ (.slice A8 (v.na + 1) cA8)) (w.heap.size + 1 + 1) 76 #[.slice none 0 0, .int .i64 0, .slice none 0 0, .slice none 0 0, .slice none 0 0, .slice none 0 0, .slice none 0 0, .int .i64 0, .int .i64 0, .int .i64 0] := p2.setFar (p := ⟨w.heap.size, 0, none⟩) (by show w.heap.size + 1 + 1 ≠ w.heap.size; omega) _; have HQ9 := Lib.hid p2b; have x0 : (w13).cell? ⟨w.heap.size, 0, none⟩ = some (.slice v.Aa v.na v.ca) := cell_rowV p0 rfl; have x1 : (w13).cell? ⟨w.heap.size, 1, none⟩ = some (.int .i64 (s.ln.length : Int)) := cell_rowV p0 rfl; have x2 : (w13).cell? ⟨w.heap.size, 2, none⟩ = some (.slice v.Ac v.nc v.cc) := cell_rowV p0 rfl; have x3 : (w13).cell? ⟨w.heap.size, 3, none⟩ = some (.slice A7 (v.nn + 1) cA7) := cell_rowV p0 rfl; have x4 : (w13).cell? ⟨w.heap.size, 4, none⟩ = some (.slice v.Al v.nl v.cl) := cell_rowV p0 rfl; have x5 : (w13).cell? ⟨w.heap.size, 5, none⟩ = some (.slice v.Ak v.nk v.ck) := cell_rowV p0 rfl; have x6 : (w13).cell? ⟨w.heap.size, 6, none⟩ = some (.slice v.Av v.nv v.cv) := cell_rowV p0 rfl; have x7 : (w13).cell? ⟨w.heap.size, 7, none⟩ = some (.int .i64 (s.cells + (nn : Int))) := cell_rowV p0 rfl; have x8 : (w13).cell? ⟨w.heap.size, 8, none⟩ = some (.int .i64 (z1 : Int)) := cell_rowV p0 rfl; have x9 : (w13).cell? ⟨w.heap.size, 9, none⟩ = some (.int .i64 0) := cell_rowV p0 rfl; have xf0 := frozen_rowV' p0 0) | refine wpList_store_row rfl 76 (.tmp 6) (.tmp 110) rfl _ #[.slice A8 (v.na + 1) cA8, .int .i64 (s.ln.length : Int), .slice v.Ac v.nc v.cc, .slice A7 (v.nn + 1) cA7, .slice v.Al v.nl v.cl, .slice v.Ak v.nk v.ck, .slice v.Av v.nv v.cv, .int .i64 (s.cells + (nn : Int)), .int .i64 (z1 : Int), .int .i64 0] rfl rfl _ _ HQ9.out infoS rfl (by simp [Value.oneCell']) ?_)
  have r7 : rowV ((w13.setCell ⟨w.heap.size, 0, none⟩ (.slice A8 (v.na + 1) cA8)).setRow (w.heap.size + 1 + 1) #[.slice A8 (v.na + 1) cA8, .int .i64 (s.ln.length : Int), .slice v.Ac v.nc v.cc, .slice A7 (v.nn + 1) cA7, .slice v.Al v.nl v.cl, .slice v.Ak v.nk v.ck, .slice v.Av v.nv v.cv, .int .i64 (s.cells + (nn : Int)), .int .i64 (z1 : Int), .int .i64 0]) (w.heap.size + 1 + 1) 76 #[.slice A8 (v.na + 1) cA8, .int .i64 (s.ln.length : Int), .slice v.Ac v.nc v.cc, .slice A7 (v.nn + 1) cA7, .slice v.Al v.nl v.cl, .slice v.Ak v.nk v.ck, .slice v.Av v.nv v.cv, .int .i64 (s.cells + (nn : Int)), .int .i64 (z1 : Int), .int .i64 0] := setRow_heap (w13.setCell ⟨w.heap.size, 0, none⟩ (.slice A8 (v.na + 1) cA8)) (w.heap.size + 1 + 1) _ #[.slice A8 (v.na + 1) cA8, .int .i64 (s.ln.length : Int), .slice v.Ac v.nc v.cc, .slice A7 (v.nn + 1) cA7, .slice v.Al v.nl v.cl, .slice v.Ak v.nk v.ck, .slice v.Av v.nv v.cv, .int .i64 (s.cells + (nn : Int)), .int .i64 (z1 : Int), .int .i64 0] _ _ HQ9.out
  have g7 := grownBy_setRow (w13.setCell ⟨w.heap.size, 0, none⟩ (.slice A8 (v.na + 1) cA8)) (w.heap.size + 1 + 1) #[.slice A8 (v.na + 1) cA8, .int .i64 (s.ln.length : Int), .slice v.Ac v.nc v.cc, .slice A7 (v.nn + 1) cA7, .slice v.Al v.nl v.cl, .slice v.Ak v.nk v.ck, .slice v.Av v.nv v.cv, .int .i64 (s.cells + (nn : Int)), .int .i64 (z1 : Int), .int .i64 0]
  have h13 := HP.out.2.2.1.push_arrs ho8 hg8 hf8
  have h14 := h13.set p0 0 (.slice A8 (v.na + 1) cA8)
  have h15 := h14.setRow p2b #[.slice A8 (v.na + 1) cA8, .int .i64 (s.ln.length : Int), .slice v.Ac v.nc v.cc, .slice A7 (v.nn + 1) cA7, .slice v.Al v.nl v.cl, .slice v.Ak v.nk v.ck, .slice v.Av v.nv v.cv, .int .i64 (s.cells + (nn : Int)), .int .i64 (z1 : Int), .int .i64 0]
  have bA : Below w.heap.size w11 (w11.setCell ⟨w.heap.size, 3, none⟩ (.slice A7 (v.nn + 1) cA7)) := Below.setG (w := w11) (j := 3) (Nat.le_refl w.heap.size) _
  have bB : Below w.heap.size w13 ((w13.setCell ⟨w.heap.size, 0, none⟩ (.slice A8 (v.na + 1) cA8)).setRow (w.heap.size + 1 + 1) #[.slice A8 (v.na + 1) cA8, .int .i64 (s.ln.length : Int), .slice v.Ac v.nc v.cc, .slice A7 (v.nn + 1) cA7, .slice v.Al v.nl v.cl, .slice v.Ak v.nk v.ck, .slice v.Av v.nv v.cv, .int .i64 (s.cells + (nn : Int)), .int .i64 (z1 : Int), .int .i64 0]) := (Below.setG (w := w13) (j := 0) (Nat.le_refl w.heap.size) _).trans (Below.setRowG (Below.refl _ _) (by omega) _)
  have hbW : Below B w ((w13.setCell ⟨w.heap.size, 0, none⟩ (.slice A8 (v.na + 1) cA8)).setRow (w.heap.size + 1 + 1) #[.slice A8 (v.na + 1) cA8, .int .i64 (s.ln.length : Int), .slice v.Ac v.nc v.cc, .slice A7 (v.nn + 1) cA7, .slice v.Al v.nl v.cl, .slice v.Ak v.nk v.ck, .slice v.Av v.nv v.cv, .int .i64 (s.cells + (nn : Int)), .int .i64 (z1 : Int), .int .i64 0]) := ((((HA.out.2.2.2.2.mono hB).trans hb7).trans (bA.mono hB)).trans hb8).trans (bB.mono hB)
  have hs11 : w.heap.size ≤ (w11.setCell ⟨w.heap.size, 3, none⟩ (.slice A7 (v.nn + 1) cA7)).heap.size := by rw [setCell_size]; exact Nat.le_trans HA.out.2.2.2.2.size hb7.size
  have hkt : KT w ((w13.setCell ⟨w.heap.size, 0, none⟩ (.slice A8 (v.na + 1) cA8)).setRow (w.heap.size + 1 + 1) #[.slice A8 (v.na + 1) cA8, .int .i64 (s.ln.length : Int), .slice v.Ac v.nc v.cc, .slice A7 (v.nn + 1) cA7, .slice v.Al v.nl v.cl, .slice v.Ak v.nk v.ck, .slice v.Av v.nv v.cv, .int .i64 (s.cells + (nn : Int)), .int .i64 (z1 : Int), .int .i64 0]) := ((((KT.refl w).below HA.out.2.2.2.2).push HA.out.2.2.2.1.on hg7 HA.out.2.2.2.2.size (fun t ht => ht.2.2.1)).below bA |>.push HP.out.2.2.1.oa hg8 hs11 (fun t ht => ht.1)).below bB
  refine bodyPost_ret (v := .agg #[.slice A8 (v.na + 1) cA8, .int .i64 (s.ln.length : Int), .slice v.Ac v.nc v.cc, .slice A7 (v.nn + 1) cA7, .slice v.Al v.nl v.cl, .slice v.Ak v.nk v.ck, .slice v.Av v.nv v.cv, .int .i64 (s.cells + (nn : Int)), .int .i64 (z1 : Int), .int .i64 0]) ?_ rfl ⟨hbW, hkt, { v with An := A7, nn := v.nn + 1, cn := cA7, Aa := A8, na := v.na + 1, ca := cA8 }, _, _, _, _, rfl, ?_⟩
  case refine_2 => rw [HR2.out]; exact ⟨rfl, rfl, by simp [AS.cells, List.sum_append], h15⟩
  obtain ⟨W7, hW7⟩ : ∃ W7, W7 = (w13.setCell ⟨w.heap.size, 0, none⟩ (.slice A8 (v.na + 1) cA8)).setRow (w.heap.size + 1 + 1) #[.slice A8 (v.na + 1) cA8, .int .i64 (s.ln.length : Int), .slice v.Ac v.nc v.cc, .slice A7 (v.nn + 1) cA7, .slice v.Al v.nl v.cl, .slice v.Ak v.nk v.ck, .slice v.Av v.nv v.cv, .int .i64 (s.cells + (nn : Int)), .int .i64 (z1 : Int), .int .i64 0] := ⟨_, rfl⟩
  rw [← hW7] at r7 ⊢
  have k0 : (W7).cell? ⟨(w.heap.size + 1 + 1), 0, none⟩ = some (.slice A8 (v.na + 1) cA8) := cell_rowV r7 rfl
  have k1 : (W7).cell? ⟨(w.heap.size + 1 + 1), 1, none⟩ = some (.int .i64 (s.ln.length : Int)) := cell_rowV r7 rfl
  have k2 : (W7).cell? ⟨(w.heap.size + 1 + 1), 2, none⟩ = some (.slice v.Ac v.nc v.cc) := cell_rowV r7 rfl
  have k3 : (W7).cell? ⟨(w.heap.size + 1 + 1), 3, none⟩ = some (.slice A7 (v.nn + 1) cA7) := cell_rowV r7 rfl
  have k4 : (W7).cell? ⟨(w.heap.size + 1 + 1), 4, none⟩ = some (.slice v.Al v.nl v.cl) := cell_rowV r7 rfl
  have k5 : (W7).cell? ⟨(w.heap.size + 1 + 1), 5, none⟩ = some (.slice v.Ak v.nk v.ck) := cell_rowV r7 rfl
  have k6 : (W7).cell? ⟨(w.heap.size + 1 + 1), 6, none⟩ = some (.slice v.Av v.nv v.cv) := cell_rowV r7 rfl
  have k7 : (W7).cell? ⟨(w.heap.size + 1 + 1), 7, none⟩ = some (.int .i64 (s.cells + (nn : Int))) := cell_rowV r7 rfl
  have k8 : (W7).cell? ⟨(w.heap.size + 1 + 1), 8, none⟩ = some (.int .i64 (z1 : Int)) := cell_rowV r7 rfl
  have k9 : (W7).cell? ⟨(w.heap.size + 1 + 1), 9, none⟩ = some (.int .i64 0) := cell_rowV r7 rfl
  clear hW7 hbW hkt h15 h14 h13 bA bB
  simp [results, Tryd.results47, go_sem, k0, k1, k2, k3, k4, k5, k6, k7, k8, k9]
end Go.Proofs.YtlbhggjkcfcobaaDoor

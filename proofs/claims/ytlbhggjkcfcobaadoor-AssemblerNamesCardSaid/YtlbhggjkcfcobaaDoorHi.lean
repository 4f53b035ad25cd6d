/- The reference of the assembler: declare of a constant. (Printed by wip/mkhi.py.) -/
import Derived.Test.YtlbhggjkcfcobaaDoorHf
namespace Go.Proofs.YtlbhggjkcfcobaaDoor
open Go.RowKit Go.Proofs
set_option linter.unusedVariables false

theorem bdrew1 {B : Nat} {w w1 : World} (h : Below B w w1) : Below B w w1.drew := bdrew h 1
theorem rowV_newA {w : World} {g : Nat} {t : TypeId} {cs : Array Value} (hg : g = w.heap.size) : rowV (w.alloc (.cells cs t)) g t cs := by rw [hg]; exact rowV.new w t cs
theorem rowV_drew1 {w : World} {g : Nat} {t : TypeId} {cs : Array Value} (h : rowV w g t cs) : rowV w.drew g t cs := h
theorem rowV_alloc1 {w : World} {g : Nat} {t : TypeId} {cs : Array Value} {o : Obj} (h : rowV w g t cs) : rowV (w.alloc o) g t cs := h.below (balloc (Below.refl _ _) o) h.lt
theorem step_pushG {P : Program} {α : Type} {enc : α → List Value} {sz : Nat} {w : World} {B : Nat} {e t : TypeId} {A : Option Addr} {n c : Nat} {xs : List α} {z : Value} {bytes : Nat}
  {ops : Array Oper} {o : Oper} {a : Act} {K : Act → World → Prop} {Q : Exit → Act → World → Prop} {E : Prop} (hgd : o.guard = none) (s x : Operand) (ho : o.op = .call { callee := .builtin .append, args := #[s, x], argTypes := #[t, t] })
    (ht : P.underlying t = some (.slice e)) (hi : (P.info? e).map (fun i => (i.zero, i.size, i.bytes)) = some (some z, sz, bytes))
    (h1 : ∀ x, ∀ u ∈ enc x, u.oneCell' = true) (hz : z.cells.size = sz) (hl : ∀ x, (enc x).length = sz) (hsz : 0 < sz)
    (hs : a.eval s = .slice A n c) (hown : OwnS enc sz w B e A n c xs) (hB : B ≤ w.heap.size) (y : α) (g : Nat)
    (hx : a.eval x = .slice (some ⟨g, 0, none⟩) 1 1) (hcell : ∀ j u, (enc y)[j]? = some u → w.cell? ⟨g, j, none⟩ = some u) (hml : n + 1 ≤ maxLen) (hby : (n + 1) * bytes ≤ 140737488355328)
    (h : ∀ A2 c2 w', OwnS enc sz w' B e A2 (n + 1) c2 (xs ++ [y]) → w.grownBy w' (Value.slice A n c).ownBlock → (∀ b, (Value.slice A2 (n + 1) c2).ownBlock = some b → (Value.slice A n c).ownBlock = some b ∨ w.heap.size ≤ b) → K (a.put o.dst (.slice A2 (n + 1) c2)) w') :
    if Region.wanted o (yielded ops a.tmps) = true then Oper.wp P o a w K Q else E := by
  rw [if_pos (by simp [Region.wanted, hgd])]
  obtain ⟨i, hi0, hz0, hs1, hb⟩ := info_parts hi
  obtain ⟨v', w', hrun, h2, h3, _, h5⟩ := run_append_own_at (P := P) w B t o.type e i z sz bytes ht hi0 hz0 hs1 hb hz hsz _ n _ hown ⟨g, 0, none⟩ 1 1 (enc y) (by rw [hl, Nat.one_mul]) (fun j u hu => by
    rw [addr_add, Nat.zero_add]
    exact hcell j u hu) (h1 y) hml hby hB
  have hform : ∃ A2 c2, v' = .slice A2 (n + 1) c2 := by
    rcases h2.2 with ⟨rfl, h0⟩ | ⟨g, cap, cur, rfl, _⟩
    · exact ⟨none, 0, by rw [h0]⟩
    · exact ⟨_, _, rfl⟩
  obtain ⟨A2, c2, rfl⟩ := hform
  unfold Oper.wp execOp
  simp only [ho, resolve, invoke, builtin, Sem.run_bind, Sem.run_pure, Result.andThen_ok, List.map_toArray, List.map_cons, List.map_nil, hs, hx, hrun]
  refine h A2 c2 w' ?_ h3 (fun b hb => ?_)
  · unfold OwnS
    rw [List.flatMap_append, List.flatMap_cons, List.flatMap_nil, List.append_nil]
    exact h2
  · rcases h5 with h5 | h5
    · exact .inl (h5 ▸ hb)
    · rw [h5] at hb
      injection hb with hb
      exact .inr (by omega)
theorem one_cell {w : World} {g : Nat} {t : TypeId} {u0 : Value} (h : rowV w g t #[u0]) : ∀ j u, [u0][j]? = some u → w.cell? ⟨g, j, none⟩ = some u := fun j u hu => by
  rcases j with _ | j
  · exact cell_rowV h hu
  · simp at hu
set_option maxRecDepth 100000 in
set_option maxHeartbeats 16000000 in
theorem declare_const (B : Nat) (w : World) (s : AS) (v : SVs) (n : Nat) (r : List Wd) (at_ er : Int) (h : RS B w s.arrs s.an s.ln (s.cn.map (·.1)) (s.cn.map (·.2)) s.code v) (hF : Formed s) (hB : B ≤ w.heap.size) (hk : v.nk ≤ 90000) (hx0' : (nextW n r).1.length ≤ 9000) (hx1' : (nextW n r.tail).1.length ≤ 9000) :
    Calls Tryd.prog 47 #[.agg #[.slice v.Aa v.na v.ca, .int .i64 (s.ln.length : Int), .slice v.Ac v.nc v.cc, .slice v.An v.nn v.cn, .slice v.Al v.nl v.cl, .slice v.Ak v.nk v.ck, .slice v.Av v.nv v.cv, .int .i64 s.cells, .int .i64 at_, .int .i64 er], .string (strB [99, 111, 110, 115, 116]), .agg #[.string (strB (nextW n r).1), .int .i64 ((nextW n r).2 : Int), .string (strB (nextW n r.tail).1), .int .i64 ((nextW n r.tail).2 : Int)]] w (DecP B w (constL n s r)) := by
  obtain ⟨res, hres⟩ : ∃ res, res = constL n s r := ⟨_, rfl⟩
  rw [← hres]
  have HRES := hres.trans (constL_named n s r)
  obtain ⟨y, hy⟩ : ∃ y : List UInt8, y = [99, 111, 110, 115, 116] := ⟨_, rfl⟩
  rw [← hy] at HRES ⊢
  obtain ⟨x0, z0, hw0⟩ : ∃ x z, nextW n r = (x, z) := ⟨_, _, rfl⟩
  obtain ⟨x1, z1, hw1⟩ : ∃ x z, nextW n r.tail = (x, z) := ⟨_, _, rfl⟩
  rw [hw0] at hx0' HRES ⊢
  rw [hw1] at hx1' ⊢
  try rw [hw1] at HRES
  dsimp only at hx0' hx1' HRES ⊢
  have hkn : v.nn ≤ 8 := by have e := h.on.length (fun _ => rfl) (by decide); have := hF.an; have := hF.few; omega
  have hkl : v.nl ≤ 16 := by have e := h.ol.length (fun _ => rfl) (by decide); have := hF.locs; omega
  have hna : v.na ≤ 8 := by have e := h.oa.length (fun _ => rfl) (by decide); have := hF.few; omega
  have hC0 := cells_nonneg hF
  have hC1 := hF.cells
  obtain ⟨b4, r0, r1, r2⟩ := three_allocW w #[.slice v.Aa v.na v.ca, .int .i64 (s.ln.length : Int), .slice v.Ac v.nc v.cc, .slice v.An v.nn v.cn, .slice v.Al v.nl v.cl, .slice v.Ak v.nk v.ck, .slice v.Av v.nv v.cv, .int .i64 s.cells, .int .i64 (z0 : Int), .int .i64 er] #[.string (strB x0), .int .i64 (z0 : Int), .string (strB x1), .int .i64 (z1 : Int)] #[.slice none 0 0, .int .i64 0, .slice none 0 0, .slice none 0 0, .slice none 0 0, .slice none 0 0, .slice none 0 0, .int .i64 0, .int .i64 0, .int .i64 0] 76 105 76
  have h4 := h.below b4
  obtain ⟨w4, hw4⟩ : ∃ w4, w4 = (((w.alloc (.cells #[.slice v.Aa v.na v.ca, .int .i64 (s.ln.length : Int), .slice v.Ac v.nc v.cc, .slice v.An v.nn v.cn, .slice v.Al v.nl v.cl, .slice v.Ak v.nk v.ck, .slice v.Av v.nv v.cv, .int .i64 s.cells, .int .i64 (z0 : Int), .int .i64 er] 76)).alloc (.cells #[.string (strB x0), .int .i64 (z0 : Int), .string (strB x1), .int .i64 (z1 : Int)] 105)).alloc (.cells #[.slice none 0 0, .int .i64 0, .slice none 0 0, .slice none 0 0, .slice none 0 0, .slice none 0 0, .slice none 0 0, .int .i64 0, .int .i64 0, .int .i64 0] 76)) := ⟨_, rfl⟩
  rw [← hw4] at r0 r1 r2 h4 b4
  have HN := Lib.hid (namedR_any B w4 s.arrs s.code s v (s.ln.length : Int) s.cells (z0 : Int) er h4 y x0 hx0' (by omega) (by omega) (by omega))
  have HW := Lib.hid hw4
  have H4 := Lib.hid (And.intro r0 (And.intro r1 (And.intro r2 (And.intro h4 b4))))
  have HF := Lib.hid hF
  clear r0 r1 r2 h4 b4 hw4 hw0 hw1 h hF
  obtain ⟨nn, qe, hq⟩ : ∃ nn qe, valueL s x1 = (nn, qe) := ⟨_, _, rfl⟩
  rw [hq] at HRES
  dsimp only at HRES
  have hnn : nn < 4294967296 := by have := valueL_lt HF.out.cn x1; rw [hq] at this; exact this
  have HQ := Lib.hid hq
  clear hq
  replace HRES := Lib.hid HRES
  have y3 : ((strB y).toList == ([108, 111, 99, 97, 108] : List UInt8)) = false := by rw [strB_toList, beq_dec, hy]; decide
  have y4 : ((strB y).toList == ([99, 111, 110, 115, 116] : List UInt8)) = true := by rw [strB_toList, beq_dec, hy]; decide
  clear hy hres
  go_enter Tryd.func47, Tryd.ntmps47
  go_wp2_with fail
  rw [← HW.out]
  refine HN.out.mono ?_
  rintro e w5 ⟨rfl, hb5⟩
  have r05 := H4.out.1.below hb5 H4.out.1.lt
  have r15 := H4.out.2.1.below hb5 H4.out.2.1.lt
  have r25 := H4.out.2.2.1.below hb5 H4.out.2.2.1.lt
  have h5 := H4.out.2.2.2.1.below hb5
  have b5 := H4.out.2.2.2.2.trans (hb5.mono H4.out.2.2.2.2.size)
  have c0 : (w5).cell? ⟨w.heap.size, 0, none⟩ = some (.slice v.Aa v.na v.ca) := cell_rowV r05 rfl
  have c1 : (w5).cell? ⟨w.heap.size, 1, none⟩ = some (.int .i64 (s.ln.length : Int)) := cell_rowV r05 rfl
  have c2 : (w5).cell? ⟨w.heap.size, 2, none⟩ = some (.slice v.Ac v.nc v.cc) := cell_rowV r05 rfl
  have c3 : (w5).cell? ⟨w.heap.size, 3, none⟩ = some (.slice v.An v.nn v.cn) := cell_rowV r05 rfl
  have c4 : (w5).cell? ⟨w.heap.size, 4, none⟩ = some (.slice v.Al v.nl v.cl) := cell_rowV r05 rfl
  have c5 : (w5).cell? ⟨w.heap.size, 5, none⟩ = some (.slice v.Ak v.nk v.ck) := cell_rowV r05 rfl
  have c6 : (w5).cell? ⟨w.heap.size, 6, none⟩ = some (.slice v.Av v.nv v.cv) := cell_rowV r05 rfl
  have c7 : (w5).cell? ⟨w.heap.size, 7, none⟩ = some (.int .i64 s.cells) := cell_rowV r05 rfl
  have c8 : (w5).cell? ⟨w.heap.size, 8, none⟩ = some (.int .i64 (z0 : Int)) := cell_rowV r05 rfl
  have c9 : (w5).cell? ⟨w.heap.size, 9, none⟩ = some (.int .i64 er) := cell_rowV r05 rfl
  have d0 : (w5).cell? ⟨(w.heap.size + 1), 0, none⟩ = some (.string (strB x0)) := cell_rowV r15 rfl
  have d1 : (w5).cell? ⟨(w.heap.size + 1), 1, none⟩ = some (.int .i64 (z0 : Int)) := cell_rowV r15 rfl
  have d2 : (w5).cell? ⟨(w.heap.size + 1), 2, none⟩ = some (.string (strB x1)) := cell_rowV r15 rfl
  have d3 : (w5).cell? ⟨(w.heap.size + 1), 3, none⟩ = some (.int .i64 (z1 : Int)) := cell_rowV r15 rfl
  have f9 := frozen_rowV' r05 9
  obtain ⟨ne, hne⟩ : ∃ ne, ne = namedE s y x0 := ⟨_, rfl⟩
  rw [← hne] at HRES ⊢
  have r06 : rowV (w5.setCell ⟨w.heap.size, 9, none⟩ (.int .i64 ne)) w.heap.size 76 #[.slice v.Aa v.na v.ca, .int .i64 (s.ln.length : Int), .slice v.Ac v.nc v.cc, .slice v.An v.nn v.cn, .slice v.Al v.nl v.cl, .slice v.Ak v.nk v.ck, .slice v.Av v.nv v.cv, .int .i64 s.cells, .int .i64 (z0 : Int), .int .i64 ne] := r05.set 9 (.int .i64 ne)
  have r16 := r15.setFar (p := ⟨w.heap.size, 9, none⟩) (by show w.heap.size + 1 ≠ w.heap.size; omega) (.int .i64 ne)
  have r26 := r25.setFar (p := ⟨w.heap.size, 9, none⟩) (by show w.heap.size + 1 + 1 ≠ w.heap.size; omega) (.int .i64 ne)
  have h6 := h5.set r05 9 (.int .i64 ne)
  have b6 := b5.trans (Below.setG (w := w5) (j := 9) (Nat.le_refl w.heap.size) (.int .i64 ne))
  have H6 := Lib.hid (And.intro r06 (And.intro r16 (And.intro r26 (And.intro h6 b6))))
  clear hne hb5 r05 r15 r25 h5 b5 r06 r16 r26 h6 b6 H4 HW HN
  by_cases hne : ne ≠ 0
  · have Z := Lib.hid (HRES.out.trans (if_pos hne))
    have dne : (ne != 0) = true := by simpa using hne
    clear HRES hne
    go_wp2_with (refine wpList_store_row rfl 76 (.tmp 6) (.tmp 23) rfl _ #[.slice v.Aa v.na v.ca, .int .i64 (s.ln.length : Int), .slice v.Ac v.nc v.cc, .slice v.An v.nn v.cn, .slice v.Al v.nl v.cl, .slice v.Ak v.nk v.ck, .slice v.Av v.nv v.cv, .int .i64 s.cells, .int .i64 (z0 : Int), .int .i64 ne] rfl rfl _ _ H6.out.2.2.1 infoS rfl (by simp [Value.oneCell']) ?_)
    have r7 : rowV ((w5.setCell ⟨w.heap.size, 9, none⟩ (.int .i64 ne)).setRow (w.heap.size + 1 + 1) #[.slice v.Aa v.na v.ca, .int .i64 (s.ln.length : Int), .slice v.Ac v.nc v.cc, .slice v.An v.nn v.cn, .slice v.Al v.nl v.cl, .slice v.Ak v.nk v.ck, .slice v.Av v.nv v.cv, .int .i64 s.cells, .int .i64 (z0 : Int), .int .i64 ne]) (w.heap.size + 1 + 1) 76 #[.slice v.Aa v.na v.ca, .int .i64 (s.ln.length : Int), .slice v.Ac v.nc v.cc, .slice v.An v.nn v.cn, .slice v.Al v.nl v.cl, .slice v.Ak v.nk v.ck, .slice v.Av v.nv v.cv, .int .i64 s.cells, .int .i64 (z0 : Int), .int .i64 ne] := setRow_heap (w5.setCell ⟨w.heap.size, 9, none⟩ (.int .i64 ne)) (w.heap.size + 1 + 1) _ #[.slice v.Aa v.na v.ca, .int .i64 (s.ln.length : Int), .slice v.Ac v.nc v.cc, .slice v.An v.nn v.cn, .slice v.Al v.nl v.cl, .slice v.Ak v.nk v.ck, .slice v.Av v.nv v.cv, .int .i64 s.cells, .int .i64 (z0 : Int), .int .i64 ne] _ _ H6.out.2.2.1
    have g7 := grownBy_setRow (w5.setCell ⟨w.heap.size, 9, none⟩ (.int .i64 ne)) (w.heap.size + 1 + 1) #[.slice v.Aa v.na v.ca, .int .i64 (s.ln.length : Int), .slice v.Ac v.nc v.cc, .slice v.An v.nn v.cn, .slice v.Al v.nl v.cl, .slice v.Ak v.nk v.ck, .slice v.Av v.nv v.cv, .int .i64 s.cells, .int .i64 (z0 : Int), .int .i64 ne]
    have hbW : Below w.heap.size w ((w5.setCell ⟨w.heap.size, 9, none⟩ (.int .i64 ne)).setRow (w.heap.size + 1 + 1) #[.slice v.Aa v.na v.ca, .int .i64 (s.ln.length : Int), .slice v.Ac v.nc v.cc, .slice v.An v.nn v.cn, .slice v.Al v.nl v.cl, .slice v.Ak v.nk v.ck, .slice v.Av v.nv v.cv, .int .i64 s.cells, .int .i64 (z0 : Int), .int .i64 ne]) := H6.out.2.2.2.2.trans (Below.setRowG (Below.refl _ _) (by omega) _)
    refine bodyPost_ret (v := .agg #[.slice v.Aa v.na v.ca, .int .i64 (s.ln.length : Int), .slice v.Ac v.nc v.cc, .slice v.An v.nn v.cn, .slice v.Al v.nl v.cl, .slice v.Ak v.nk v.ck, .slice v.Av v.nv v.cv, .int .i64 s.cells, .int .i64 (z0 : Int), .int .i64 ne]) ?_ rfl ⟨hbW.mono hB, (KT.refl w).below hbW, v, _, _, _, _, rfl, ?_⟩
    case refine_2 => rw [Z.out]; exact ⟨rfl, rfl⟩
    obtain ⟨W7, hW7⟩ : ∃ W7, W7 = (w5.setCell ⟨w.heap.size, 9, none⟩ (.int .i64 ne)).setRow (w.heap.size + 1 + 1) #[.slice v.Aa v.na v.ca, .int .i64 (s.ln.length : Int), .slice v.Ac v.nc v.cc, .slice v.An v.nn v.cn, .slice v.Al v.nl v.cl, .slice v.Ak v.nk v.ck, .slice v.Av v.nv v.cv, .int .i64 s.cells, .int .i64 (z0 : Int), .int .i64 ne] := ⟨_, rfl⟩
    rw [← hW7] at r7 ⊢
    have k0 : (W7).cell? ⟨(w.heap.size + 1 + 1), 0, none⟩ = some (.slice v.Aa v.na v.ca) := cell_rowV r7 rfl
    have k1 : (W7).cell? ⟨(w.heap.size + 1 + 1), 1, none⟩ = some (.int .i64 (s.ln.length : Int)) := cell_rowV r7 rfl
    have k2 : (W7).cell? ⟨(w.heap.size + 1 + 1), 2, none⟩ = some (.slice v.Ac v.nc v.cc) := cell_rowV r7 rfl
    have k3 : (W7).cell? ⟨(w.heap.size + 1 + 1), 3, none⟩ = some (.slice v.An v.nn v.cn) := cell_rowV r7 rfl
    have k4 : (W7).cell? ⟨(w.heap.size + 1 + 1), 4, none⟩ = some (.slice v.Al v.nl v.cl) := cell_rowV r7 rfl
    have k5 : (W7).cell? ⟨(w.heap.size + 1 + 1), 5, none⟩ = some (.slice v.Ak v.nk v.ck) := cell_rowV r7 rfl
    have k6 : (W7).cell? ⟨(w.heap.size + 1 + 1), 6, none⟩ = some (.slice v.Av v.nv v.cv) := cell_rowV r7 rfl
    have k7 : (W7).cell? ⟨(w.heap.size + 1 + 1), 7, none⟩ = some (.int .i64 s.cells) := cell_rowV r7 rfl
    have k8 : (W7).cell? ⟨(w.heap.size + 1 + 1), 8, none⟩ = some (.int .i64 (z0 : Int)) := cell_rowV r7 rfl
    have k9 : (W7).cell? ⟨(w.heap.size + 1 + 1), 9, none⟩ = some (.int .i64 ne) := cell_rowV r7 rfl
    clear hW7 hbW
    simp [results, Tryd.results47, go_sem, k0, k1, k2, k3, k4, k5, k6, k7, k8, k9]
  obtain rfl : ne = 0 := by simpa using hne
  have HR0 := Lib.hid (HRES.out.trans (if_neg hne))
  clear HRES hne
  have r07 : rowV ((w5.setCell ⟨w.heap.size, 9, none⟩ (.int .i64 0)).setCell ⟨w.heap.size, 8, none⟩ (.int .i64 (z1 : Int))) w.heap.size 76 #[.slice v.Aa v.na v.ca, .int .i64 (s.ln.length : Int), .slice v.Ac v.nc v.cc, .slice v.An v.nn v.cn, .slice v.Al v.nl v.cl, .slice v.Ak v.nk v.ck, .slice v.Av v.nv v.cv, .int .i64 s.cells, .int .i64 (z1 : Int), .int .i64 0] := H6.out.1.set 8 (.int .i64 (z1 : Int))
  have r17 := H6.out.2.1.setFar (p := ⟨w.heap.size, 8, none⟩) (by show w.heap.size + 1 ≠ w.heap.size; omega) (.int .i64 (z1 : Int))
  have r27 := H6.out.2.2.1.setFar (p := ⟨w.heap.size, 8, none⟩) (by show w.heap.size + 1 + 1 ≠ w.heap.size; omega) (.int .i64 (z1 : Int))
  have h7 := H6.out.2.2.2.1.set H6.out.1 8 (.int .i64 (z1 : Int))
  have b7 := H6.out.2.2.2.2.trans (Below.setG (w := w5.setCell ⟨w.heap.size, 9, none⟩ (.int .i64 0)) (j := 8) (Nat.le_refl w.heap.size) (.int .i64 (z1 : Int)))
  have HV := valueR_any B ((w5.setCell ⟨w.heap.size, 9, none⟩ (.int .i64 0)).setCell ⟨w.heap.size, 8, none⟩ (.int .i64 (z1 : Int))) s.arrs s.an s.ln s.code s v (s.ln.length : Int) s.cells (z1 : Int) 0 h7 x1 hx1' (by omega)
  rw [HQ.out] at HV
  replace HV := Lib.hid HV
  have H7 := Lib.hid (And.intro r07 (And.intro r17 (And.intro r27 (And.intro h7 b7))))
  have f8 : w5.frozen? ⟨w.heap.size, 8, none⟩ = false := by
    have := frozen_rowV' H6.out.1 8
    simpa [go_sem] using this
  clear r07 r17 r27 h7 b7 H6
  go_wp2_with fail
  refine HV.out.mono ?_
  rintro e w8 ⟨rfl, hb8⟩
  have r08 := H7.out.1.below hb8 H7.out.1.lt
  have r18 := H7.out.2.1.below hb8 H7.out.2.1.lt
  have r28 := H7.out.2.2.1.below hb8 H7.out.2.2.1.lt
  have h8 := H7.out.2.2.2.1.below hb8
  have b8 := H7.out.2.2.2.2.trans (hb8.mono H7.out.2.2.2.2.size)
  clear c0 c1 c2 c3 c4 c5 c6 c7 c8 c9 d0 d1 d2 d3 f9 f8
  have c0 : (w8).cell? ⟨w.heap.size, 0, none⟩ = some (.slice v.Aa v.na v.ca) := cell_rowV r08 rfl
  have c1 : (w8).cell? ⟨w.heap.size, 1, none⟩ = some (.int .i64 (s.ln.length : Int)) := cell_rowV r08 rfl
  have c2 : (w8).cell? ⟨w.heap.size, 2, none⟩ = some (.slice v.Ac v.nc v.cc) := cell_rowV r08 rfl
  have c3 : (w8).cell? ⟨w.heap.size, 3, none⟩ = some (.slice v.An v.nn v.cn) := cell_rowV r08 rfl
  have c4 : (w8).cell? ⟨w.heap.size, 4, none⟩ = some (.slice v.Al v.nl v.cl) := cell_rowV r08 rfl
  have c5 : (w8).cell? ⟨w.heap.size, 5, none⟩ = some (.slice v.Ak v.nk v.ck) := cell_rowV r08 rfl
  have c6 : (w8).cell? ⟨w.heap.size, 6, none⟩ = some (.slice v.Av v.nv v.cv) := cell_rowV r08 rfl
  have c7 : (w8).cell? ⟨w.heap.size, 7, none⟩ = some (.int .i64 s.cells) := cell_rowV r08 rfl
  have c8 : (w8).cell? ⟨w.heap.size, 8, none⟩ = some (.int .i64 (z1 : Int)) := cell_rowV r08 rfl
  have c9 : (w8).cell? ⟨w.heap.size, 9, none⟩ = some (.int .i64 0) := cell_rowV r08 rfl
  have d0 : (w8).cell? ⟨(w.heap.size + 1), 0, none⟩ = some (.string (strB x0)) := cell_rowV r18 rfl
  have d1 : (w8).cell? ⟨(w.heap.size + 1), 1, none⟩ = some (.int .i64 (z0 : Int)) := cell_rowV r18 rfl
  have d2 : (w8).cell? ⟨(w.heap.size + 1), 2, none⟩ = some (.string (strB x1)) := cell_rowV r18 rfl
  have d3 : (w8).cell? ⟨(w.heap.size + 1), 3, none⟩ = some (.int .i64 (z1 : Int)) := cell_rowV r18 rfl
  have f9 := frozen_rowV' r08 9
  have f7 := frozen_rowV' r08 7
  have f3 := frozen_rowV' r08 3
  have f0 := frozen_rowV' r08 0
  have r09 : rowV (w8.setCell ⟨w.heap.size, 9, none⟩ (.int .i64 qe)) w.heap.size 76 #[.slice v.Aa v.na v.ca, .int .i64 (s.ln.length : Int), .slice v.Ac v.nc v.cc, .slice v.An v.nn v.cn, .slice v.Al v.nl v.cl, .slice v.Ak v.nk v.ck, .slice v.Av v.nv v.cv, .int .i64 s.cells, .int .i64 (z1 : Int), .int .i64 qe] := r08.set 9 (.int .i64 qe)
  have r19 := r18.setFar (p := ⟨w.heap.size, 9, none⟩) (by show w.heap.size + 1 ≠ w.heap.size; omega) (.int .i64 qe)
  have r29 := r28.setFar (p := ⟨w.heap.size, 9, none⟩) (by show w.heap.size + 1 + 1 ≠ w.heap.size; omega) (.int .i64 qe)
  have h9 := h8.set r08 9 (.int .i64 qe)
  have b9 := b8.trans (Below.setG (w := w8) (j := 9) (Nat.le_refl w.heap.size) (.int .i64 qe))
  have H9 := Lib.hid (And.intro r09 (And.intro r19 (And.intro r29 (And.intro h9 b9))))
  clear hb8 r08 r18 r28 h8 b8 r09 r19 r29 h9 b9 H7 HV
  by_cases hqe : qe ≠ 0
  · have Z := Lib.hid (HR0.out.trans (if_pos hqe))
    have dqe : (qe != 0) = true := by simpa using hqe
    clear HR0 hqe
    go_wp2_with (refine wpList_store_row rfl 76 (.tmp 6) (.tmp 57) rfl _ #[.slice v.Aa v.na v.ca, .int .i64 (s.ln.length : Int), .slice v.Ac v.nc v.cc, .slice v.An v.nn v.cn, .slice v.Al v.nl v.cl, .slice v.Ak v.nk v.ck, .slice v.Av v.nv v.cv, .int .i64 s.cells, .int .i64 (z1 : Int), .int .i64 qe] rfl rfl _ _ H9.out.2.2.1 infoS rfl (by simp [Value.oneCell']) ?_)
    have r7 : rowV ((w8.setCell ⟨w.heap.size, 9, none⟩ (.int .i64 qe)).setRow (w.heap.size + 1 + 1) #[.slice v.Aa v.na v.ca, .int .i64 (s.ln.length : Int), .slice v.Ac v.nc v.cc, .slice v.An v.nn v.cn, .slice v.Al v.nl v.cl, .slice v.Ak v.nk v.ck, .slice v.Av v.nv v.cv, .int .i64 s.cells, .int .i64 (z1 : Int), .int .i64 qe]) (w.heap.size + 1 + 1) 76 #[.slice v.Aa v.na v.ca, .int .i64 (s.ln.length : Int), .slice v.Ac v.nc v.cc, .slice v.An v.nn v.cn, .slice v.Al v.nl v.cl, .slice v.Ak v.nk v.ck, .slice v.Av v.nv v.cv, .int .i64 s.cells, .int .i64 (z1 : Int), .int .i64 qe] := setRow_heap (w8.setCell ⟨w.heap.size, 9, none⟩ (.int .i64 qe)) (w.heap.size + 1 + 1) _ #[.slice v.Aa v.na v.ca, .int .i64 (s.ln.length : Int), .slice v.Ac v.nc v.cc, .slice v.An v.nn v.cn, .slice v.Al v.nl v.cl, .slice v.Ak v.nk v.ck, .slice v.Av v.nv v.cv, .int .i64 s.cells, .int .i64 (z1 : Int), .int .i64 qe] _ _ H9.out.2.2.1
    have g7 := grownBy_setRow (w8.setCell ⟨w.heap.size, 9, none⟩ (.int .i64 qe)) (w.heap.size + 1 + 1) #[.slice v.Aa v.na v.ca, .int .i64 (s.ln.length : Int), .slice v.Ac v.nc v.cc, .slice v.An v.nn v.cn, .slice v.Al v.nl v.cl, .slice v.Ak v.nk v.ck, .slice v.Av v.nv v.cv, .int .i64 s.cells, .int .i64 (z1 : Int), .int .i64 qe]
    have hbW : Below w.heap.size w ((w8.setCell ⟨w.heap.size, 9, none⟩ (.int .i64 qe)).setRow (w.heap.size + 1 + 1) #[.slice v.Aa v.na v.ca, .int .i64 (s.ln.length : Int), .slice v.Ac v.nc v.cc, .slice v.An v.nn v.cn, .slice v.Al v.nl v.cl, .slice v.Ak v.nk v.ck, .slice v.Av v.nv v.cv, .int .i64 s.cells, .int .i64 (z1 : Int), .int .i64 qe]) := H9.out.2.2.2.2.trans (Below.setRowG (Below.refl _ _) (by omega) _)
    refine bodyPost_ret (v := .agg #[.slice v.Aa v.na v.ca, .int .i64 (s.ln.length : Int), .slice v.Ac v.nc v.cc, .slice v.An v.nn v.cn, .slice v.Al v.nl v.cl, .slice v.Ak v.nk v.ck, .slice v.Av v.nv v.cv, .int .i64 s.cells, .int .i64 (z1 : Int), .int .i64 qe]) ?_ rfl ⟨hbW.mono hB, (KT.refl w).below hbW, v, _, _, _, _, rfl, ?_⟩
    case refine_2 => rw [Z.out]; exact ⟨rfl, rfl⟩
    obtain ⟨W7, hW7⟩ : ∃ W7, W7 = (w8.setCell ⟨w.heap.size, 9, none⟩ (.int .i64 qe)).setRow (w.heap.size + 1 + 1) #[.slice v.Aa v.na v.ca, .int .i64 (s.ln.length : Int), .slice v.Ac v.nc v.cc, .slice v.An v.nn v.cn, .slice v.Al v.nl v.cl, .slice v.Ak v.nk v.ck, .slice v.Av v.nv v.cv, .int .i64 s.cells, .int .i64 (z1 : Int), .int .i64 qe] := ⟨_, rfl⟩
    rw [← hW7] at r7 ⊢
    have k0 : (W7).cell? ⟨(w.heap.size + 1 + 1), 0, none⟩ = some (.slice v.Aa v.na v.ca) := cell_rowV r7 rfl
    have k1 : (W7).cell? ⟨(w.heap.size + 1 + 1), 1, none⟩ = some (.int .i64 (s.ln.length : Int)) := cell_rowV r7 rfl
    have k2 : (W7).cell? ⟨(w.heap.size + 1 + 1), 2, none⟩ = some (.slice v.Ac v.nc v.cc) := cell_rowV r7 rfl
    have k3 : (W7).cell? ⟨(w.heap.size + 1 + 1), 3, none⟩ = some (.slice v.An v.nn v.cn) := cell_rowV r7 rfl
    have k4 : (W7).cell? ⟨(w.heap.size + 1 + 1), 4, none⟩ = some (.slice v.Al v.nl v.cl) := cell_rowV r7 rfl
    have k5 : (W7).cell? ⟨(w.heap.size + 1 + 1), 5, none⟩ = some (.slice v.Ak v.nk v.ck) := cell_rowV r7 rfl
    have k6 : (W7).cell? ⟨(w.heap.size + 1 + 1), 6, none⟩ = some (.slice v.Av v.nv v.cv) := cell_rowV r7 rfl
    have k7 : (W7).cell? ⟨(w.heap.size + 1 + 1), 7, none⟩ = some (.int .i64 s.cells) := cell_rowV r7 rfl
    have k8 : (W7).cell? ⟨(w.heap.size + 1 + 1), 8, none⟩ = some (.int .i64 (z1 : Int)) := cell_rowV r7 rfl
    have k9 : (W7).cell? ⟨(w.heap.size + 1 + 1), 9, none⟩ = some (.int .i64 qe) := cell_rowV r7 rfl
    clear hW7 hbW
    simp [results, Tryd.results47, go_sem, k0, k1, k2, k3, k4, k5, k6, k7, k8, k9]
  obtain rfl : qe = 0 := by simpa using hqe
  have HR1 := Lib.hid (HR0.out.trans (if_neg hqe))
  clear HR0 hqe
  have hlv : v.nv = v.nk := by
    have e1 := H9.out.2.2.2.1.ok.length (fun _ => rfl) (by decide)
    have e2 := H9.out.2.2.2.1.ov.length (fun _ => rfl) (by decide)
    rw [List.length_map] at e1 e2
    omega
  have hmk : Hid (v.nk + 1 ≤ maxLen ∧ (v.nk + 1) * 16 ≤ 140737488355328) := ⟨by simp [maxLen]; omega, by omega⟩
  have hmv : Hid (v.nv + 1 ≤ maxLen ∧ (v.nv + 1) * 8 ≤ 140737488355328) := ⟨by simp [maxLen]; omega, by omega⟩
  have hBW : Hid (B ≤ (w8.setCell ⟨w.heap.size, 9, none⟩ (.int .i64 0)).heap.size) := Nat.le_trans hB H9.out.2.2.2.2.size
  have HBP : Hid (∀ Y : World, Below B w Y → B ≤ Y.heap.size) := fun Y h => Nat.le_trans hB h.size
  have ltA : w.heap.size + 1 < w8.heap.size := by have := H9.out.2.1.lt; rwa [setCell_size] at this
  have lt0 : w.heap.size < w8.heap.size := by omega
  have HK1 : Hid (∀ (X Y : World) (A2 : Option Addr) (c2 : Nat), OwnS encSt 1 Y B 9 A2 (v.nk + 1) c2 ((s.cn.map (·.1)) ++ [x0]) → X.grownBy Y (Value.slice v.Ak v.nk v.ck).ownBlock → (∀ b, (Value.slice A2 (v.nk + 1) c2).ownBlock = some b → (Value.slice v.Ak v.nk v.ck).ownBlock = some b ∨ X.heap.size ≤ b) → Below (w8.setCell ⟨w.heap.size, 9, none⟩ (.int .i64 0)).heap.size (w8.setCell ⟨w.heap.size, 9, none⟩ (.int .i64 0)) X → rowV Y w.heap.size 76 #[.slice v.Aa v.na v.ca, .int .i64 (s.ln.length : Int), .slice v.Ac v.nc v.cc, .slice v.An v.nn v.cn, .slice v.Al v.nl v.cl, .slice v.Ak v.nk v.ck, .slice v.Av v.nv v.cv, .int .i64 s.cells, .int .i64 (z1 : Int), .int .i64 0] ∧ rowV Y (w.heap.size + 1) 105 #[.string (strB x0), .int .i64 (z0 : Int), .string (strB x1), .int .i64 (z1 : Int)] ∧ rowV Y (w.heap.size + 1 + 1) 76 #[.slice none 0 0, .int .i64 0, .slice none 0 0, .slice none 0 0, .slice none 0 0, .slice none 0 0, .slice none 0 0, .int .i64 0, .int .i64 0, .int .i64 0] ∧ RS B Y s.arrs s.an s.ln ((s.cn.map (·.1)) ++ [x0]) (s.cn.map (·.2)) s.code { v with Ak := A2, nk := v.nk + 1, ck := c2 } ∧ Below B w Y ∧ KT w Y ∧ ∀ g cs, rowV X g 3 cs → rowV Y g 3 cs) := fun X Y A2 c2 ho hg hf hb => by
    obtain ⟨e0, e1, e2, h3, b4⟩ := H9.out
    have x0' := e0.below hb e0.lt
    have x1' := e1.below hb e1.lt
    have x2' := e2.below hb e2.lt
    have hX := h3.below hb
    have hsz := Nat.le_trans b4.size hb.size
    refine ⟨x0'.grown hg (fun e => (hX.ok.ne_row x0' (by decide)) _ e.symm rfl), x1'.grown hg (fun e => (hX.ok.ne_row x1' (by decide)) _ e.symm rfl), x2'.grown hg (fun e => (hX.ok.ne_row x2' (by decide)) _ e.symm rfl), hX.push_kn ho hg hf, ?_, ?_, fun g cs hr => hr.grown hg (fun e => (hX.ok.ne_row hr (by decide)) _ e.symm rfl)⟩
    · exact ((b4.trans (hb.mono b4.size)).mono hB).trans ((Below.refl B X).grown hg (Nat.le_trans hB hsz) (fun k hk => (World.ownsRow.lt hX.ok k hk).1))
    · exact ((KT.refl w).below (b4.trans (hb.mono b4.size))).push hX.ok hg hsz (fun t ht => ht.2.2.1)
  have HK2 : Hid (∀ (Z X Y : World) (v1 : SVs) (A2 : Option Addr) (c2 : Nat), rowV Z w.heap.size 76 #[.slice v.Aa v.na v.ca, .int .i64 (s.ln.length : Int), .slice v.Ac v.nc v.cc, .slice v.An v.nn v.cn, .slice v.Al v.nl v.cl, .slice v.Ak v.nk v.ck, .slice v.Av v.nv v.cv, .int .i64 s.cells, .int .i64 (z1 : Int), .int .i64 0] → rowV Z (w.heap.size + 1 + 1) 76 #[.slice none 0 0, .int .i64 0, .slice none 0 0, .slice none 0 0, .slice none 0 0, .slice none 0 0, .slice none 0 0, .int .i64 0, .int .i64 0, .int .i64 0] → RS B Z s.arrs s.an s.ln ((s.cn.map (·.1)) ++ [x0]) (s.cn.map (·.2)) s.code v1 → Below B w Z → KT w Z → OwnS encIv 1 Y B 3 A2 (v1.nv + 1) c2 ((s.cn.map (·.2)) ++ [nn]) → X.grownBy Y (Value.slice v1.Av v1.nv v1.cv).ownBlock → (∀ b, (Value.slice A2 (v1.nv + 1) c2).ownBlock = some b → (Value.slice v1.Av v1.nv v1.cv).ownBlock = some b ∨ X.heap.size ≤ b) → Below Z.heap.size Z X → rowV Y w.heap.size 76 #[.slice v.Aa v.na v.ca, .int .i64 (s.ln.length : Int), .slice v.Ac v.nc v.cc, .slice v.An v.nn v.cn, .slice v.Al v.nl v.cl, .slice v.Ak v.nk v.ck, .slice v.Av v.nv v.cv, .int .i64 s.cells, .int .i64 (z1 : Int), .int .i64 0] ∧ rowV Y (w.heap.size + 1 + 1) 76 #[.slice none 0 0, .int .i64 0, .slice none 0 0, .slice none 0 0, .slice none 0 0, .slice none 0 0, .slice none 0 0, .int .i64 0, .int .i64 0, .int .i64 0] ∧ RS B Y s.arrs s.an s.ln ((s.cn.map (·.1)) ++ [x0]) ((s.cn.map (·.2)) ++ [nn]) s.code { v1 with Av := A2, nv := v1.nv + 1, cv := c2 } ∧ Below B w Y ∧ KT w Y) := fun Z X Y v1 A2 c2 e0 e2 h3 b4 kt ho hg hf hb => by
    have x0' := e0.below hb e0.lt
    have x2' := e2.below hb e2.lt
    have hX := h3.below hb
    have hsz : w.heap.size ≤ X.heap.size := Nat.le_trans b4.size hb.size
    refine ⟨x0'.grown hg (fun e => (hX.ov.ne_row x0' (by decide)) _ e.symm rfl), x2'.grown hg (fun e => (hX.ov.ne_row x2' (by decide)) _ e.symm rfl), hX.push_kv ho hg hf, ?_, ?_⟩
    · exact (b4.trans (hb.mono (Nat.le_trans hB b4.size))).trans ((Below.refl B X).grown hg (Nat.le_trans hB hsz) (fun k hk => (World.ownsRow.lt hX.ov k hk).1))
    · exact (kt.below (hb.mono b4.size)).push hX.ov hg hsz (fun t ht => ht.2.2.2)
  have HLV := Lib.hid hlv
  clear hlv
  have HX := H9
  have k05 : (w8.setCell ⟨w.heap.size, 9, none⟩ (.int .i64 0)).cell? ⟨w.heap.size, 5, none⟩ = some (.slice v.Ak v.nk v.ck) := cell_rowV H9.out.1 rfl
  have k06 : (w8.setCell ⟨w.heap.size, 9, none⟩ (.int .i64 0)).cell? ⟨w.heap.size, 6, none⟩ = some (.slice v.Av v.nv v.cv) := cell_rowV H9.out.1 rfl
  go_upto_region 15 with fail
  go_cut [7] from 60 (fun s7 wx => s7 = .int .i64 (nn : Int) ∧ ∃ (A7 : Option Addr) (cA7 : Nat) (A8 : Option Addr) (cA8 : Nat) (w13 : World), Hid (rowV w13 w.heap.size 76 #[.slice v.Aa v.na v.ca, .int .i64 (s.ln.length : Int), .slice v.Ac v.nc v.cc, .slice v.An v.nn v.cn, .slice v.Al v.nl v.cl, .slice v.Ak v.nk v.ck, .slice v.Av v.nv v.cv, .int .i64 s.cells, .int .i64 (z1 : Int), .int .i64 0] ∧ rowV w13 (w.heap.size + 1 + 1) 76 #[.slice none 0 0, .int .i64 0, .slice none 0 0, .slice none 0 0, .slice none 0 0, .slice none 0 0, .slice none 0 0, .int .i64 0, .int .i64 0, .int .i64 0] ∧ RS B w13 s.arrs s.an s.ln ((s.cn.map (·.1)) ++ [x0]) ((s.cn.map (·.2)) ++ [nn]) s.code { v with Ak := A7, nk := v.nk + 1, ck := cA7, Av := A8, nv := v.nv + 1, cv := cA8 } ∧ Below B w w13 ∧ KT w w13) ∧ wx = (w13.setCell ⟨w.heap.size, 5, none⟩ (.slice A7 (v.nk + 1) cA7)).setCell ⟨w.heap.size, 6, none⟩ (.slice A8 (v.nv + 1) cA8))
  case first =>
    go_region_law (first | (refine step_pushG (enc := encSt) rfl (.tmp 61) (.tmp 65) rfl uSt infoSt encSt_one rfl (fun _ => rfl) (by decide) rfl (HX.out.2.2.2.1.ok.below (by repeat (first | with_reducible exact Below.refl _ _ | with_reducible refine bdrew1 ?_ | with_reducible refine balloc ?_ _))) (Nat.le_trans hBW.out (Below.size (show Below (w8.setCell ⟨w.heap.size, 9, none⟩ (.int .i64 0)).heap.size (w8.setCell ⟨w.heap.size, 9, none⟩ (.int .i64 0)) _ from by repeat (first | with_reducible exact Below.refl _ _ | with_reducible refine bdrew1 ?_ | with_reducible refine balloc ?_ _)))) x0 _ rfl (one_cell (t := 9) (by repeat (first | (with_reducible refine rowV_newA ?_; first | rfl | (simp [setCell_size]; done)) | with_reducible refine rowV_drew1 ?_ | with_reducible refine rowV_alloc1 ?_))) hmk.out.1 hmk.out.2 ?_; intro A7 cA7 w11 ho7 hg7 hf7; have F1 := HK1.out _ _ _ _ ho7 hg7 hf7 (by repeat (first | with_reducible exact Below.refl _ _ | with_reducible refine bdrew1 ?_ | with_reducible refine balloc ?_ _)); have HP := Lib.hid F1; have u0 : (w11).cell? ⟨w.heap.size, 0, none⟩ = some (.slice v.Aa v.na v.ca) := cell_rowV F1.1 rfl; have u1 : (w11).cell? ⟨w.heap.size, 1, none⟩ = some (.int .i64 (s.ln.length : Int)) := cell_rowV F1.1 rfl; have u2 : (w11).cell? ⟨w.heap.size, 2, none⟩ = some (.slice v.Ac v.nc v.cc) := cell_rowV F1.1 rfl; have u3 : (w11).cell? ⟨w.heap.size, 3, none⟩ = some (.slice v.An v.nn v.cn) := cell_rowV F1.1 rfl; have u4 : (w11).cell? ⟨w.heap.size, 4, none⟩ = some (.slice v.Al v.nl v.cl) := cell_rowV F1.1 rfl; have u5 : (w11).cell? ⟨w.heap.size, 5, none⟩ = some (.slice v.Ak v.nk v.ck) := cell_rowV F1.1 rfl; have u6 : (w11).cell? ⟨w.heap.size, 6, none⟩ = some (.slice v.Av v.nv v.cv) := cell_rowV F1.1 rfl; have u7 : (w11).cell? ⟨w.heap.size, 7, none⟩ = some (.int .i64 s.cells) := cell_rowV F1.1 rfl; have u8 : (w11).cell? ⟨w.heap.size, 8, none⟩ = some (.int .i64 (z1 : Int)) := cell_rowV F1.1 rfl; have u9 : (w11).cell? ⟨w.heap.size, 9, none⟩ = some (.int .i64 0) := cell_rowV F1.1 rfl; have t0 : (w11).cell? ⟨(w.heap.size + 1), 0, none⟩ = some (.string (strB x0)) := cell_rowV F1.2.1 rfl; have t1 : (w11).cell? ⟨(w.heap.size + 1), 1, none⟩ = some (.int .i64 (z0 : Int)) := cell_rowV F1.2.1 rfl; have t2 : (w11).cell? ⟨(w.heap.size + 1), 2, none⟩ = some (.string (strB x1)) := cell_rowV F1.2.1 rfl; have t3 : (w11).cell? ⟨(w.heap.size + 1), 3, none⟩ = some (.int .i64 (z1 : Int)) := cell_rowV F1.2.1 rfl; have lt11 : w.heap.size + 1 < w11.heap.size := F1.2.1.lt; have lt10 : w.heap.size < w11.heap.size := F1.1.lt; clear F1) | (refine step_pushG (enc := encIv) rfl (.tmp 68) (.tmp 70) rfl uIv infoIv encIv_one rfl (fun _ => rfl) (by decide) rfl (HP.out.2.2.2.1.ov.below (by repeat (first | with_reducible exact Below.refl _ _ | with_reducible refine bdrew1 ?_ | with_reducible refine balloc ?_ _))) (Nat.le_trans (HBP.out _ HP.out.2.2.2.2.1) (Below.size (show Below w11.heap.size w11 _ from by repeat (first | with_reducible exact Below.refl _ _ | with_reducible refine bdrew1 ?_ | with_reducible refine balloc ?_ _)))) nn _ rfl (one_cell (t := 3) (by (first | (refine HP.out.2.2.2.2.2.2 _ _ ?_; (repeat (first | (with_reducible refine rowV_newA ?_; first | rfl | (simp [setCell_size]; done)) | with_reducible refine rowV_drew1 ?_ | with_reducible refine rowV_alloc1 ?_)); done) | ((repeat (first | (with_reducible refine rowV_newA ?_; first | rfl | (simp [setCell_size]; done)) | with_reducible refine rowV_drew1 ?_ | with_reducible refine rowV_alloc1 ?_)); done)))) hmv.out.1 hmv.out.2 ?_; intro A8 cA8 w13 ho8 hg8 hf8; have F2 := HK2.out _ _ _ _ _ _ HP.out.1 HP.out.2.2.1 HP.out.2.2.2.1 HP.out.2.2.2.2.1 HP.out.2.2.2.2.2.1 ho8 hg8 hf8 (by repeat (first | with_reducible exact Below.refl _ _ | with_reducible refine bdrew1 ?_ | with_reducible refine balloc ?_ _)); have HP2 := Lib.hid F2; have x0 : (w13).cell? ⟨w.heap.size, 0, none⟩ = some (.slice v.Aa v.na v.ca) := cell_rowV F2.1 rfl; have x1 : (w13).cell? ⟨w.heap.size, 1, none⟩ = some (.int .i64 (s.ln.length : Int)) := cell_rowV F2.1 rfl; have x2 : (w13).cell? ⟨w.heap.size, 2, none⟩ = some (.slice v.Ac v.nc v.cc) := cell_rowV F2.1 rfl; have x3 : (w13).cell? ⟨w.heap.size, 3, none⟩ = some (.slice v.An v.nn v.cn) := cell_rowV F2.1 rfl; have x4 : (w13).cell? ⟨w.heap.size, 4, none⟩ = some (.slice v.Al v.nl v.cl) := cell_rowV F2.1 rfl; have x5 : (w13).cell? ⟨w.heap.size, 5, none⟩ = some (.slice v.Ak v.nk v.ck) := cell_rowV F2.1 rfl; have x6 : (w13).cell? ⟨w.heap.size, 6, none⟩ = some (.slice v.Av v.nv v.cv) := cell_rowV F2.1 rfl; have x7 : (w13).cell? ⟨w.heap.size, 7, none⟩ = some (.int .i64 s.cells) := cell_rowV F2.1 rfl; have x8 : (w13).cell? ⟨w.heap.size, 8, none⟩ = some (.int .i64 (z1 : Int)) := cell_rowV F2.1 rfl; have x9 : (w13).cell? ⟨w.heap.size, 9, none⟩ = some (.int .i64 0) := cell_rowV F2.1 rfl; have xf5 := frozen_rowV' F2.1 5; have xf6 := frozen_rowV' F2.1 6; have lt13 : w.heap.size < w13.heap.size := F2.1.lt; clear F2))
    all_goals
      go_wp2_with fail
      go_meet
      exact ⟨rfl, _, _, _, _, _, HP2, rfl⟩
  case rest =>
    obtain ⟨rfl, A7, cA7, A8, cA8, w13, HP2, rfl⟩ := hcut
    have lt13 : w.heap.size < w13.heap.size := HP2.out.1.lt
    have y0 : (w13).cell? ⟨w.heap.size, 0, none⟩ = some (.slice v.Aa v.na v.ca) := cell_rowV HP2.out.1 rfl
    have y1 : (w13).cell? ⟨w.heap.size, 1, none⟩ = some (.int .i64 (s.ln.length : Int)) := cell_rowV HP2.out.1 rfl
    have y2 : (w13).cell? ⟨w.heap.size, 2, none⟩ = some (.slice v.Ac v.nc v.cc) := cell_rowV HP2.out.1 rfl
    have y3 : (w13).cell? ⟨w.heap.size, 3, none⟩ = some (.slice v.An v.nn v.cn) := cell_rowV HP2.out.1 rfl
    have y4 : (w13).cell? ⟨w.heap.size, 4, none⟩ = some (.slice v.Al v.nl v.cl) := cell_rowV HP2.out.1 rfl
    have y5 : (w13).cell? ⟨w.heap.size, 5, none⟩ = some (.slice v.Ak v.nk v.ck) := cell_rowV HP2.out.1 rfl
    have y6 : (w13).cell? ⟨w.heap.size, 6, none⟩ = some (.slice v.Av v.nv v.cv) := cell_rowV HP2.out.1 rfl
    have y7 : (w13).cell? ⟨w.heap.size, 7, none⟩ = some (.int .i64 s.cells) := cell_rowV HP2.out.1 rfl
    have y8 : (w13).cell? ⟨w.heap.size, 8, none⟩ = some (.int .i64 (z1 : Int)) := cell_rowV HP2.out.1 rfl
    have y9 : (w13).cell? ⟨w.heap.size, 9, none⟩ = some (.int .i64 0) := cell_rowV HP2.out.1 rfl
    have HQ9 := Lib.hid ((HP2.out.2.1.setFar (p := ⟨w.heap.size, 5, none⟩) (by show w.heap.size + 1 + 1 ≠ w.heap.size; omega) (.slice A7 (v.nk + 1) cA7)).setFar (p := ⟨w.heap.size, 6, none⟩) (by show w.heap.size + 1 + 1 ≠ w.heap.size; omega) (.slice A8 (v.nv + 1) cA8))
    go_wp2_with (refine wpList_store_row rfl 76 (.tmp 6) (.tmp 74) rfl _ #[.slice v.Aa v.na v.ca, .int .i64 (s.ln.length : Int), .slice v.Ac v.nc v.cc, .slice v.An v.nn v.cn, .slice v.Al v.nl v.cl, .slice A7 (v.nk + 1) cA7, .slice A8 (v.nv + 1) cA8, .int .i64 s.cells, .int .i64 (z1 : Int), .int .i64 0] rfl rfl _ _ HQ9.out infoS rfl (by simp [Value.oneCell']) ?_)
    have r7 : rowV (((w13.setCell ⟨w.heap.size, 5, none⟩ (.slice A7 (v.nk + 1) cA7)).setCell ⟨w.heap.size, 6, none⟩ (.slice A8 (v.nv + 1) cA8)).setRow (w.heap.size + 1 + 1) #[.slice v.Aa v.na v.ca, .int .i64 (s.ln.length : Int), .slice v.Ac v.nc v.cc, .slice v.An v.nn v.cn, .slice v.Al v.nl v.cl, .slice A7 (v.nk + 1) cA7, .slice A8 (v.nv + 1) cA8, .int .i64 s.cells, .int .i64 (z1 : Int), .int .i64 0]) (w.heap.size + 1 + 1) 76 #[.slice v.Aa v.na v.ca, .int .i64 (s.ln.length : Int), .slice v.Ac v.nc v.cc, .slice v.An v.nn v.cn, .slice v.Al v.nl v.cl, .slice A7 (v.nk + 1) cA7, .slice A8 (v.nv + 1) cA8, .int .i64 s.cells, .int .i64 (z1 : Int), .int .i64 0] := setRow_heap ((w13.setCell ⟨w.heap.size, 5, none⟩ (.slice A7 (v.nk + 1) cA7)).setCell ⟨w.heap.size, 6, none⟩ (.slice A8 (v.nv + 1) cA8)) (w.heap.size + 1 + 1) _ #[.slice v.Aa v.na v.ca, .int .i64 (s.ln.length : Int), .slice v.Ac v.nc v.cc, .slice v.An v.nn v.cn, .slice v.Al v.nl v.cl, .slice A7 (v.nk + 1) cA7, .slice A8 (v.nv + 1) cA8, .int .i64 s.cells, .int .i64 (z1 : Int), .int .i64 0] _ _ HQ9.out
    have g7 := grownBy_setRow ((w13.setCell ⟨w.heap.size, 5, none⟩ (.slice A7 (v.nk + 1) cA7)).setCell ⟨w.heap.size, 6, none⟩ (.slice A8 (v.nv + 1) cA8)) (w.heap.size + 1 + 1) #[.slice v.Aa v.na v.ca, .int .i64 (s.ln.length : Int), .slice v.Ac v.nc v.cc, .slice v.An v.nn v.cn, .slice v.Al v.nl v.cl, .slice A7 (v.nk + 1) cA7, .slice A8 (v.nv + 1) cA8, .int .i64 s.cells, .int .i64 (z1 : Int), .int .i64 0]
    have y0 : rowV (w13.setCell ⟨w.heap.size, 5, none⟩ (.slice A7 (v.nk + 1) cA7)) w.heap.size 76 #[.slice v.Aa v.na v.ca, .int .i64 (s.ln.length : Int), .slice v.Ac v.nc v.cc, .slice v.An v.nn v.cn, .slice v.Al v.nl v.cl, .slice A7 (v.nk + 1) cA7, .slice v.Av v.nv v.cv, .int .i64 s.cells, .int .i64 (z1 : Int), .int .i64 0] := HP2.out.1.set 5 _
    have h14 := HP2.out.2.2.1.set HP2.out.1 5 (.slice A7 (v.nk + 1) cA7)
    have h15 := h14.set y0 6 (.slice A8 (v.nv + 1) cA8)
    have h16 := h15.setRow HQ9.out #[.slice v.Aa v.na v.ca, .int .i64 (s.ln.length : Int), .slice v.Ac v.nc v.cc, .slice v.An v.nn v.cn, .slice v.Al v.nl v.cl, .slice A7 (v.nk + 1) cA7, .slice A8 (v.nv + 1) cA8, .int .i64 s.cells, .int .i64 (z1 : Int), .int .i64 0]
    have bB : Below w.heap.size w13 (((w13.setCell ⟨w.heap.size, 5, none⟩ (.slice A7 (v.nk + 1) cA7)).setCell ⟨w.heap.size, 6, none⟩ (.slice A8 (v.nv + 1) cA8)).setRow (w.heap.size + 1 + 1) #[.slice v.Aa v.na v.ca, .int .i64 (s.ln.length : Int), .slice v.Ac v.nc v.cc, .slice v.An v.nn v.cn, .slice v.Al v.nl v.cl, .slice A7 (v.nk + 1) cA7, .slice A8 (v.nv + 1) cA8, .int .i64 s.cells, .int .i64 (z1 : Int), .int .i64 0]) := ((Below.setG (w := w13) (j := 5) (Nat.le_refl w.heap.size) _).trans (Below.setG (w := w13.setCell ⟨w.heap.size, 5, none⟩ (.slice A7 (v.nk + 1) cA7)) (j := 6) (Nat.le_refl w.heap.size) _)).trans (Below.setRowG (Below.refl _ _) (by omega) _)
    have hbW : Below B w (((w13.setCell ⟨w.heap.size, 5, none⟩ (.slice A7 (v.nk + 1) cA7)).setCell ⟨w.heap.size, 6, none⟩ (.slice A8 (v.nv + 1) cA8)).setRow (w.heap.size + 1 + 1) #[.slice v.Aa v.na v.ca, .int .i64 (s.ln.length : Int), .slice v.Ac v.nc v.cc, .slice v.An v.nn v.cn, .slice v.Al v.nl v.cl, .slice A7 (v.nk + 1) cA7, .slice A8 (v.nv + 1) cA8, .int .i64 s.cells, .int .i64 (z1 : Int), .int .i64 0]) := HP2.out.2.2.2.1.trans (bB.mono hB)
    have hkt : KT w (((w13.setCell ⟨w.heap.size, 5, none⟩ (.slice A7 (v.nk + 1) cA7)).setCell ⟨w.heap.size, 6, none⟩ (.slice A8 (v.nv + 1) cA8)).setRow (w.heap.size + 1 + 1) #[.slice v.Aa v.na v.ca, .int .i64 (s.ln.length : Int), .slice v.Ac v.nc v.cc, .slice v.An v.nn v.cn, .slice v.Al v.nl v.cl, .slice A7 (v.nk + 1) cA7, .slice A8 (v.nv + 1) cA8, .int .i64 s.cells, .int .i64 (z1 : Int), .int .i64 0]) := HP2.out.2.2.2.2.below bB
    refine bodyPost_ret (v := .agg #[.slice v.Aa v.na v.ca, .int .i64 (s.ln.length : Int), .slice v.Ac v.nc v.cc, .slice v.An v.nn v.cn, .slice v.Al v.nl v.cl, .slice A7 (v.nk + 1) cA7, .slice A8 (v.nv + 1) cA8, .int .i64 s.cells, .int .i64 (z1 : Int), .int .i64 0]) ?_ rfl ⟨hbW, hkt, { v with Ak := A7, nk := v.nk + 1, ck := cA7, Av := A8, nv := v.nv + 1, cv := cA8 }, _, _, _, _, rfl, ?_⟩
    case refine_2 => rw [HR1.out]; refine ⟨rfl, rfl, rfl, ?_⟩; have hh := h16; rw [show (s.cn.map (·.1)) ++ [x0] = (s.cn ++ [(x0, nn)]).map (·.1) by simp, show (s.cn.map (·.2)) ++ [nn] = (s.cn ++ [(x0, nn)]).map (·.2) by simp] at hh; exact hh
    obtain ⟨W7, hW7⟩ : ∃ W7, W7 = ((w13.setCell ⟨w.heap.size, 5, none⟩ (.slice A7 (v.nk + 1) cA7)).setCell ⟨w.heap.size, 6, none⟩ (.slice A8 (v.nv + 1) cA8)).setRow (w.heap.size + 1 + 1) #[.slice v.Aa v.na v.ca, .int .i64 (s.ln.length : Int), .slice v.Ac v.nc v.cc, .slice v.An v.nn v.cn, .slice v.Al v.nl v.cl, .slice A7 (v.nk + 1) cA7, .slice A8 (v.nv + 1) cA8, .int .i64 s.cells, .int .i64 (z1 : Int), .int .i64 0] := ⟨_, rfl⟩
    rw [← hW7] at r7 ⊢
    have k0 : (W7).cell? ⟨(w.heap.size + 1 + 1), 0, none⟩ = some (.slice v.Aa v.na v.ca) := cell_rowV r7 rfl
    have k1 : (W7).cell? ⟨(w.heap.size + 1 + 1), 1, none⟩ = some (.int .i64 (s.ln.length : Int)) := cell_rowV r7 rfl
    have k2 : (W7).cell? ⟨(w.heap.size + 1 + 1), 2, none⟩ = some (.slice v.Ac v.nc v.cc) := cell_rowV r7 rfl
    have k3 : (W7).cell? ⟨(w.heap.size + 1 + 1), 3, none⟩ = some (.slice v.An v.nn v.cn) := cell_rowV r7 rfl
    have k4 : (W7).cell? ⟨(w.heap.size + 1 + 1), 4, none⟩ = some (.slice v.Al v.nl v.cl) := cell_rowV r7 rfl
    have k5 : (W7).cell? ⟨(w.heap.size + 1 + 1), 5, none⟩ = some (.slice A7 (v.nk + 1) cA7) := cell_rowV r7 rfl
    have k6 : (W7).cell? ⟨(w.heap.size + 1 + 1), 6, none⟩ = some (.slice A8 (v.nv + 1) cA8) := cell_rowV r7 rfl
    have k7 : (W7).cell? ⟨(w.heap.size + 1 + 1), 7, none⟩ = some (.int .i64 s.cells) := cell_rowV r7 rfl
    have k8 : (W7).cell? ⟨(w.heap.size + 1 + 1), 8, none⟩ = some (.int .i64 (z1 : Int)) := cell_rowV r7 rfl
    have k9 : (W7).cell? ⟨(w.heap.size + 1 + 1), 9, none⟩ = some (.int .i64 0) := cell_rowV r7 rfl
    clear hW7 hbW hkt h16 h15 h14 bB
    simp [results, Tryd.results47, go_sem, k0, k1, k2, k3, k4, k5, k6, k7, k8, k9]
end Go.Proofs.YtlbhggjkcfcobaaDoor

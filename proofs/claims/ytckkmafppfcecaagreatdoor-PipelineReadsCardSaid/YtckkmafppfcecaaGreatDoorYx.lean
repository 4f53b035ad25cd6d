/- Frames for two appends in one region; what is read from words; plain steps of Parse. -/
import Derived.Test.YtckkmafppfcecaaGreatDoorYg
namespace Go.Proofs.YtckkmafppfcecaaGreatDoor
open Go.RowKit Go.Proofs
set_option linter.unusedVariables false
set_option linter.unusedSimpArgs false

section
variable {α : Type} {enc : α → List Value} {sz : Nat} {w w' : World} {B : Nat} {e : TypeId} {A : Option Addr} {n c : Nat} {xs : List α}
theorem OwnS.blk (h : OwnS enc sz w B e A n c xs) {b : Nat} (hb : (Value.slice A n c).ownBlock = some b) : b < w.heap.size ∧ B ≤ b ∧ ∃ cur, w.heap[b]? = some (.cells cur e (0, 0)) := by
  rcases h.2 with ⟨h1, _⟩ | ⟨g, cap, cur, h1, h2, h3, _⟩
  · rw [h1] at hb; cases hb
  · rw [h1] at hb
    injection hb with hb
    have hg : g = b := hb
    subst hg
    exact ⟨(Array.getElem?_eq_some_iff.1 h3).1, h2, cur, h3⟩
theorem OwnS.grown (h : OwnS enc sz w B e A n c xs) {row : Option Nat} (hg : w.grownBy w' row) (hne : ∀ b, (Value.slice A n c).ownBlock = some b → some b ≠ row) : OwnS enc sz w' B e A n c xs := by
  refine ⟨h.1, ?_⟩
  rcases h.2 with h1 | ⟨g, cap, cur, h1, h2, h3, h4⟩
  · exact .inl h1
  · exact .inr ⟨g, cap, cur, h1, h2, (hg.block g (Array.getElem?_eq_some_iff.1 h3).1 (hne g (by rw [h1]; rfl))).trans h3, h4⟩
theorem OwnS.ne_row (h : OwnS enc sz w B e A n c xs) {g : Nat} {t : TypeId} {cs : Array Value} (hr : rowV w g t cs) (hne : e ≠ t) : ∀ b, (Value.slice A n c).ownBlock = some b → some b ≠ some g := fun b hb he => by
  injection he with he
  subst he
  obtain ⟨_, _, cur, h3⟩ := h.blk hb
  unfold rowV at hr
  rw [hr] at h3
  injection h3 with h3
  injection h3 with _ h3
  exact hne h3.symm
theorem OwnS.ne_own {α' : Type} {enc' : α' → List Value} {sz' : Nat} {e' : TypeId} {A' : Option Addr} {n' c' : Nat} {ys : List α'} (h : OwnS enc sz w B e A n c xs) (h' : OwnS enc' sz' w B e' A' n' c' ys) (hne : e ≠ e') :
    ∀ b, (Value.slice A n c).ownBlock = some b → some b ≠ (Value.slice A' n' c').ownBlock := fun b hb he => by
  obtain ⟨_, _, cur, h3⟩ := h.blk hb
  obtain ⟨_, _, cur', h3'⟩ := h'.blk he.symm
  rw [h3] at h3'
  injection h3' with h3'
  injection h3' with _ h3'
  exact hne h3'
end
theorem rowV.grown {w w' : World} {g : Nat} {t : TypeId} {cs : Array Value} {row : Option Nat} (h : rowV w g t cs) (hg : w.grownBy w' row) (hne : some g ≠ row) : rowV w' g t cs := (hg.block g h.lt hne).trans h
theorem cell_rowV {w : World} {g : Nat} {t : TypeId} {cs : Array Value} (h : rowV w g t cs) {j : Nat} {v : Value} (hj : cs[j]? = some v) : w.cell? ⟨g, j, none⟩ = some v := h.cell hj
theorem bdrew1 {B : Nat} {w w1 : World} (h : Below B w w1) : Below B w w1.drew := bdrew h 1
theorem rowV_newA {w : World} {g : Nat} {t : TypeId} {cs : Array Value} (hg : g = w.heap.size) : rowV (w.alloc (.cells cs t)) g t cs := by rw [hg]; exact rowV.new w t cs
theorem rowV_drew1 {w : World} {g : Nat} {t : TypeId} {cs : Array Value} (h : rowV w g t cs) : rowV w.drew g t cs := h
theorem rowV_alloc1 {w : World} {g : Nat} {t : TypeId} {cs : Array Value} {o : Obj} (h : rowV w g t cs) : rowV (w.alloc o) g t cs := h.below (balloc (Below.refl _ _) o) h.lt
theorem step_pushG {P : Program} {α : Type} {enc : α → List Value} {sz : Nat} {w : World} {B : Nat} {e t : TypeId} {A : Option Addr} {n c : Nat} {xs : List α} {z : Value} {bytes : Nat}
  {ops : Array Oper} {o : Oper} {a : Act} {K : Act → World → Prop} {Q : Exit → Act → World → Prop} {E : Prop} (hgd : o.guard = none) (s x : Operand) (ho : o.op = .call { callee := .builtin .append, args := #[s, x], argTypes := #[t, t] })
    (ht : P.underlying t = some (.slice e)) (hi : (P.info? e).map (fun i => (i.zero, i.size, i.bytes)) = some (some z, sz, bytes))
    (h1 : ∀ x, ∀ u ∈ enc x, u.oneCell' = true) (hz : z.cells.size = sz) (hl : ∀ x, (enc x).length = sz) (hsz : 0 < sz)
    (hs : a.eval s = .slice A n c) (hown : OwnS enc sz w B e A n c xs) (hB : B ≤ w.heap.size) (y : α) (g : Nat)
    (hx : a.eval x = .slice (some ⟨g, 0, none⟩) 1 1) (hcell : ∀ j u, (enc y)[j]? = some u → w.cell? ⟨g, j, none⟩ = some u) (hml : n + 1 ≤ maxLen) (hby : (n + 1) * bytes ≤ 140737488355328)
    (h : ∀ A2 c2 w', OwnS enc sz w' B e A2 (n + 1) c2 (xs ++ [y]) → w.grownBy w' (Value.slice A n c).ownBlock → (∀ b, (Value.slice A2 (n + 1) c2).ownBlock = some b → (Value.slice A n c).ownBlock = some b ∨ w.heap.size ≤ b) → K (a.put o.dst (.slice A2 (n + 1) c2)) w') :
    if Region.wanted o (yielded ops a.tmps) = true then Oper.wp P o a w K Q else E := by
  rw [if_pos (by simp [Region.wanted, hgd])]
  obtain ⟨i, hi0, hz0, hs1, hb⟩ := info_parts hi
  obtain ⟨v', w', hrun, h2, h3, _, h5⟩ := run_append_own_at (P := P) w B t o.type e i z sz bytes ht hi0 hz0 hs1 hb hz hsz _ n _ hown ⟨g, 0, none⟩ 1 1 (enc y) (by rw [hl, Nat.one_mul]) (fun j u hu => by
    rw [addr_add, Nat.zero_add]
    exact hcell j u hu) (h1 y) hml hby hB
  have hform : ∃ A2 c2, v' = .slice A2 (n + 1) c2 := by
    rcases h2.2 with ⟨rfl, h0⟩ | ⟨g, cap, cur, rfl, _⟩
    · exact ⟨none, 0, by rw [h0]⟩
    · exact ⟨_, _, rfl⟩
  obtain ⟨A2, c2, rfl⟩ := hform
  unfold Oper.wp execOp
  simp only [ho, resolve, invoke, builtin, Sem.run_bind, Sem.run_pure, Result.andThen_ok, List.map_toArray, List.map_cons, List.map_nil, hs, hx, hrun]
  refine h A2 c2 w' ?_ h3 (fun b hb => ?_)
  · unfold OwnS
    rw [List.flatMap_append, List.flatMap_cons, List.flatMap_nil, List.append_nil]
    exact h2
  · rcases h5 with h5 | h5
    · exact .inl (h5 ▸ hb)
    · rw [h5] at hb
      injection hb with hb
      exact .inr (by omega)
theorem one_cell {w : World} {g : Nat} {t : TypeId} {u0 : Value} (h : rowV w g t #[u0]) : ∀ j u, [u0][j]? = some u → w.cell? ⟨g, j, none⟩ = some u := fun j u hu => by
  rcases j with _ | j
  · exact cell_rowV h hu
  · simp at hu
theorem two_cell {w : World} {g : Nat} {t : TypeId} {u0 u1 : Value} (h : rowV w g t #[u0, u1]) : ∀ j u, [u0, u1][j]? = some u → w.cell? ⟨g, j, none⟩ = some u := fun j u hu => by
  rcases j with _ | _ | j
  · exact h.cell hu
  · exact h.cell hu
  · simp at hu
def encSt (s : Stg) : List Value := [.int .i64 s.1, .int .i64 s.2]
theorem encSt_one (x : Stg) : ∀ u ∈ encSt x, u.oneCell' = true := by intro u hu; simp [encSt] at hu; rcases hu with rfl | rfl <;> rfl
theorem infoSt : (Tryz.prog.info? 67).map (fun i => (i.zero, i.size, i.bytes)) = some (some (.agg #[.int .i64 0, .int .i64 0]), 2, 16) := by kernel_rfl
theorem uSt : Tryz.prog.underlying 22 = some (.slice 67) := Tryz.underlying22
def encZ (z : Int) : List Value := [.int .i64 z]
theorem encZ_one (x : Int) : ∀ u ∈ encZ x, u.oneCell' = true := by intro u hu; simp [encZ] at hu; subst hu; rfl
theorem infoZ : (Tryz.prog.info? 3).map (fun i => (i.zero, i.size, i.bytes)) = some (some (.int .i64 0), 1, 8) := by kernel_rfl
theorem uZs : Tryz.prog.underlying 68 = some (.slice 3) := Tryz.underlying68
theorem OwnS.toStgs {w : World} {B : Nat} {A : Option Addr} {n c : Nat} {l : List Stg} (h : OwnS encSt 2 w B 67 A n c l) (hwf : ∀ x ∈ l, (Lit.int .i64 x.1).wf = true ∧ (Lit.int .i64 x.2).wf = true) : Stgs w A n c l := by
  refine ⟨h.length (fun _ => rfl) (by decide), h.cap, hwf, fun hn => ?_⟩
  obtain ⟨g, hA, -, hlt, hc⟩ := h.get (fun _ => rfl) (by decide) (0, 0) hn
  refine ⟨g, 0, hA, hlt, fun i hi => ⟨?_, ?_⟩⟩
  · have := hc i 0 _ hi rfl
    simpa [sG] using this
  · have := hc i 1 _ hi rfl
    simpa [sG, Nat.add_assoc] using this

/-- the word at a place. -/
def gW (W : List (List UInt8 × Nat)) (j : Nat) : List UInt8 × Nat := W.getD j ([], 0)
theorem drop_gW {W : List (List UInt8 × Nat)} {j : Nat} (h : j < W.length) : W.drop j = gW W j :: W.drop (j + 1) := by
  rw [List.drop_eq_getElem_cons h]
  unfold gW
  rw [List.getD_eq_getElem?_getD, List.getElem?_eq_getElem h]; rfl
theorem gW_mem {W : List (List UInt8 × Nat)} {j : Nat} (h : j < W.length) : gW W j ∈ W := by
  unfold gW
  rw [List.getD_eq_getElem?_getD, List.getElem?_eq_getElem h]
  exact List.getElem_mem h
abbrev Acc := List (Stg × Nat)
/-- what is read so far, and what is left. -/
def Red (N : Nat) (W : List (List UInt8 × Nat)) (j : Nat) (acc : Acc) : Prop := readP N W = (readP N (W.drop j)).map fun o => acc ++ o
theorem Red.start (N : Nat) (W : List (List UInt8 × Nat)) : Red N W 0 [] := by
  unfold Red
  rw [List.drop_zero]
  cases readP N W <;> rfl
theorem Red.err {N : Nat} {W : List (List UInt8 × Nat)} {j : Nat} {acc : Acc} (h : Red N W j acc) {i : Nat} {e : Int} (he : readP N (W.drop j) = .error (i, e)) : readP N W = .error (i, e) := by
  unfold Red at h; rw [h, he]; rfl
theorem Red.done {N : Nat} {W : List (List UInt8 × Nat)} {j : Nat} {acc : Acc} (h : Red N W j acc) (hj : W.length ≤ j) : readP N W = .ok acc := by
  unfold Red at h
  rw [h, List.drop_eq_nil_of_le hj]
  show Except.ok (acc ++ []) = _
  rw [List.append_nil]
theorem Red.bad {N : Nat} {W : List (List UInt8 × Nat)} {j : Nat} {acc : Acc} (h : Red N W j acc) (hj : j < W.length) (hk : kindP (gW W j).1 < 0) : readP N W = .error ((gW W j).2, 4) := by
  refine h.err ?_
  rw [drop_gW hj, readP.eq_def]
  simp only
  rw [if_pos hk]
theorem Red.last {N : Nat} {W : List (List UInt8 × Nat)} {j : Nat} {acc : Acc} (h : Red N W j acc) (hj : j < W.length) (hk : kindP (gW W j).1 = 0) (hl : W.length ≤ j + 1) : readP N W = .error (N, 4) := by
  refine h.err ?_
  rw [drop_gW hj, List.drop_eq_nil_of_le hl, readP.eq_def]
  simp only
  rw [if_neg (by omega), if_pos hk]
theorem Red.nonum {N : Nat} {W : List (List UInt8 × Nat)} {j : Nat} {acc : Acc} (h : Red N W j acc) (hj : j + 1 < W.length) (hk : kindP (gW W j).1 = 0) (hn : numP (gW W (j + 1)).1 = none) : readP N W = .error ((gW W (j + 1)).2, 4) := by
  refine h.err ?_
  rw [drop_gW (by omega), drop_gW hj, readP.eq_def]
  simp only
  rw [if_neg (by omega), if_pos hk]
  simp only [hn]
theorem Red.table {N : Nat} {W : List (List UInt8 × Nat)} {j : Nat} {acc : Acc} (h : Red N W j acc) (hj : j + 1 < W.length) (hk : kindP (gW W j).1 = 0) {k : Nat} (hn : numP (gW W (j + 1)).1 = some k) : Red N W (j + 2) (acc ++ [((0, (k : Int)), (gW W j).2)]) := by
  unfold Red at h ⊢
  rw [h, drop_gW (by omega : j < W.length), drop_gW hj, readP.eq_def]
  simp only
  rw [if_neg (by omega), if_pos hk]
  simp only [hn]
  cases readP N (W.drop (j + 2)) <;> simp [Except.map]
theorem Red.other {N : Nat} {W : List (List UInt8 × Nat)} {j : Nat} {acc : Acc} (h : Red N W j acc) (hj : j < W.length) (h0 : ¬ kindP (gW W j).1 < 0) (hk : kindP (gW W j).1 ≠ 0) : Red N W (j + 1) (acc ++ [((kindP (gW W j).1, 0), (gW W j).2)]) := by
  unfold Red at h ⊢
  rw [h, drop_gW hj, readP.eq_def]
  simp only
  rw [if_neg h0, if_neg hk]
  cases readP N (W.drop (j + 1)) <;> simp [Except.map]
theorem parse_err {s : List UInt8} {i : Nat} {e : Int} (hl : ¬ 8192 < s.length) (h : readP s.length (wordsP s) = .error (i, e)) : parseP s = ([], (i : Int), e) := by
  unfold parseP; rw [if_neg hl, h]
theorem parse_ok {s : List UInt8} {o : Acc} (hl : ¬ 8192 < s.length) (h : readP s.length (wordsP s) = .ok o) : parseP s = (let e := typE (o.map (·.1)) (0, 0); if e.1 = 0 then ((o.map (·.1), 0, 0) : List Stg × Int × Int) else if e.2 < 0 then ([], 0, e.1) else ([], (((o.map (·.2)).getD e.2.toNat 0 : Nat) : Int), e.1)) := by
  unfold parseP; rw [if_neg hl, h]
/-- what is read is a kind and a number. -/
def AccOk (acc : Acc) : Prop := ∀ x ∈ acc, (Lit.int .i64 x.1.1).wf = true ∧ (Lit.int .i64 x.1.2).wf = true
theorem AccOk.push {acc : Acc} (h : AccOk acc) {k a : Int} {i : Nat} (hk : 0 ≤ k ∧ k < 10) (ha : 0 ≤ a ∧ a ≤ 9007199254740991) : AccOk (acc ++ [((k, a), i)]) := by
  intro x hx
  rcases List.mem_append.1 hx with hx | hx
  · exact h x hx
  · rw [List.mem_singleton] at hx
    subst hx
    constructor <;> simp [Lit.wf, IntKind.min, IntKind.max, IntKind.bits, IntKind.signed] <;> omega
theorem fstE_ix {f : Nat → Int} : ∀ (m k : Nat), (fstE f m k).1 ≠ 0 → ∃ j : Nat, (fstE f m k).2 = (j : Int) ∧ j < k + m
  | 0, k, h => absurd rfl h
  | m + 1, k, h => by
    rw [fstE] at h ⊢
    by_cases hk : f k = 0
    · rw [if_pos hk] at h ⊢
      obtain ⟨j, h1, h2⟩ := fstE_ix m (k + 1) h
      exact ⟨j, h1, by omega⟩
    · rw [if_neg hk]
      exact ⟨k, rfl, by omega⟩
theorem typE_ix {l : List Stg} {t : Ty} (h : (typE l t).1 ≠ 0) : (typE l t).2 < 0 ∨ ∃ j : Nat, (typE l t).2 = (j : Int) ∧ j < l.length := by
  unfold typE at h ⊢
  split
  · exact .inl (by decide)
  · split
    · exact .inl (by decide)
    · rename_i h1 h2
      rw [if_neg h1, if_neg h2] at h
      obtain ⟨j, h3, h4⟩ := fstE_ix _ _ h
      exact .inr ⟨j, h3, by omega⟩
end Go.Proofs.YtckkmafppfcecaaGreatDoor

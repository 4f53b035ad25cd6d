/- The assembler's reader in memory: appends to its lists, stores to its cells, stores to its map. (Printed by wip/mkreader.py.) The contracts of the assembler's local, constant, array. -/
import Derived.Test.YtlbhggjkcfcobaaDoorAt
namespace Go.Proofs.YtlbhggjkcfcobaaDoor
open Go.RowKit Go.Proofs
set_option linter.unusedVariables false

/-- the reader's memory, part by part. -/
structure RC (B g n : Nat) (w : World) (arrs : List Arr) (L : Int) (an ln : List (List UInt8)) (code : List Ins) (f : List UInt8 → Option Int) (N : Nat) (ws : List Wd) (v : RVs) : Prop where
  row : rowV w g 73 (rdC v.A v.k v.c n (.slice v.Aa v.na v.ca) (.int .i64 L) (.slice v.Ac v.nc v.cc) (.slice v.An v.nn v.cn) (.slice v.Al v.nl v.cl) (.map (some v.m)))
  wm : WordsM B w v.A v.k v.c ws
  hk : v.k ≤ 9000
  hB : B ≤ g
  hm : B ≤ v.m
  oa : OwnS encAr 2 w B 47 v.Aa v.na v.ca arrs
  oc : OwnS encIn 2 w B 57 v.Ac v.nc v.cc code
  on : OwnS encSt 1 w B 9 v.An v.nn v.cn an
  ol : OwnS encSt 1 w B 9 v.Al v.nl v.cl ln
  ne : ∀ b, (Value.slice v.An v.nn v.cn).ownBlock = some b → some b ≠ (Value.slice v.Al v.nl v.cl).ownBlock
  mp : MapIs Tryd.prog 9 3 .i64 w v.m N f
  err : ErrR w
  hE : 7 < B
  dcl : DeclM w (g + 2) (g + 1) g
  hdm : g + 2 ≠ v.m
section
variable {B g n : Nat} {w X : World} {arrs : List Arr} {L : Int} {an ln : List (List UInt8)} {code : List Ins} {f : List UInt8 → Option Int} {N : Nat} {ws : List Wd} {v : RVs} {s : AS}
theorem RD.toRC (h : RD B g n w s ws v) : RC B g n w s.arrs s.ln.length s.an s.ln s.code (conF s) s.cn.length ws v := ⟨h.row, h.wm, h.hk, h.hB, h.hm, h.oa, h.oc, h.on, h.ol, h.ne, h.mp, h.err, h.hE, h.dcl, h.hdm⟩
theorem RC.toRD (h : RC B g n w s.arrs s.ln.length s.an s.ln s.code (conF s) s.cn.length ws v) (hf : s.cn.length + ws.length ≤ 9000) (fm : Formed s) : RD B g n w s ws v := ⟨h.row, h.wm, h.hk, h.hB, h.hm, h.oa, h.oc, h.on, h.ol, h.ne, h.mp, hf, h.err, h.hE, fm, h.dcl, h.hdm⟩
theorem RC.below (h : RC B g n w arrs L an ln code f N ws v) (hb : Below w.heap.size w X) : RC B g n X arrs L an ln code f N ws v :=
  ⟨h.row.below hb h.row.lt, h.wm.below (hb.mono (Nat.le_trans h.hB (Nat.le_of_lt h.row.lt))), h.hk, h.hB, h.hm, h.oa.below hb, h.oc.below hb, h.on.below hb, h.ol.below hb, h.ne, h.mp.below hb, h.err.below hb, h.hE, h.dcl.below hb, h.hdm⟩
theorem RC.le (h : RC B g n w arrs L an ln code f N ws v) : B ≤ w.heap.size := Nat.le_trans h.hB (Nat.le_of_lt h.row.lt)
theorem RC.m_ne (h : RC B g n w arrs L an ln code f N ws v) : v.m ≠ g := fun e => by
  obtain ⟨o, ho, hc⟩ := h.mp.isMap
  have := h.row
  unfold rowV at this
  rw [e, this] at ho
  injection ho with ho
  rw [← ho] at hc
  cases hc
theorem Below.setG {B g j : Nat} {w : World} (hB : B ≤ g) (u : Value) : Below B w (w.setCell ⟨g, j, none⟩ u) := ⟨rfl, rfl, rfl, by simp [World.setCell], fun k hk => Below.heap_setCell w ⟨g, j, none⟩ u k (by show k ≠ g; omega)⟩
theorem RC.push_arrs (h : RC B g n w arrs L an ln code f N ws v) {A2 : Option Addr} {c2 : Nat} {y : Arr} (ho : OwnS encAr 2 X B 47 A2 (v.na + 1) c2 (arrs ++ [y])) (hb : Below B w X) (hg : w.grownBy X (Value.slice v.Aa v.na v.ca).ownBlock)
    (hf : ∀ b, (Value.slice A2 (v.na + 1) c2).ownBlock = some b → (Value.slice v.Aa v.na v.ca).ownBlock = some b ∨ w.heap.size ≤ b) :
    RC B g n (X.setCell ⟨g, 2, none⟩ (.slice A2 (v.na + 1) c2)) (arrs ++ [y]) L an ln code f N ws { v with Aa := A2, na := v.na + 1, ca := c2 } := by
  have hne := h.oa.ne_row h.row (by decide)
  have rX := h.row.grown hg (fun e => hne _ e.symm rfl)
  have g2 : X.grownBy (X.setCell ⟨g, 2, none⟩ (.slice A2 (v.na + 1) c2)) (some g) := grownBy.setCell' (World.grownBy.refl X (some g)) _
  have oc1 := h.oc.grown hg (fun b hb => h.oc.ne_own h.oa (by decide) b hb)
  have on1 := h.on.grown hg (fun b hb => h.on.ne_own h.oa (by decide) b hb)
  have ol1 := h.ol.grown hg (fun b hb => h.ol.ne_own h.oa (by decide) b hb)
  obtain ⟨om, hom, hmc⟩ := h.mp.isMap
  have mp1 := h.mp.same (hg.block _ h.mp.lt (fun e => h.oa.ne_map hom hmc _ e.symm rfl))
  have mp2 : MapIs Tryd.prog 9 3 .i64 (X.setCell ⟨g, 2, none⟩ (.slice A2 (v.na + 1) c2)) v.m N f := mp1.same (Below.heap_setCell X ⟨g, 2, none⟩ _ v.m h.m_ne)
  have hbs := Below.setG (w := X) (j := 2) h.hB (.slice A2 (v.na + 1) c2)
  have er1 := h.err.grown hg (fun b hb => Nat.lt_of_lt_of_le h.hE (h.oa.blk hb).2.1)
  have dn := h.dcl.ne_own h.oa (by decide)
  have dc1 := h.dcl.grown hg dn.1 dn.2
  exact ⟨rX.set 2 _, (h.wm.below hb).below hbs, h.hk, h.hB, h.hm, ho.grown g2 (ho.ne_row rX (by decide)), oc1.grown g2 (oc1.ne_row rX (by decide)), on1.grown g2 (on1.ne_row rX (by decide)), ol1.grown g2 (ol1.ne_row rX (by decide)), h.ne, mp2, er1.grown g2 (fun b hb => by injection hb with hb; rw [← hb]; exact Nat.lt_of_lt_of_le h.hE h.hB), h.hE, dc1.setRow rX (by decide) _, h.hdm⟩
theorem RC.push_code (h : RC B g n w arrs L an ln code f N ws v) {A2 : Option Addr} {c2 : Nat} {y : Ins} (ho : OwnS encIn 2 X B 57 A2 (v.nc + 1) c2 (code ++ [y])) (hb : Below B w X) (hg : w.grownBy X (Value.slice v.Ac v.nc v.cc).ownBlock)
    (hf : ∀ b, (Value.slice A2 (v.nc + 1) c2).ownBlock = some b → (Value.slice v.Ac v.nc v.cc).ownBlock = some b ∨ w.heap.size ≤ b) :
    RC B g n (X.setCell ⟨g, 4, none⟩ (.slice A2 (v.nc + 1) c2)) arrs L an ln (code ++ [y]) f N ws { v with Ac := A2, nc := v.nc + 1, cc := c2 } := by
  have hne := h.oc.ne_row h.row (by decide)
  have rX := h.row.grown hg (fun e => hne _ e.symm rfl)
  have g2 : X.grownBy (X.setCell ⟨g, 4, none⟩ (.slice A2 (v.nc + 1) c2)) (some g) := grownBy.setCell' (World.grownBy.refl X (some g)) _
  have oa1 := h.oa.grown hg (fun b hb => h.oa.ne_own h.oc (by decide) b hb)
  have on1 := h.on.grown hg (fun b hb => h.on.ne_own h.oc (by decide) b hb)
  have ol1 := h.ol.grown hg (fun b hb => h.ol.ne_own h.oc (by decide) b hb)
  obtain ⟨om, hom, hmc⟩ := h.mp.isMap
  have mp1 := h.mp.same (hg.block _ h.mp.lt (fun e => h.oc.ne_map hom hmc _ e.symm rfl))
  have mp2 : MapIs Tryd.prog 9 3 .i64 (X.setCell ⟨g, 4, none⟩ (.slice A2 (v.nc + 1) c2)) v.m N f := mp1.same (Below.heap_setCell X ⟨g, 4, none⟩ _ v.m h.m_ne)
  have hbs := Below.setG (w := X) (j := 4) h.hB (.slice A2 (v.nc + 1) c2)
  have er1 := h.err.grown hg (fun b hb => Nat.lt_of_lt_of_le h.hE (h.oc.blk hb).2.1)
  have dn := h.dcl.ne_own h.oc (by decide)
  have dc1 := h.dcl.grown hg dn.1 dn.2
  exact ⟨rX.set 4 _, (h.wm.below hb).below hbs, h.hk, h.hB, h.hm, oa1.grown g2 (oa1.ne_row rX (by decide)), ho.grown g2 (ho.ne_row rX (by decide)), on1.grown g2 (on1.ne_row rX (by decide)), ol1.grown g2 (ol1.ne_row rX (by decide)), h.ne, mp2, er1.grown g2 (fun b hb => by injection hb with hb; rw [← hb]; exact Nat.lt_of_lt_of_le h.hE h.hB), h.hE, dc1.setRow rX (by decide) _, h.hdm⟩
theorem RC.push_an (h : RC B g n w arrs L an ln code f N ws v) {A2 : Option Addr} {c2 : Nat} {y : List UInt8} (ho : OwnS encSt 1 X B 9 A2 (v.nn + 1) c2 (an ++ [y])) (hb : Below B w X) (hg : w.grownBy X (Value.slice v.An v.nn v.cn).ownBlock)
    (hf : ∀ b, (Value.slice A2 (v.nn + 1) c2).ownBlock = some b → (Value.slice v.An v.nn v.cn).ownBlock = some b ∨ w.heap.size ≤ b) :
    RC B g n (X.setCell ⟨g, 5, none⟩ (.slice A2 (v.nn + 1) c2)) arrs L (an ++ [y]) ln code f N ws { v with An := A2, nn := v.nn + 1, cn := c2 } := by
  have hne := h.on.ne_row h.row (by decide)
  have rX := h.row.grown hg (fun e => hne _ e.symm rfl)
  have g2 : X.grownBy (X.setCell ⟨g, 5, none⟩ (.slice A2 (v.nn + 1) c2)) (some g) := grownBy.setCell' (World.grownBy.refl X (some g)) _
  have oa1 := h.oa.grown hg (fun b hb => h.oa.ne_own h.on (by decide) b hb)
  have oc1 := h.oc.grown hg (fun b hb => h.oc.ne_own h.on (by decide) b hb)
  have ol1 := h.ol.grown hg (fun b hb e => h.ne b e.symm hb.symm)
  obtain ⟨om, hom, hmc⟩ := h.mp.isMap
  have mp1 := h.mp.same (hg.block _ h.mp.lt (fun e => h.on.ne_map hom hmc _ e.symm rfl))
  have mp2 : MapIs Tryd.prog 9 3 .i64 (X.setCell ⟨g, 5, none⟩ (.slice A2 (v.nn + 1) c2)) v.m N f := mp1.same (Below.heap_setCell X ⟨g, 5, none⟩ _ v.m h.m_ne)
  have hbs := Below.setG (w := X) (j := 5) h.hB (.slice A2 (v.nn + 1) c2)
  have er1 := h.err.grown hg (fun b hb => Nat.lt_of_lt_of_le h.hE (h.on.blk hb).2.1)
  have dn := h.dcl.ne_own h.on (by decide)
  have dc1 := h.dcl.grown hg dn.1 dn.2
  exact ⟨rX.set 5 _, (h.wm.below hb).below hbs, h.hk, h.hB, h.hm, oa1.grown g2 (oa1.ne_row rX (by decide)), oc1.grown g2 (oc1.ne_row rX (by decide)), ho.grown g2 (ho.ne_row rX (by decide)), ol1.grown g2 (ol1.ne_row rX (by decide)), (fun b hb => by
    rcases hf b hb with h1 | h1
    · exact h.ne b h1
    · intro e
      have := (h.ol.blk e.symm).1
      omega), mp2, er1.grown g2 (fun b hb => by injection hb with hb; rw [← hb]; exact Nat.lt_of_lt_of_le h.hE h.hB), h.hE, dc1.setRow rX (by decide) _, h.hdm⟩
theorem RC.push_ln (h : RC B g n w arrs L an ln code f N ws v) {A2 : Option Addr} {c2 : Nat} {y : List UInt8} (ho : OwnS encSt 1 X B 9 A2 (v.nl + 1) c2 (ln ++ [y])) (hb : Below B w X) (hg : w.grownBy X (Value.slice v.Al v.nl v.cl).ownBlock)
    (hf : ∀ b, (Value.slice A2 (v.nl + 1) c2).ownBlock = some b → (Value.slice v.Al v.nl v.cl).ownBlock = some b ∨ w.heap.size ≤ b) :
    RC B g n (X.setCell ⟨g, 6, none⟩ (.slice A2 (v.nl + 1) c2)) arrs L an (ln ++ [y]) code f N ws { v with Al := A2, nl := v.nl + 1, cl := c2 } := by
  have hne := h.ol.ne_row h.row (by decide)
  have rX := h.row.grown hg (fun e => hne _ e.symm rfl)
  have g2 : X.grownBy (X.setCell ⟨g, 6, none⟩ (.slice A2 (v.nl + 1) c2)) (some g) := grownBy.setCell' (World.grownBy.refl X (some g)) _
  have oa1 := h.oa.grown hg (fun b hb => h.oa.ne_own h.ol (by decide) b hb)
  have oc1 := h.oc.grown hg (fun b hb => h.oc.ne_own h.ol (by decide) b hb)
  have on1 := h.on.grown hg (fun b hb => h.ne b hb)
  obtain ⟨om, hom, hmc⟩ := h.mp.isMap
  have mp1 := h.mp.same (hg.block _ h.mp.lt (fun e => h.ol.ne_map hom hmc _ e.symm rfl))
  have mp2 : MapIs Tryd.prog 9 3 .i64 (X.setCell ⟨g, 6, none⟩ (.slice A2 (v.nl + 1) c2)) v.m N f := mp1.same (Below.heap_setCell X ⟨g, 6, none⟩ _ v.m h.m_ne)
  have hbs := Below.setG (w := X) (j := 6) h.hB (.slice A2 (v.nl + 1) c2)
  have er1 := h.err.grown hg (fun b hb => Nat.lt_of_lt_of_le h.hE (h.ol.blk hb).2.1)
  have dn := h.dcl.ne_own h.ol (by decide)
  have dc1 := h.dcl.grown hg dn.1 dn.2
  exact ⟨rX.set 6 _, (h.wm.below hb).below hbs, h.hk, h.hB, h.hm, oa1.grown g2 (oa1.ne_row rX (by decide)), oc1.grown g2 (oc1.ne_row rX (by decide)), on1.grown g2 (on1.ne_row rX (by decide)), ho.grown g2 (ho.ne_row rX (by decide)), (fun b hb e => by
    rcases hf b e.symm with h1 | h1
    · exact h.ne b hb h1.symm
    · have := (h.on.blk hb).1
      omega), mp2, er1.grown g2 (fun b hb => by injection hb with hb; rw [← hb]; exact Nat.lt_of_lt_of_le h.hE h.hB), h.hE, dc1.setRow rX (by decide) _, h.hdm⟩
theorem RC.setL (h : RC B g n w arrs L an ln code f N ws v) (L' : Int) : RC B g n (w.setCell ⟨g, 3, none⟩ (.int .i64 L')) arrs L' an ln code f N ws v := by
  have g2 : w.grownBy (w.setCell ⟨g, 3, none⟩ (.int .i64 L')) (some g) := grownBy.setCell' (World.grownBy.refl w (some g)) _
  have hbs := Below.setG (w := w) (j := 3) h.hB (.int .i64 L')
  exact ⟨h.row.set 3 _, h.wm.below hbs, h.hk, h.hB, h.hm, h.oa.grown g2 (h.oa.ne_row h.row (by decide)), h.oc.grown g2 (h.oc.ne_row h.row (by decide)), h.on.grown g2 (h.on.ne_row h.row (by decide)), h.ol.grown g2 (h.ol.ne_row h.row (by decide)), h.ne, h.mp.same (Below.heap_setCell w ⟨g, 3, none⟩ _ v.m h.m_ne), h.err.grown g2 (fun b hb => by injection hb with hb; rw [← hb]; exact Nat.lt_of_lt_of_le h.hE h.hB), h.hE, h.dcl.setRow h.row (by decide) _, h.hdm⟩
theorem RC.setM (h : RC B g n w arrs L an ln code f N ws v) {f' : List UInt8 → Option Int} (hmp : MapIs Tryd.prog 9 3 .i64 X v.m (N + 1) f') (hg : w.grownBy X (some v.m)) : RC B g n X arrs L an ln code f' (N + 1) ws v := by
  obtain ⟨om, hom, hmc⟩ := h.mp.isMap
  have hb : Below B w X := ⟨hg.os, hg.tape, hg.output, hg.size, fun k hk => hg.block k (Nat.lt_of_lt_of_le hk h.le) (fun e => by injection e with e; have := h.hm; omega)⟩
  exact ⟨h.row.grown hg (fun e => h.m_ne (by injection e with e; exact e.symm)), h.wm.below hb, h.hk, h.hB, h.hm, h.oa.grown hg (fun b hb e => h.oa.ne_map hom hmc b hb (by injection e)), h.oc.grown hg (fun b hb e => h.oc.ne_map hom hmc b hb (by injection e)), h.on.grown hg (fun b hb e => h.on.ne_map hom hmc b hb (by injection e)), h.ol.grown hg (fun b hb e => h.ol.ne_map hom hmc b hb (by injection e)), h.ne, hmp, h.err.grown hg (fun b hb => by injection hb with hb; rw [← hb]; exact Nat.lt_of_lt_of_le h.hE h.hm), h.hE, h.dcl.grown hg (fun e => h.hdm (by injection e)) (fun e => by
    injection e with e
    have h2 := h.dcl.2
    unfold rowV at h2
    have e' : g + 1 = v.m := e
    rw [e', hom] at h2
    injection h2 with h2
    rw [h2] at hmc
    cases hmc), h.hdm⟩
end
/-- what reading an item leaves. -/
def DoesL (B g n : Nat) (w : World) (r : AR) (e : Ending) (w' : World) : Prop := match r with
  | .bad a er => FailsB B w a er e w'
  | .ok s ws => e = .returned (.tuple #[]) ∧ Below B w w' ∧ ∃ v, RD B g n w' s ws v
end Go.Proofs.YtlbhggjkcfcobaaDoor
namespace Go.Proofs.YtlbhggjkcfcobaaDoor
open Go.RowKit Go.Proofs
set_option linter.unusedVariables false

theorem step_pushT {P : Program} {α : Type} {enc : α → List Value} {sz : Nat} {w : World} {B : Nat} {e t : TypeId} {A : Option Addr} {n c : Nat} {xs : List α} {z : Value} {bytes : Nat}
  {ops : Array Oper} {o : Oper} {a : Act} {K : Act → World → Prop} {Q : Exit → Act → World → Prop} {E : Prop} (hgd : o.guard = none) (s x : Operand) (ho : o.op = .call { callee := .builtin .append, args := #[s, x], argTypes := #[t, t] })
    (ht : P.underlying t = some (.slice e)) (hi : (P.info? e).map (fun i => (i.zero, i.size, i.bytes)) = some (some z, sz, bytes))
    (h1 : ∀ x, ∀ u ∈ enc x, u.oneCell' = true) (hz : z.cells.size = sz) (hl : ∀ x, (enc x).length = sz) (hsz : 0 < sz)
    (hs : a.eval s = .slice A n c) (hown : OwnS enc sz w B e A n c xs) (hB : B ≤ w.heap.size) (y : α) (cs : Array Value) (hcs : (enc y).toArray = cs)
    (hx : a.eval x = .slice (some ⟨w.heap.size, 0, none⟩) 1 1) (hml : n + 1 ≤ maxLen) (hby : (n + 1) * bytes ≤ 140737488355328)
    (h : ∀ A2 c2 w', OwnS enc sz w' B e A2 (n + 1) c2 (xs ++ [y]) → Below B w w' → w.grownBy w' (Value.slice A n c).ownBlock → (∀ b, (Value.slice A2 (n + 1) c2).ownBlock = some b → (Value.slice A n c).ownBlock = some b ∨ w.heap.size ≤ b) → K (a.put o.dst (.slice A2 (n + 1) c2)) w') :
    if Region.wanted o (yielded ops a.tmps) = true then Oper.wp P o a (w.alloc (.cells cs e)) K Q else E := by
  subst hcs
  rw [if_pos (by simp [Region.wanted, hgd])]
  obtain ⟨A2, c2, w', hrun, h2, h3, h4, h5⟩ := run_append_ownS' (P := P) o.type ht hi h1 hz hl hsz hown hB y hml hby
  unfold Oper.wp execOp
  simp only [ho, resolve, invoke, builtin, Sem.run_bind, Sem.run_pure, Result.andThen_ok, List.map_toArray, List.map_cons, List.map_nil, hs, hx, hrun]
  exact h A2 c2 w' h2 h3 h4 h5
set_option maxRecDepth 100000 in
set_option maxHeartbeats 4000000 in
theorem local_ok (B g n : Nat) (v : RVs) (s : AS) (ws : List Wd) (w : World) (h : RD B g n w s ws v) (hF : freshE s (nextW n ws).1 = 0) (hL : s.ln.length < 16) :
    Calls Tryd.prog 71 #[.pointer (some ⟨g, 0, none⟩)] w fun e w' => e = .returned (.tuple #[]) ∧ Below B w w' ∧ ∃ v', RD B g n w' { s with ln := s.ln ++ [(nextW n ws).1] } ws.tail v' := by
  have H1 := asmFresh_ok B g n v s ws w h hF
  obtain ⟨x, z, hx⟩ : ∃ x z, nextW n ws = (x, z) := ⟨_, _, rfl⟩
  rw [hx] at H1 ⊢
  dsimp only at H1 ⊢
  have H1' := Lib.hid H1
  have hgl := h.row.lt
  have hnl : v.nl = s.ln.length := (h.ol.length (fun _ => rfl) (by decide)).symm
  have d16 : decide ((v.nl : Int) < 16) = true := by simp; omega
  have d16' : decide (v.nl < 16) = true := by simp; omega
  have hm : Hid (v.nl + 1 ≤ maxLen ∧ (v.nl + 1) * 16 ≤ 140737488355328) := ⟨by simp [maxLen]; omega, by omega⟩
  have hnl' := Lib.hid hnl
  clear hnl
  clear H1
  go_enter Tryd.func71, Tryd.ntmps71
  go_wp2_with fail
  refine H1'.out.mono ?_
  rintro e w1 ⟨rfl, hN⟩
  obtain ⟨A', k', c', D1, hg1⟩ := h.next (ws' := ws.tail) (by rw [List.length_tail]; omega) hN
  have hB1 := Lib.hid (h.toBelow hg1)
  have hfew := Lib.hid h.few
  have hfm := Lib.hid h.fm
  clear H1' hN h
  have r2 := rowV.new w1 97 #[.string (strB x), .int .i64 (z : Int)]
  have hl2 := r2.lt
  have b12 : Below w1.heap.size w1 (w1.alloc (.cells #[.string (strB x), .int .i64 (z : Int)] 97)) := balloc (Below.refl _ _) _
  obtain ⟨w2, hw2⟩ : ∃ w2, w2 = w1.alloc (.cells #[.string (strB x), .int .i64 (z : Int)] 97) := ⟨_, rfl⟩
  rw [← hw2] at r2 hl2 b12
  obtain ⟨a0, a1⟩ := two_cellsV r2
  have D2 := D1.below b12
  have c6 : w2.cell? ⟨g, 6, none⟩ = some (.slice v.Al v.nl v.cl) := cell_rowV D2.row rfl
  have HD2 := Lib.hid D2
  have HB2 := Lib.hid (hB1.out.trans (b12.mono D1.le))
  clear D1 D2 b12 hg1
  go_wp2_with fail
  rw [← hw2]
  clear hw2
  refine wp_region_quiet_tail 7 (by kernel_rfl) (by kernel_rfl) ?_
  simp only [List.take_succ_cons, List.take_zero, List.drop_succ_cons, List.drop_zero]
  repeat (go_big_quiet_step (fail))
  refine wpQuiet_nil ?_
  intro _ hw'
  obtain ⟨nr, hw''⟩ := hw'
  subst hw''
  go_wp2_with fail
  refine (demand_ok x z 6 _).mono ?_
  rintro e w3 ⟨rfl, hb3⟩
  have b23 : Below w2.heap.size w2 w3 := (bdrew (Below.refl _ _) nr).trans (hb3.mono (Nat.le_refl _))
  have D3 := HD2.out.below b23
  have r3 := r2.below b23 hl2
  obtain ⟨e0, e1⟩ := two_cellsV r3
  have d6 : w3.cell? ⟨g, 6, none⟩ = some (.slice v.Al v.nl v.cl) := cell_rowV D3.row rfl
  have f6 := frozen_rowV' D3.row 6
  have hB3 := Lib.hid (HB2.out.trans (b23.mono HD2.out.le))
  have hg3 : g < w3.heap.size := D3.row.lt
  have hw13 : w1.heap.size < w3.heap.size := r3.lt
  have b34 : Below w3.heap.size w3 w3.drew := (Drawn.drewN w3 1).below _
  have HD4 := Lib.hid (D3.toRC.below b34)
  have HB4 := Lib.hid (hB3.out.trans (b34.mono D3.le))
  clear D3 HD2 HB2 c6 a0 a1 hb3 b23 b34 hB3
  go_wp2_with fail
  go_region_law (first | (refine step_pushT (enc := encSt) (w := w3.drew) rfl (.tmp 17) (.tmp 20) rfl uSt infoSt encSt_one rfl (fun _ => rfl) (by decide) rfl HD4.out.ol HD4.out.le x _ rfl rfl hm.out.1 hm.out.2 ?_; intro A8 c8 w8 ho8 hb8 hg8 hf8; have rX := HD4.out.row.grown hg8 (fun e => (HD4.out.ol.ne_row HD4.out.row (by decide)) _ e.symm rfl); have e86 : w8.cell? ⟨g, 6, none⟩ = some (.slice v.Al v.nl v.cl) := cell_rowV rX rfl; have e83 : w8.cell? ⟨g, 3, none⟩ = some (.int .i64 (s.ln.length : Int)) := cell_rowV rX rfl; have f86 := frozen_rowV' rX 6; have f83 := frozen_rowV' rX 3))
  all_goals
    have HD8 := Lib.hid (HD4.out.push_ln ho8 hb8 hg8 hf8)
    have HB8 := Lib.hid (HB4.out.trans (hb8.trans (Below.setG (w := w8) (j := 6) HD4.out.hB (.slice A8 (v.nl + 1) c8))))
    clear rX ho8 hb8 hg8 hf8 d6 f6 e0 e1
    go_wp2_with fail
    have D9 := HD8.out.setL ((s.ln.length : Int) + 1)
    refine ⟨rfl, _, results_none rfl _ _ _, rfl, HB8.out.trans (Below.setG HD8.out.hB _), _, RC.toRD (s := { s with ln := s.ln ++ [x] }) (v := { v.at_ A' k' c' with Al := A8, nl := v.nl + 1, cl := c8 }) ?_ ?_ ?_⟩
    · have e : (((s.ln ++ [x]).length : Nat) : Int) = (s.ln.length : Int) + 1 := by simp
      show RC _ _ _ _ _ (((s.ln ++ [x]).length : Nat) : Int) _ _ _ _ _ _ _
      rw [e]
      exact D9
    · have := hfew.out
      show s.cn.length + ws.tail.length ≤ 9000
      rw [List.length_tail]; omega
    · refine ⟨hfm.out.an, hfm.out.few, hfm.out.sizes, hfm.out.cells, by simp; omega, hfm.out.code, fun i hi => (hfm.out.ins i hi).mono (Nat.le_refl _) (by simp), hfm.out.cn⟩
end Go.Proofs.YtlbhggjkcfcobaaDoor

/- The contracts of the assembler's local, constant, array. -/
import Derived.Test.YtlbhggjkcfcobaaDoorGa
namespace Go.Proofs.YtlbhggjkcfcobaaDoor
open Go.RowKit Go.Proofs
set_option linter.unusedVariables false

theorem step_pushT {P : Program} {α : Type} {enc : α → List Value} {sz : Nat} {w : World} {B : Nat} {e t : TypeId} {A : Option Addr} {n c : Nat} {xs : List α} {z : Value} {bytes : Nat}
  {ops : Array Oper} {o : Oper} {a : Act} {K : Act → World → Prop} {Q : Exit → Act → World → Prop} {E : Prop} (hgd : o.guard = none) (s x : Operand) (ho : o.op = .call { callee := .builtin .append, args := #[s, x], argTypes := #[t, t] })
    (ht : P.underlying t = some (.slice e)) (hi : (P.info? e).map (fun i => (i.zero, i.size, i.bytes)) = some (some z, sz, bytes))
    (h1 : ∀ x, ∀ u ∈ enc x, u.oneCell' = true) (hz : z.cells.size = sz) (hl : ∀ x, (enc x).length = sz) (hsz : 0 < sz)
    (hs : a.eval s = .slice A n c) (hown : OwnS enc sz w B e A n c xs) (hB : B ≤ w.heap.size) (y : α) (cs : Array Value) (hcs : (enc y).toArray = cs)
    (hx : a.eval x = .slice (some ⟨w.heap.size, 0, none⟩) 1 1) (hml : n + 1 ≤ maxLen) (hby : (n + 1) * bytes ≤ 140737488355328)
    (h : ∀ A2 c2 w', OwnS enc sz w' B e A2 (n + 1) c2 (xs ++ [y]) → Below B w w' → w.grownBy w' (Value.slice A n c).ownBlock → (∀ b, (Value.slice A2 (n + 1) c2).ownBlock = some b → (Value.slice A n c).ownBlock = some b ∨ w.heap.size ≤ b) → K (a.put o.dst (.slice A2 (n + 1) c2)) w') :
    if Region.wanted o (yielded ops a.tmps) = true then Oper.wp P o a (w.alloc (.cells cs e)) K Q else E := by
  subst hcs
  rw [if_pos (by simp [Region.wanted, hgd])]
  obtain ⟨A2, c2, w', hrun, h2, h3, h4, h5⟩ := run_append_ownS' (P := P) o.type ht hi h1 hz hl hsz hown hB y hml hby
  unfold Oper.wp execOp
  simp only [ho, resolve, invoke, builtin, Sem.run_bind, Sem.run_pure, Result.andThen_ok, List.map_toArray, List.map_cons, List.map_nil, hs, hx, hrun]
  exact h A2 c2 w' h2 h3 h4 h5
set_option maxRecDepth 100000 in
set_option maxHeartbeats 4000000 in
theorem local_ok (B g n : Nat) (v : RVs) (s : AS) (ws : List Wd) (w : World) (h : RD B g n w s ws v) (hF : freshE s (nextW n ws).1 = 0) (hL : s.ln.length < 16) :
    Calls Tryd.prog 71 #[.pointer (some ⟨g, 0, none⟩)] w fun e w' => e = .returned (.tuple #[]) ∧ Below B w w' ∧ ∃ v', RD B g n w' { s with ln := s.ln ++ [(nextW n ws).1] } ws.tail v' := by
  have H1 := asmFresh_ok B g n v s ws w h hF
  obtain ⟨x, z, hx⟩ : ∃ x z, nextW n ws = (x, z) := ⟨_, _, rfl⟩
  rw [hx] at H1 ⊢
  dsimp only at H1 ⊢
  have H1' := Lib.hid H1
  have hgl := h.row.lt
  have hnl : v.nl = s.ln.length := (h.ol.length (fun _ => rfl) (by decide)).symm
  have d16 : decide ((v.nl : Int) < 16) = true := by simp; omega
  have d16' : decide (v.nl < 16) = true := by simp; omega
  have hm : Hid (v.nl + 1 ≤ maxLen ∧ (v.nl + 1) * 16 ≤ 140737488355328) := ⟨by simp [maxLen]; omega, by omega⟩
  have hnl' := Lib.hid hnl
  clear hnl
  clear H1
  go_enter Tryd.func71, Tryd.ntmps71
  go_wp2_with fail
  refine H1'.out.mono ?_
  rintro e w1 ⟨rfl, hN⟩
  obtain ⟨A', k', c', D1, hg1⟩ := h.next (ws' := ws.tail) (by rw [List.length_tail]; omega) hN
  have hB1 := Lib.hid (h.toBelow hg1)
  have hfew := Lib.hid h.few
  have hfm := Lib.hid h.fm
  clear H1' hN h
  have r2 := rowV.new w1 97 #[.string (strB x), .int .i64 (z : Int)]
  have hl2 := r2.lt
  have b12 : Below w1.heap.size w1 (w1.alloc (.cells #[.string (strB x), .int .i64 (z : Int)] 97)) := balloc (Below.refl _ _) _
  obtain ⟨w2, hw2⟩ : ∃ w2, w2 = w1.alloc (.cells #[.string (strB x), .int .i64 (z : Int)] 97) := ⟨_, rfl⟩
  rw [← hw2] at r2 hl2 b12
  obtain ⟨a0, a1⟩ := two_cellsV r2
  have D2 := D1.below b12
  have c6 : w2.cell? ⟨g, 6, none⟩ = some (.slice v.Al v.nl v.cl) := cell_rowV D2.row rfl
  have HD2 := Lib.hid D2
  have HB2 := Lib.hid (hB1.out.trans (b12.mono D1.le))
  clear D1 D2 b12 hg1
  go_wp2_with fail
  rw [← hw2]
  clear hw2
  refine wp_region_quiet_tail 7 (by kernel_rfl) (by kernel_rfl) ?_
  simp only [List.take_succ_cons, List.take_zero, List.drop_succ_cons, List.drop_zero]
  repeat (go_big_quiet_step (fail))
  refine wpQuiet_nil ?_
  intro _ hw'
  obtain ⟨nr, hw''⟩ := hw'
  subst hw''
  go_wp2_with fail
  refine (demand_ok x z 6 _).mono ?_
  rintro e w3 ⟨rfl, hb3⟩
  have b23 : Below w2.heap.size w2 w3 := (bdrew (Below.refl _ _) nr).trans (hb3.mono (Nat.le_refl _))
  have D3 := HD2.out.below b23
  have r3 := r2.below b23 hl2
  obtain ⟨e0, e1⟩ := two_cellsV r3
  have d6 : w3.cell? ⟨g, 6, none⟩ = some (.slice v.Al v.nl v.cl) := cell_rowV D3.row rfl
  have f6 := frozen_rowV' D3.row 6
  have hB3 := Lib.hid (HB2.out.trans (b23.mono HD2.out.le))
  have hg3 : g < w3.heap.size := D3.row.lt
  have hw13 : w1.heap.size < w3.heap.size := r3.lt
  have b34 : Below w3.heap.size w3 w3.drew := (Drawn.drewN w3 1).below _
  have HD4 := Lib.hid (D3.toRC.below b34)
  have HB4 := Lib.hid (hB3.out.trans (b34.mono D3.le))
  clear D3 HD2 HB2 c6 a0 a1 hb3 b23 b34 hB3
  go_wp2_with fail
  go_region_law (first | (refine step_pushT (enc := encSt) (w := w3.drew) rfl (.tmp 17) (.tmp 20) rfl uSt infoSt encSt_one rfl (fun _ => rfl) (by decide) rfl HD4.out.ol HD4.out.le x _ rfl rfl hm.out.1 hm.out.2 ?_; intro A8 c8 w8 ho8 hb8 hg8 hf8; have rX := HD4.out.row.grown hg8 (fun e => (HD4.out.ol.ne_row HD4.out.row (by decide)) _ e.symm rfl); have e86 : w8.cell? ⟨g, 6, none⟩ = some (.slice v.Al v.nl v.cl) := cell_rowV rX rfl; have e83 : w8.cell? ⟨g, 3, none⟩ = some (.int .i64 (s.ln.length : Int)) := cell_rowV rX rfl; have f86 := frozen_rowV' rX 6; have f83 := frozen_rowV' rX 3))
  all_goals
    have HD8 := Lib.hid (HD4.out.push_ln ho8 hb8 hg8 hf8)
    have HB8 := Lib.hid (HB4.out.trans (hb8.trans (Below.setG (w := w8) (j := 6) HD4.out.hB (.slice A8 (v.nl + 1) c8))))
    clear rX ho8 hb8 hg8 hf8 d6 f6 e0 e1
    go_wp2_with fail
    have D9 := HD8.out.setL ((s.ln.length : Int) + 1)
    refine ⟨rfl, _, results_none rfl _ _ _, rfl, HB8.out.trans (Below.setG HD8.out.hB _), _, RC.toRD (s := { s with ln := s.ln ++ [x] }) (v := { v.at_ A' k' c' with Al := A8, nl := v.nl + 1, cl := c8 }) ?_ ?_ ?_⟩
    · have e : (((s.ln ++ [x]).length : Nat) : Int) = (s.ln.length : Int) + 1 := by simp
      show RC _ _ _ _ _ (((s.ln ++ [x]).length : Nat) : Int) _ _ _ _ _ _ _
      rw [e]
      exact D9
    · have := hfew.out
      show s.cn.length + ws.tail.length ≤ 9000
      rw [List.length_tail]; omega
    · refine ⟨hfm.out.an, hfm.out.few, hfm.out.sizes, hfm.out.cells, by simp; omega, hfm.out.code, fun i hi => (hfm.out.ins i hi).mono (Nat.le_refl _) (by simp), hfm.out.cn⟩
end Go.Proofs.YtlbhggjkcfcobaaDoor

/- slices.Grow and slices.Concat at strings; the assembler's Names. -/
import Derived.Test.YtlbhggjkcfcobaaDoorGj
import Derived.Lib.AppendZerosOnto
namespace Go.Proofs.YtlbhggjkcfcobaaDoor
open Go.RowKit Go.Proofs
set_option linter.unusedVariables false

def encS1 (x : List UInt8) : Value := .string (strB x)
theorem encS1_one (x : List UInt8) : (encS1 x).oneCell' = true := rfl
theorem infoS1 : (Tryd.prog.info? 9).map (fun i => (i.zero, i.size, i.bytes)) = some (some (encS1 []), 1, 16) := by kernel_rfl
theorem tSt : Tryd.prog.underlying 34 = some (.slice (Tryd.prog.elem 34)) := by kernel_rfl
theorem eSt : Tryd.prog.elem 34 = 9 := by kernel_rfl
theorem sSt : ∀ W : World, (sizeOf 9).run Tryd.prog W = .ok 1 W := fun _ => by kernel_rfl
theorem Own.toStrs1 {w : World} {B : Nat} {A : Option Addr} {n c : Nat} {l : List (List UInt8)} (h : Own encS1 w B 9 A n c l) : StrsM w A n c l := ⟨h.length, h.cap, h.cells []⟩
theorem wpList_appz {P : Program} {ops : Array Oper} {rest : List Oper} {o : Oper} {a : Act} {Q : Exit → Act → World → Prop} {w w' : World} {t tn : TypeId} {vs vx v : Value} (hgd : o.guard = none) (s x : Operand) (ho : o.op = .call { callee := .builtin .append, args := #[s, x], argTypes := #[t, tn] })
    (hs : a.eval s = vs) (hx : a.eval x = vx) (hrun : (Builtin.append_ #[t, tn] o.type #[vs, vx]).run P w = .ok v w') (h : wpList P ops Q rest (a.put o.dst v) w') : wpList P ops Q (o :: rest) a w := by
  refine wpList_plain hgd fun K hK => ?_
  unfold Oper.wp execOp
  simp only [ho, resolve, invoke, builtin, Sem.run_bind, Sem.run_pure, Result.andThen_ok, List.map_toArray, List.map_cons, List.map_nil, hs, hx, hrun]
  exact hK _ _ h
set_option maxRecDepth 100000 in
theorem grow_nil (n : Nat) (w : World) (hn : n ≤ 1000) : Calls Tryd.prog 51 #[.slice none 0 0, .int .i64 (n : Int)] w fun e w' => ∃ A c, e = .returned (.slice A 0 c) ∧ Own encS1 w' w.heap.size 9 A 0 c [] ∧ Below w.heap.size w w' := by
  by_cases h0 : n = 0
  · subst h0
    go_enter Tryd.func51, Tryd.ntmps51
    go_wp2_with fail
    go_ret
    exact ⟨_, _, rfl, Own.nil _ _ _ _, Below.refl _ _⟩
  · have d : decide ((0 : Int) < (n : Int)) = true := by simp; omega
    have d' : decide (0 < n) = true := by simp; omega
    have d2 : decide ((n : Int) < 0) = false := by simp
    obtain ⟨i, hi0, hz0, hs1, hb⟩ := info_parts infoS1
    have hge := grownCap_ge w n 0 9
    have hle := grownCap_le_maxLen w n 0 9 (by simp [maxLen]; omega)
    have hrun := fun ty => Lib.run_append_grow_zeros (P := Tryd.prog) w 34 3 ty 9 i (encS1 []) .i64 .i64 uSt uInt hi0 hz0 none 0 0 [] (by rw [hs1]; exact run_firstCells_none w.drew 1 0 0 0) n (by omega) (by omega) (by omega) (by omega) (by rw [hb]; omega) (by rw [hb]; unfold Builtin.nextslicecap; rw [if_pos (by omega)]; omega)
    rw [Nat.zero_add] at hrun
    obtain ⟨C, hC⟩ : ∃ C, C = grownCap w n 0 9 := ⟨_, rfl⟩
    rw [← hC] at hge hle hrun
    obtain ⟨W, hW⟩ : ∃ W, W = w.drew.alloc (.cells ([].toArray ++ Builtin.zeroCells (encS1 []).cells n ++ Builtin.zeroCells (encS1 []).cells (C - n)) 9) := ⟨_, rfl⟩
    rw [← hW] at hrun
    have hown : Own encS1 W w.heap.size 9 (some ⟨w.heap.size, 0, none⟩) 0 C [] := by
      refine ⟨rfl, .inr ⟨w.heap.size, C, _, rfl, Nat.le_refl _, by rw [hW]; exact heap_alloc_new w.drew _, by omega, hle, ?_, rfl⟩⟩
      simp only [Array.size_append, size_zeroCells]
      show 0 + n * 1 + (C - n) * 1 = C * 1
      omega
    have hbel : Below w.heap.size w W := by rw [hW]; exact balloc (w1 := w.drew) ((Drawn.drewN w 1).below _) _
    have hcut : ∀ X : World, (Instr.slice 34 (.slice (some ⟨w.heap.size, 0, none⟩) n C) none (some (.int .i64 0)) none).run Tryd.prog X = .ok (.slice (some ⟨w.heap.size, 0, none⟩) 0 C) X := fun X => by
      have := run_cut_h (P := Tryd.prog) tSt eSt sSt (A := some ⟨w.heap.size, 0, none⟩) (n := n) (c := C) 0 (by omega) (by omega) X
      exact this
    have HO := Lib.hid (And.intro hown hbel)
    have HRUN := Lib.hid hrun
    clear hrun hW hge hle hC hown hbel hi0 hz0 hs1 hb
    go_enter Tryd.func51, Tryd.ntmps51
    go_wp2_with (at_builtin; refine wpList_appz rfl (.tmp 20) (.tmp 21) rfl rfl rfl (HRUN.out _) ?_)
    go_ret
    exact ⟨_, _, rfl, HO.out.1, HO.out.2⟩
set_option maxRecDepth 100000 in
set_option maxHeartbeats 2000000 in
theorem concat_any (b : Nat) (A1 A2 : Option Addr) (n1 c1 n2 c2 : Nat) (l1 l2 : List (List UInt8)) (w : World) (hc0 : w.cell? ⟨b, 0, none⟩ = some (.slice A1 n1 c1)) (hc1 : w.cell? ⟨b, 1, none⟩ = some (.slice A2 n2 c2)) (h1 : StrsM w A1 n1 c1 l1) (h2 : StrsM w A2 n2 c2 l2) (hn1 : n1 ≤ 100) (hn2 : n2 ≤ 100) :
    Calls Tryd.prog 31 #[.slice (some ⟨b, 0, none⟩) 2 2] w fun e w' => ∃ A n c, e = .returned (.slice A n c) ∧ StrsM w' A n c (l1 ++ l2) ∧ Below w.heap.size w w' := by
  have hbw : b < w.heap.size := World.block_lt_of_cell? w _ hc0
  have hc0' : w.cell? ⟨b, 0 + 0, none⟩ = some (.slice A1 n1 c1) := hc0
  have hc1' : w.cell? ⟨b, 0 + 1, none⟩ = some (.slice A2 n2 c2) := hc1
  have HG0 := grow_nil (n1 + n2) w (by omega)
  rw [Int.natCast_add] at HG0
  have HG := Lib.hid HG0
  clear HG0
  have HH := Lib.hid (And.intro h1 h2)
  clear h1 h2
  go_enter Tryd.func31, Tryd.ntmps31
  go_wp2_with fail
  go_loop [3, 5, 11] (fun s3 _ s11 => (s11 = .int .i64 0 ∧ s3 = .int .i64 0) ∨ (s11 = .int .i64 1 ∧ s3 = .int .i64 (n1 : Int)) ∨ (s11 = .int .i64 2 ∧ s3 = .int .i64 ((n1 : Int) + (n2 : Int)))) (fun _ _ s11 => 2 - (intOf s11).toNat)
  case atStart => exact .inl ⟨rfl, rfl⟩
  case round =>
    rcases hrel with ⟨rfl, rfl⟩ | ⟨rfl, rfl⟩ | ⟨rfl, rfl⟩
    · go_wp2_with fail
      go_round
      case rel => exact .inr (.inl ⟨rfl, rfl⟩)
      case measure => decide
    · go_wp2_with fail
      go_round
      case rel => exact .inr (.inr ⟨rfl, rfl⟩)
      case measure => decide
    · go_wp2_with fail
      refine HG.out.mono ?_
      rintro e w1 ⟨A, c, rfl, ho, hb⟩
      have hs1 := HH.out.1.below hb
      have hs2 := HH.out.2.below hb
      have e0 : w1.cell? ⟨b, 0, none⟩ = some (.slice A1 n1 c1) := (hb.cell (p := ⟨b, 0, none⟩) hbw).trans hc0
      have e1 : w1.cell? ⟨b, 1, none⟩ = some (.slice A2 n2 c2) := (hb.cell (p := ⟨b, 1, none⟩) hbw).trans hc1
      have hbw1 : b < w1.heap.size := Nat.lt_of_lt_of_le hbw hb.size
      have HO := Lib.hid (And.intro ho (And.intro hs1 (And.intro hs2 hb)))
      have HCL := Lib.hid (And.intro hc0 hc1)
      clear ho hs1 hs2 hb hc0 hc1 hc0' hc1'
      have hm : Hid (∀ k, k ≤ 200 → k ≤ maxLen ∧ k * 16 ≤ 140737488355328) := fun k hk => ⟨by simp [maxLen]; omega, by omega⟩
      go_wp2_with fail
      go_loopw [6, 8, 27] (fun s6 _ s27 wr => ∃ (A : Option Addr) (m c : Nat) (l : List (List UInt8)), s6 = .slice A m c ∧ ((s27 = .int .i64 0 ∧ m = 0 ∧ l = []) ∨ (s27 = .int .i64 1 ∧ m = n1 ∧ l = l1) ∨ (s27 = .int .i64 2 ∧ m = n1 + n2 ∧ l = l1 ++ l2)) ∧ Hid (Own encS1 wr w.heap.size 9 A m c l ∧ Below w.heap.size w wr)) (fun _ _ s27 _ => 2 - (intOf s27).toNat)
      case atStart => exact ⟨A, 0, c, [], rfl, .inl ⟨rfl, rfl, rfl⟩, HO.out.1, HO.out.2.2.2⟩
      case round =>
        clear HO HG e0 e1 hbw1
        obtain ⟨A, m, c, l, rfl, hcase, HW⟩ := hrel
        have hbs : Hid (w.heap.size ≤ wr.heap.size) := HW.out.2.size
        have e0 : wr.cell? ⟨b, 0, none⟩ = some (.slice A1 n1 c1) := (HW.out.2.cell (p := ⟨b, 0, none⟩) hbw).trans HCL.out.1
        have e1 : wr.cell? ⟨b, 1, none⟩ = some (.slice A2 n2 c2) := (HW.out.2.cell (p := ⟨b, 1, none⟩) hbw).trans HCL.out.2
        have hbw1 : b < wr.heap.size := Nat.lt_of_lt_of_le hbw HW.out.2.size
        have HS1 := Lib.hid (HH.out.1.below HW.out.2)
        have HS2 := Lib.hid (HH.out.2.below HW.out.2)
        rcases hcase with ⟨rfl, rfl, rfl⟩ | ⟨rfl, rfl, rfl⟩ | ⟨rfl, rfl, rfl⟩
        · go_wp2_with (at_builtin; refine wpList_app (enc := encS1) (zero := ([] : List UInt8)) (bytes := 16) rfl (.tmp 31) (.tmp 32) rfl uSt infoS1 encS1_one rfl rfl HW.out.1 hbs.out A1 n1 c1 l1 ([] : List UInt8) HS1.out.1 HS1.out.2.2 rfl (hm.out _ (by omega)).1 (hm.out _ (by omega)).2 ?_; intro A5 c5 w5 ho5 hb5 hg5)
          have hbf := HW.out.2.trans hb5
          have ho6 : Own encS1 w5 w.heap.size 9 A5 n1 c5 l1 := by rw [Nat.zero_add, List.nil_append] at ho5; exact ho5
          go_roundw
          case rel => exact ⟨A5, n1, c5, l1, rfl, .inr (.inl ⟨rfl, rfl, rfl⟩), ho6, hbf⟩
          case measure => decide
        · go_wp2_with (at_builtin; refine wpList_app (enc := encS1) (zero := ([] : List UInt8)) (bytes := 16) rfl (.tmp 31) (.tmp 32) rfl uSt infoS1 encS1_one rfl rfl HW.out.1 hbs.out A2 n2 c2 l2 ([] : List UInt8) HS2.out.1 HS2.out.2.2 rfl (hm.out _ (by omega)).1 (hm.out _ (by omega)).2 ?_; intro A5 c5 w5 ho5 hb5 hg5)
          have hbf := HW.out.2.trans hb5
          go_roundw
          case rel => exact ⟨A5, _, c5, _, rfl, .inr (.inr ⟨rfl, rfl, rfl⟩), ho5, hbf⟩
          case measure => decide
        · go_wp2_with fail
          go_ret
          exact ⟨_, _, _, rfl, HW.out.1.toStrs1, HW.out.2⟩
/-- what Names returns. -/
def NamP (r : AR) (w : World) (e : Ending) (w' : World) : Prop := match r with
  | .bad a er => e = .returned (.tuple #[.slice none 0 0, .int .i64 (a : Int), .int .i64 er]) ∧ Below w.heap.size w w'
  | .ok s r => ∃ A n c, e = .returned (.tuple #[.slice A n c, .int .i64 0, .int .i64 0]) ∧ StrsM w' A n c (s.an ++ s.ln) ∧ Below w.heap.size w w'
set_option maxRecDepth 100000 in
set_option maxHeartbeats 2000000 in
theorem names_any (src : List UInt8) (w : World) (hs : src.length ≤ 100000000) (hE : ErrR w) : Calls Tryd.prog 15 #[.string (strB src)] w (NamP (readL src) w) := by
  have HR := read_any src w hs hE
  unfold ReadP at HR
  cases hr : readL src with
  | bad a er =>
    have hne := readL_ne hr
    rw [hr] at HR
    have HR' := Lib.hid HR
    have dne : (er != 0) = true := by simpa using hne
    clear HR hr hE hs
    go_enter Tryd.func15, Tryd.ntmps15
    go_wp2_with fail
    refine HR'.out.mono ?_
    rintro e w1 ⟨rfl, hb1⟩
    go_wp2_with fail
    refine bodyPost_ret (v := .tuple #[.slice none 0 0, .int .i64 (a : Int), .int .i64 er]) ?_ rfl ⟨rfl, hb1⟩
    simp [results, Tryd.results15, go_sem]
  | ok s r =>
    rw [hr] at HR
    have HR' := Lib.hid HR
    clear HR hr hE hs
    go_enter Tryd.func15, Tryd.ntmps15
    go_wp2_with fail
    refine HR'.out.mono ?_
    rintro e w1 ⟨g, B, v, rfl, hB, D, hb1⟩
    have c5 : w1.cell? ⟨g, 5, none⟩ = some (.slice v.An v.nn v.cn) := cell_rowV D.row rfl
    have c6 : w1.cell? ⟨g, 6, none⟩ = some (.slice v.Al v.nl v.cl) := cell_rowV D.row rfl
    have hS1 := D.on.toStrs
    have hS2 := D.ol.toStrs
    have hn1 : v.nn ≤ 100 := by have := D.on.length (fun _ => rfl) (by decide); have := D.fm.an; have := D.fm.few; omega
    have hn2 : v.nl ≤ 100 := by have := D.ol.length (fun _ => rfl) (by decide); have := D.fm.locs; omega
    have HS := Lib.hid (And.intro hS1 (And.intro hS2 (And.intro hn1 hn2)))
    have HB := Lib.hid hb1
    clear hS1 hS2 hn1 hn2 hb1 D
    go_wp2_with fail
    refine wp_region_quiet_tail 8 (by kernel_rfl) (by kernel_rfl) ?_
    simp only [List.take_succ_cons, List.take_zero, List.drop_succ_cons, List.drop_zero]
    repeat (go_big_quiet_step (fail))
    refine wpQuiet_nil ?_
    intro _ hw'
    obtain ⟨nq, hw''⟩ := hw'
    subst hw''
    have bq : Below (w1.drewN nq).heap.size (w1.drewN nq) ((w1.drewN nq).alloc (.cells #[.slice v.An v.nn v.cn, .slice v.Al v.nl v.cl] 34)) := balloc (Below.refl _ _) _
    have rr := rowV.new (w1.drewN nq) 34 #[.slice v.An v.nn v.cn, .slice v.Al v.nl v.cl]
    have b1q : Below w1.heap.size w1 (w1.drewN nq) := (Drawn.drewN w1 nq).below _
    have hb2 := b1q.trans (bq.mono b1q.size)
    have HC := Lib.hid (concat_any (w1.drewN nq).heap.size v.An v.Al v.nn v.cn v.nl v.cl s.an s.ln _ (cell_rowV rr (j := 0) rfl) (cell_rowV rr (j := 1) rfl) (HS.out.1.below hb2) (HS.out.2.1.below hb2) HS.out.2.2.1 HS.out.2.2.2)
    have HB2 := Lib.hid (HB.out.trans (hb2.mono HB.out.size))
    clear bq rr b1q hb2
    go_wp2_with fail
    refine HC.out.mono ?_
    rintro e w3 ⟨A, n, c, rfl, hS, hb3⟩
    have HF := Lib.hid (And.intro hS (HB2.out.trans (hb3.mono HB2.out.size)))
    clear hS hb3
    go_wp2_with fail
    refine bodyPost_ret (v := .tuple #[.slice A n c, .int .i64 0, .int .i64 0]) ?_ rfl ⟨_, _, _, rfl, HF.out.1, HF.out.2⟩
    simp [results, Tryd.results15, go_sem]
end Go.Proofs.YtlbhggjkcfcobaaDoor

/- The contract of the assembler's Assemble. The reference of layer 15: SameArrays, Same; of layer 16: SameNames. -/
import Derived.Test.YtmijalhilalaoaaGreatDoorGh
namespace Go.Proofs.YtmijalhilalaoaaGreatDoor
open Go.RowKit Go.Proofs
set_option linter.unusedVariables false

theorem stepL_ne {n : Nat} {w : Wd} {s : AS} {r : List Wd} {a : Nat} {e : Int} (h : stepL n w s r = .bad a e) : e ≠ 0 := by
  have arr : ∀ b, arrayL n b s r = .bad a e → e ≠ 0 := fun b h => by
    unfold arrayL at h
    dsimp only at h
    split at h
    · rename_i h1; injection h with _ h; rw [← h]; exact h1
    split at h
    · injection h with _ h; rw [← h]; decide
    split at h
    · rename_i h1; injection h with _ h; rw [← h]; exact h1
    split at h
    · injection h with _ h; rw [← h]; decide
    · cases h
  unfold stepL at h
  split at h
  · exact arr _ h
  split at h
  · exact arr _ h
  split at h
  · unfold localL at h
    dsimp only at h
    split at h
    · rename_i h1; injection h with _ h; rw [← h]; exact h1
    split at h
    · injection h with _ h; rw [← h]; decide
    · cases h
  split at h
  · unfold constL at h
    dsimp only at h
    split at h
    · rename_i h1; injection h with _ h; rw [← h]; exact h1
    split at h
    · rename_i h1; injection h with _ h; rw [← h]; exact h1
    · cases h
  rw [instrL_eq] at h
  split at h
  · injection h with _ h; rw [← h]; decide
  split at h
  · injection h with _ h; rw [← h]; decide
  split at h
  · split at h
    · rename_i h1; injection h with _ h; rw [← h]; exact h1
    · cases h
  · cases h
theorem readW_ne {n : Nat} : ∀ (f : Nat) (ws : List Wd) (s : AS) (a : Nat) (e : Int), ws.length < f → readW n s ws = .bad a e → e ≠ 0
  | 0, _, _, _, _, h, _ => by omega
  | f + 1, [], s, a, e, _, h => by rw [readW_nil] at h; cases h
  | f + 1, w :: t, s, a, e, hf, h => by
    cases hs : stepL n w s t with
    | bad a1 e1 => rw [readW_bad hs] at h; injection h with _ h; rw [← h]; exact stepL_ne hs
    | ok s1 r1 =>
      rw [readW_ok hs] at h
      have hl : r1.length ≤ t.length := by rw [(stepL_grew hs).1, List.length_drop]; omega
      exact readW_ne f r1 s1 a e (by simp at hf; omega) h
theorem readL_ne {src : List UInt8} {a : Nat} {e : Int} (h : readL src = .bad a e) : e ≠ 0 := by
  unfold readL at h
  split at h
  · injection h with _ h; rw [← h]; decide
  · exact readW_ne _ _ _ _ _ (Nat.lt_succ_self _) h
theorem OwnS.toCodes {w : World} {B : Nat} {A : Option Addr} {n c : Nat} {l : List Ins} (h : OwnS encIn 2 w B 41 A n c l) (hwf : ∀ x ∈ l, 0 ≤ x.arg ∧ x.arg < 4294967296 ∧ (Lit.int .i64 x.op).wf = true) : Codes w A n c l := by
  refine ⟨h.length (fun _ => rfl) (by decide), h.cap, hwf, fun hn => ?_⟩
  obtain ⟨b, hA, _, hlt, hc⟩ := h.get (fun _ => rfl) (by decide) (⟨0, 0⟩ : Ins) hn
  refine ⟨b, 0, hA, hlt, fun i hi => ⟨?_, ?_⟩⟩
  · have := hc i 0 (.int .i64 (gI l i).op) hi rfl
    simpa using this
  · have := hc i 1 (.int .u32 (gI l i).arg) hi rfl
    simpa using this
theorem RD.progs {B g n : Nat} {w : World} {s : AS} {ws : List Wd} {v : RVs} (h : RD B g n w s ws v) : Progs w v.Aa v.na v.ca (s.ln.length : Int) v.Ac v.nc v.cc (prgOf s) :=
  ⟨h.oa.toArrs (fun x hx => WalkArith.wf_i64 (by have := h.fm.sizes x hx; omega)), rfl, h.oc.toCodes (fun x hx => by
    obtain ⟨h1, h2, h3, h4, _⟩ := h.fm.ins x hx
    exact ⟨h3, h4, WalkArith.wf_i64 (by omega)⟩), WalkArith.wf_i64 (by have := h.fm.locs; omega)⟩
/-- what Assemble returns. -/
def AsmP (r : AR) (w : World) (e : Ending) (w' : World) : Prop := match r with
  | .bad a er => e = .returned (.tuple #[.agg #[.slice none 0 0, .int .i64 0, .slice none 0 0], .int .i64 (a : Int), .int .i64 er]) ∧ Below w.heap.size w w'
  | .ok s r => ∃ A n c A' n' c', e = .returned (.tuple #[.agg #[.slice A n c, .int .i64 (s.ln.length : Int), .slice A' n' c'], .int .i64 0, .int .i64 0]) ∧ Progs w' A n c (s.ln.length : Int) A' n' c' (prgOf s) ∧ Below w.heap.size w w'
theorem three_cellsV {w : World} {g : Nat} {t : TypeId} {a b c : Value} (h : rowV w g t #[a, b, c]) : w.cell? ⟨g, 0, none⟩ = some a ∧ w.cell? ⟨g, 1, none⟩ = some b ∧ w.cell? ⟨g, 2, none⟩ = some c := ⟨cell_rowV h rfl, cell_rowV h rfl, cell_rowV h rfl⟩
set_option maxRecDepth 100000 in
set_option maxHeartbeats 2000000 in
theorem assemble_any (src : List UInt8) (w : World) (hs : src.length ≤ 100000000) (hE : ErrR w) : Calls Tryz.prog 8 #[.string (strB src)] w (AsmP (readL src) w) := by
  have b0 := balloc (Below.refl w.heap.size w) (.cells #[.slice none 0 0, .int .i64 0, .slice none 0 0] 25)
  have rz := rowV.new w 25 #[.slice none 0 0, .int .i64 0, .slice none 0 0]
  have HR := read_any src (w.alloc (.cells #[.slice none 0 0, .int .i64 0, .slice none 0 0] 25)) hs (hE.below b0)
  obtain ⟨w0, hw0⟩ : ∃ w0, w0 = w.alloc (.cells #[.slice none 0 0, .int .i64 0, .slice none 0 0] 25) := ⟨_, rfl⟩
  rw [← hw0] at HR b0 rz
  have hlt0 : w.heap.size < w0.heap.size := rz.lt
  unfold ReadP at HR
  cases hr : readL src with
  | bad a er =>
    have hne := readL_ne hr
    rw [hr] at HR
    have HR' := Lib.hid HR
    have dne : (er != 0) = true := by simpa using hne
    clear HR hr hE hs
    go_enter Tryz.func8, Tryz.ntmps8
    go_wp2_with fail
    rw [← hw0]
    clear hw0
    refine HR'.out.mono ?_
    rintro e w1 ⟨rfl, hb1⟩
    have r1 := rz.below hb1 rz.lt
    obtain ⟨y0, y1, y2⟩ := three_cellsV r1
    have z0 := frozen_rowV' r1 0
    have z1 := frozen_rowV' r1 1
    have z2 := frozen_rowV' r1 2
    have HB := Lib.hid (b0.trans (hb1.mono b0.size))
    clear hb1 rz b0
    go_wp2_with fail
    have rz7 : rowV (((w1.setCell ⟨w.heap.size, 0, none⟩ (.slice none 0 0)).setCell ⟨w.heap.size, 1, none⟩ (.int .i64 0)).setCell ⟨w.heap.size, 2, none⟩ (.slice none 0 0)) w.heap.size 25 #[.slice none 0 0, .int .i64 0, .slice none 0 0] := ((r1.set 0 _).set 1 _).set 2 _
    obtain ⟨q0, q1, q2⟩ := three_cellsV rz7
    have hbW : Below w.heap.size w (((w1.setCell ⟨w.heap.size, 0, none⟩ (.slice none 0 0)).setCell ⟨w.heap.size, 1, none⟩ (.int .i64 0)).setCell ⟨w.heap.size, 2, none⟩ (.slice none 0 0)) := HB.out.trans ((Below.setG (Nat.le_refl _) _).trans ((Below.setG (Nat.le_refl _) _).trans (Below.setG (Nat.le_refl _) _)))
    refine bodyPost_ret (v := .tuple #[.agg #[.slice none 0 0, .int .i64 0, .slice none 0 0], .int .i64 (a : Int), .int .i64 er]) ?_ rfl ⟨rfl, hbW⟩
    simp [results, Tryz.results8, go_sem, q0, q1, q2]
  | ok s r =>
    rw [hr] at HR
    have HR' := Lib.hid HR
    clear HR hr hE hs
    go_enter Tryz.func8, Tryz.ntmps8
    go_wp2_with fail
    rw [← hw0]
    clear hw0
    refine HR'.out.mono ?_
    rintro e w1 ⟨g, B, v, rfl, hB, D, hb1⟩
    have r1 := rz.below hb1 rz.lt
    obtain ⟨y0, y1, y2⟩ := three_cellsV r1
    have z0 := frozen_rowV' r1 0
    have z1 := frozen_rowV' r1 1
    have z2 := frozen_rowV' r1 2
    have HB := Lib.hid (b0.trans (hb1.mono b0.size))
    have c2 : w1.cell? ⟨g, 2, none⟩ = some (.slice v.Aa v.na v.ca) := cell_rowV D.row rfl
    have c3 : w1.cell? ⟨g, 3, none⟩ = some (.int .i64 (s.ln.length : Int)) := cell_rowV D.row rfl
    have c4 : w1.cell? ⟨g, 4, none⟩ = some (.slice v.Ac v.nc v.cc) := cell_rowV D.row rfl
    have HD := Lib.hid D
    clear hb1 rz b0 D
    go_wp2_with fail
    have rz7 : rowV (((w1.setCell ⟨w.heap.size, 0, none⟩ (.slice v.Aa v.na v.ca)).setCell ⟨w.heap.size, 1, none⟩ (.int .i64 (s.ln.length : Int))).setCell ⟨w.heap.size, 2, none⟩ (.slice v.Ac v.nc v.cc)) w.heap.size 25 #[.slice v.Aa v.na v.ca, .int .i64 (s.ln.length : Int), .slice v.Ac v.nc v.cc] := ((r1.set 0 _).set 1 _).set 2 _
    obtain ⟨q0, q1, q2⟩ := three_cellsV rz7
    have hbW : Below w.heap.size w (((w1.setCell ⟨w.heap.size, 0, none⟩ (.slice v.Aa v.na v.ca)).setCell ⟨w.heap.size, 1, none⟩ (.int .i64 (s.ln.length : Int))).setCell ⟨w.heap.size, 2, none⟩ (.slice v.Ac v.nc v.cc)) := HB.out.trans ((Below.setG (Nat.le_refl _) _).trans ((Below.setG (Nat.le_refl _) _).trans (Below.setG (Nat.le_refl _) _)))
    have hlow : w.heap.size < B := Nat.lt_of_lt_of_le hlt0 hB
    have hkeep : ∀ k o, B ≤ k → w1.heap[k]? = some o → o.isCells = true → (((w1.setCell ⟨w.heap.size, 0, none⟩ (.slice v.Aa v.na v.ca)).setCell ⟨w.heap.size, 1, none⟩ (.int .i64 (s.ln.length : Int))).setCell ⟨w.heap.size, 2, none⟩ (.slice v.Ac v.nc v.cc)).heap[k]? = some o := fun k o hk ho _ => by
      have hne : k ≠ w.heap.size := by omega
      exact (Below.heap_setCell _ ⟨w.heap.size, 2, none⟩ _ k hne).trans ((Below.heap_setCell _ ⟨w.heap.size, 1, none⟩ _ k hne).trans ((Below.heap_setCell _ ⟨w.heap.size, 0, none⟩ _ k hne).trans ho))
    have F := HD.out.fm
    have hP : Progs (((w1.setCell ⟨w.heap.size, 0, none⟩ (.slice v.Aa v.na v.ca)).setCell ⟨w.heap.size, 1, none⟩ (.int .i64 (s.ln.length : Int))).setCell ⟨w.heap.size, 2, none⟩ (.slice v.Ac v.nc v.cc)) v.Aa v.na v.ca (s.ln.length : Int) v.Ac v.nc v.cc (prgOf s) :=
      ⟨(HD.out.oa.keep hkeep).toArrs (fun x hx => WalkArith.wf_i64 (by have := F.sizes x hx; omega)), rfl, (HD.out.oc.keep hkeep).toCodes (fun x hx => by
        obtain ⟨h1, h2, h3, h4, _⟩ := F.ins x hx
        exact ⟨h3, h4, WalkArith.wf_i64 (by omega)⟩), WalkArith.wf_i64 (by have := F.locs; omega)⟩
    refine bodyPost_ret (v := .tuple #[.agg #[.slice v.Aa v.na v.ca, .int .i64 (s.ln.length : Int), .slice v.Ac v.nc v.cc], .int .i64 0, .int .i64 0]) ?_ rfl ⟨_, _, _, _, _, _, rfl, hP, hbW⟩
    simp [results, Tryz.results8, go_sem, q0, q1, q2]
end Go.Proofs.YtmijalhilalaoaaGreatDoor
namespace Go.Proofs.YtmijalhilalaoaaGreatDoor
open Go.RowKit Go.Proofs
set_option linter.unusedVariables false

theorem stIn : Tryz.prog.stoodInHeld 41 = false := by kernel_rfl
theorem utIn : Tryz.prog.underlying 41 = some (.struct (Tryz.prog.fieldsOf 41)) := by kernel_rfl
theorem gdIn : Tryz.prog.eqGuardType Tryz.prog.depth 41 = false := by kernel_rfl
theorem stAr : Tryz.prog.stoodInHeld 61 = false := by kernel_rfl
theorem utAr : Tryz.prog.underlying 61 = some (.struct (Tryz.prog.fieldsOf 61)) := by kernel_rfl
theorem gdAr : Tryz.prog.eqGuardType Tryz.prog.depth 61 = false := by kernel_rfl
theorem neqIn (a b : Ins) (W : World) : (binOp .neq 41 (.agg #[.int .i64 a.op, .int .u32 a.arg]) (.agg #[.int .i64 b.op, .int .u32 b.arg])).run Tryz.prog W = .ok (.bool (!decide (a = b))) W := by
  obtain ⟨o1, x1⟩ := a
  obtain ⟨o2, x2⟩ := b
  rw [run_neq_struct, run_equalIn_agg W 9999 _ _ _ utIn stIn]
  by_cases h1 : o1 = o2
  · by_cases h2 : x1 = x2
    · subst h1 h2; simp [go_sem, part]
    · subst h1; simp [go_sem, part, h2]
  · simp [go_sem, part, h1]
theorem neqAr (a b : Arr) (W : World) : (binOp .neq 61 (.agg #[.bool a.word, .int .i64 a.size]) (.agg #[.bool b.word, .int .i64 b.size])).run Tryz.prog W = .ok (.bool (!decide (a = b))) W := by
  obtain ⟨o1, x1⟩ := a
  obtain ⟨o2, x2⟩ := b
  rw [run_neq_struct, run_equalIn_agg W 9999 _ _ _ utAr stAr]
  by_cases h1 : o1 = o2
  · by_cases h2 : x1 = x2
    · subst h1 h2; simp [go_sem, part]
    · subst h1; simp [go_sem, part, h2]
  · simp [go_sem, part, h1]
theorem ext_gA {l m : List Arr} (hl : l.length = m.length) (h : ∀ k, k < l.length → gA l k = gA m k) : l = m := by
  apply List.ext_getElem hl
  intro i h1 h2
  have := h i h1
  rwa [gA_get h1, gA_get h2] at this
theorem ext_gI {l m : List Ins} (hl : l.length = m.length) (h : ∀ k, k < l.length → gI l k = gI m k) : l = m := by
  apply List.ext_getElem hl
  intro i h1 h2
  have := h i h1
  rwa [gI_get h1, gI_get h2] at this
def sameP (p q : Prg) : Bool := decide (p.arrs = q.arrs) && decide (p.locs = q.locs) && decide (p.code = q.code)
/-- a list of strings that lies in memory. -/
def StrsM (w : World) (A : Option Addr) (n c : Nat) (l : List (List UInt8)) : Prop := l.length = n ∧ n ≤ c ∧ Cells w A n (fun i => .string (strB (l.getD i [])))
theorem StrsM.below {w w' : World} {A : Option Addr} {n c : Nat} {l : List (List UInt8)} (h : StrsM w A n c l) (hb : Below w.heap.size w w') : StrsM w' A n c l := ⟨h.1, h.2.1, h.2.2.below hb⟩
theorem OwnS.toStrs {w : World} {B : Nat} {A : Option Addr} {n c : Nat} {l : List (List UInt8)} (h : OwnS encSt 1 w B 9 A n c l) : StrsM w A n c l := by
  refine ⟨h.length (fun _ => rfl) (by decide), h.cap, fun hn => ?_⟩
  obtain ⟨b, hA, _, hlt, hc⟩ := h.get (fun _ => rfl) (by decide) ([] : List UInt8) hn
  refine ⟨b, 0, hA, hlt, fun i hi => ?_⟩
  have := hc i 0 (.string (strB (l.getD i []))) hi rfl
  simpa using this
end Go.Proofs.YtmijalhilalaoaaGreatDoor

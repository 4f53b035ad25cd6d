/- What Assemble returns, errors and programs alike, its parts in blocks of their types. -/
import Derived.Test.YtlbhggjkcfcobaaDoorGm
namespace Go.Proofs.YtlbhggjkcfcobaaDoor
open Go.RowKit Go.Proofs
set_option linter.unusedVariables false

/-- the program, the place, the error, the names of a reading. -/
def prgR : AR → Prg
  | .bad _ _ => ⟨[], 0, []⟩
  | .ok s _ => prgOf s
def atR : AR → Int
  | .bad a _ => a
  | .ok _ _ => 0
def erR : AR → Int
  | .bad _ e => e
  | .ok _ _ => 0
theorem progs_nil (w : World) : Progs w none 0 0 0 none 0 0 ⟨[], 0, []⟩ := ⟨(OwnS.nil encAr 2 w 0 47).toArrs (fun x hx => by cases hx), rfl, (OwnS.nil encIn 2 w 0 57).toCodes (fun x hx => by cases hx), by decide⟩
theorem OwnS.any {α : Type} {enc : α → List Value} {sz B n c : Nat} {w : World} {e : TypeId} {A : Option Addr} {xs : List α} (h : OwnS enc sz w B e A n c xs) : OwnS enc sz w 0 e A n c xs := h.mono (Nat.zero_le _)
/-- what Assemble returns. -/
def AsmO (r : AR) (w : World) (e : Ending) (w' : World) : Prop := ∃ (A : Option Addr) (n c : Nat) (L : Int) (A' : Option Addr) (n' c' : Nat), e = .returned (.tuple #[.agg #[.slice A n c, .int .i64 L, .slice A' n' c'], .int .i64 (atR r), .int .i64 (erR r)]) ∧ Progs w' A n c L A' n' c' (prgR r) ∧ OwnS encAr 2 w' 0 47 A n c (prgR r).arrs ∧ OwnS encIn 2 w' 0 57 A' n' c' (prgR r).code ∧ Below w.heap.size w w' ∧ n ≤ 100000 ∧ n' ≤ 100000
set_option maxRecDepth 100000 in
set_option maxHeartbeats 2000000 in
theorem asmO_any (src : List UInt8) (w : World) (hs : src.length ≤ 100000000) (hE : ErrR w) : Calls Tryd.prog 12 #[.string (strB src)] w (AsmO (readL src) w) := by
  have b0 := balloc (Below.refl w.heap.size w) (.cells #[.slice none 0 0, .int .i64 0, .slice none 0 0] 27)
  have rz := rowV.new w 27 #[.slice none 0 0, .int .i64 0, .slice none 0 0]
  have HR := read_any src (w.alloc (.cells #[.slice none 0 0, .int .i64 0, .slice none 0 0] 27)) hs (hE.below b0)
  obtain ⟨w0, hw0⟩ : ∃ w0, w0 = w.alloc (.cells #[.slice none 0 0, .int .i64 0, .slice none 0 0] 27) := ⟨_, rfl⟩
  rw [← hw0] at HR b0 rz
  have hlt0 : w.heap.size < w0.heap.size := rz.lt
  unfold ReadP at HR
  cases hr : readL src with
  | bad a er =>
    have hne := readL_ne hr
    rw [hr] at HR
    have HR' := Lib.hid HR
    have dne : (er != 0) = true := by simpa using hne
    clear HR hr hE hs
    go_enter Tryd.func12, Tryd.ntmps12
    go_wp2_with fail
    rw [← hw0]
    clear hw0
    refine HR'.out.mono ?_
    rintro e w1 ⟨rfl, hb1⟩
    have r1 := rz.below hb1 rz.lt
    obtain ⟨y0, y1, y2⟩ := three_cellsV r1
    have z0 := frozen_rowV' r1 0
    have z1 := frozen_rowV' r1 1
    have z2 := frozen_rowV' r1 2
    have HB := Lib.hid (b0.trans (hb1.mono b0.size))
    clear hb1 rz b0
    go_wp2_with fail
    have rz7 : rowV (((w1.setCell ⟨w.heap.size, 0, none⟩ (.slice none 0 0)).setCell ⟨w.heap.size, 1, none⟩ (.int .i64 0)).setCell ⟨w.heap.size, 2, none⟩ (.slice none 0 0)) w.heap.size 27 #[.slice none 0 0, .int .i64 0, .slice none 0 0] := ((r1.set 0 _).set 1 _).set 2 _
    obtain ⟨q0, q1, q2⟩ := three_cellsV rz7
    have hbW : Below w.heap.size w (((w1.setCell ⟨w.heap.size, 0, none⟩ (.slice none 0 0)).setCell ⟨w.heap.size, 1, none⟩ (.int .i64 0)).setCell ⟨w.heap.size, 2, none⟩ (.slice none 0 0)) := HB.out.trans ((Below.setG (Nat.le_refl _) _).trans ((Below.setG (Nat.le_refl _) _).trans (Below.setG (Nat.le_refl _) _)))
    refine bodyPost_ret (v := .tuple #[.agg #[.slice none 0 0, .int .i64 0, .slice none 0 0], .int .i64 (a : Int), .int .i64 er]) ?_ rfl ⟨none, 0, 0, 0, none, 0, 0, rfl, progs_nil _, OwnS.nil _ _ _ _ _, OwnS.nil _ _ _ _ _, hbW, by omega, by omega⟩
    simp [results, Tryd.results12, go_sem, q0, q1, q2]
  | ok s r =>
    rw [hr] at HR
    have HR' := Lib.hid HR
    clear HR hr hE hs
    go_enter Tryd.func12, Tryd.ntmps12
    go_wp2_with fail
    rw [← hw0]
    clear hw0
    refine HR'.out.mono ?_
    rintro e w1 ⟨g, B, v, rfl, hB, D, hb1⟩
    have r1 := rz.below hb1 rz.lt
    obtain ⟨y0, y1, y2⟩ := three_cellsV r1
    have z0 := frozen_rowV' r1 0
    have z1 := frozen_rowV' r1 1
    have z2 := frozen_rowV' r1 2
    have HB := Lib.hid (b0.trans (hb1.mono b0.size))
    have c2 : w1.cell? ⟨g, 2, none⟩ = some (.slice v.Aa v.na v.ca) := cell_rowV D.row rfl
    have c3 : w1.cell? ⟨g, 3, none⟩ = some (.int .i64 (s.ln.length : Int)) := cell_rowV D.row rfl
    have c4 : w1.cell? ⟨g, 4, none⟩ = some (.slice v.Ac v.nc v.cc) := cell_rowV D.row rfl
    have HD := Lib.hid D
    clear hb1 rz b0 D
    go_wp2_with fail
    have rz7 : rowV (((w1.setCell ⟨w.heap.size, 0, none⟩ (.slice v.Aa v.na v.ca)).setCell ⟨w.heap.size, 1, none⟩ (.int .i64 (s.ln.length : Int))).setCell ⟨w.heap.size, 2, none⟩ (.slice v.Ac v.nc v.cc)) w.heap.size 27 #[.slice v.Aa v.na v.ca, .int .i64 (s.ln.length : Int), .slice v.Ac v.nc v.cc] := ((r1.set 0 _).set 1 _).set 2 _
    obtain ⟨q0, q1, q2⟩ := three_cellsV rz7
    have hbW : Below w.heap.size w (((w1.setCell ⟨w.heap.size, 0, none⟩ (.slice v.Aa v.na v.ca)).setCell ⟨w.heap.size, 1, none⟩ (.int .i64 (s.ln.length : Int))).setCell ⟨w.heap.size, 2, none⟩ (.slice v.Ac v.nc v.cc)) := HB.out.trans ((Below.setG (Nat.le_refl _) _).trans ((Below.setG (Nat.le_refl _) _).trans (Below.setG (Nat.le_refl _) _)))
    have hlow : w.heap.size < B := Nat.lt_of_lt_of_le hlt0 hB
    have hkeep : ∀ k o, B ≤ k → w1.heap[k]? = some o → o.isCells = true → (((w1.setCell ⟨w.heap.size, 0, none⟩ (.slice v.Aa v.na v.ca)).setCell ⟨w.heap.size, 1, none⟩ (.int .i64 (s.ln.length : Int))).setCell ⟨w.heap.size, 2, none⟩ (.slice v.Ac v.nc v.cc)).heap[k]? = some o := fun k o hk ho _ => by
      have hne : k ≠ w.heap.size := by omega
      exact (Below.heap_setCell _ ⟨w.heap.size, 2, none⟩ _ k hne).trans ((Below.heap_setCell _ ⟨w.heap.size, 1, none⟩ _ k hne).trans ((Below.heap_setCell _ ⟨w.heap.size, 0, none⟩ _ k hne).trans ho))
    have F := HD.out.fm
    have hP : Progs (((w1.setCell ⟨w.heap.size, 0, none⟩ (.slice v.Aa v.na v.ca)).setCell ⟨w.heap.size, 1, none⟩ (.int .i64 (s.ln.length : Int))).setCell ⟨w.heap.size, 2, none⟩ (.slice v.Ac v.nc v.cc)) v.Aa v.na v.ca (s.ln.length : Int) v.Ac v.nc v.cc (prgOf s) :=
      ⟨(HD.out.oa.keep hkeep).toArrs (fun x hx => WalkArith.wf_i64 (by have := F.sizes x hx; omega)), rfl, (HD.out.oc.keep hkeep).toCodes (fun x hx => by
        obtain ⟨h1, h2, h3, h4, _⟩ := F.ins x hx
        exact ⟨h3, h4, WalkArith.wf_i64 (by omega)⟩), WalkArith.wf_i64 (by have := F.locs; omega)⟩
    have e1 : s.arrs.length = v.na := hP.arrs.1
    have e2 : s.code.length = v.nc := hP.code.1
    have f1 := F.few
    have f2 := F.code
    have o1 := HD.out.oa.keep hkeep
    have o2 := HD.out.oc.keep hkeep
    have hn : v.na ≤ 100000 ∧ v.nc ≤ 100000 := ⟨by omega, by omega⟩
    clear e1 e2 f1 f2
    refine bodyPost_ret (v := .tuple #[.agg #[.slice v.Aa v.na v.ca, .int .i64 (s.ln.length : Int), .slice v.Ac v.nc v.cc], .int .i64 0, .int .i64 0]) ?_ rfl ⟨_, _, _, _, _, _, _, rfl, hP, o1.any, o2.any, hbW, hn⟩
    simp [results, Tryd.results12, go_sem, q0, q1, q2]
theorem sameP_self (p : Prg) : sameP p p = true := by unfold sameP; simp
/-- two readings of one list of words. -/
theorem strip_same {r q : AR} (h : r.strip = q.strip) : erR r = erR q ∧ prgR r = prgR q := by
  cases r with
  | bad a e =>
    cases q with
    | bad b f => rw [strip_bad, strip_bad] at h; injection h with h _; injection h with h; exact ⟨h, rfl⟩
    | ok s t => rw [strip_bad, strip_ok] at h; injection h with h _; cases h
  | ok s t =>
    cases q with
    | bad b f => rw [strip_bad, strip_ok] at h; injection h with h _; cases h
    | ok s2 t2 =>
      rw [strip_ok, strip_ok] at h
      injection h with _ h
      injection h with h
      injection h with h _
      exact ⟨rfl, by rw [h]; rfl⟩
end Go.Proofs.YtlbhggjkcfcobaaDoor

/- The reference of the assembler: Assemble. -/
import Derived.Test.YtlbhggjkcfcobaaDoorHg
import Derived.Test.YtlbhggjkcfcobaaDoorGj
namespace Go.Proofs.YtlbhggjkcfcobaaDoor
open Go.RowKit Go.Proofs
set_option linter.unusedVariables false

theorem RS.progs {B : Nat} {w X : World} {s : AS} {v : SVs} (h : RS B w s.arrs s.an s.ln (s.cn.map (·.1)) (s.cn.map (·.2)) s.code v) (F : Formed s) (hkeep : ∀ k o, B ≤ k → w.heap[k]? = some o → o.isCells = true → X.heap[k]? = some o) : Progs X v.Aa v.na v.ca (s.ln.length : Int) v.Ac v.nc v.cc (prgOf s) :=
  ⟨(h.oa.keep hkeep).toArrs (fun x hx => WalkArith.wf_i64 (by have := F.sizes x hx; omega)), rfl, (h.oc.keep hkeep).toCodes (fun x hx => by
    obtain ⟨h1, h2, h3, h4, _⟩ := F.ins x hx
    exact ⟨h3, h4, WalkArith.wf_i64 (by omega)⟩), WalkArith.wf_i64 (by have := F.locs; omega)⟩
set_option maxRecDepth 100000 in
set_option maxHeartbeats 4000000 in
theorem refAsm_any (src : List UInt8) (w : World) (hs : src.length ≤ 100000000) : Calls Tryd.prog 13 #[.string (strB src)] w (AsmP (readL src) w) := by
  have sz : (strB src).size = src.length := strB_size' src
  have b0 := balloc (Below.refl w.heap.size w) (.cells #[.slice none 0 0, .int .i64 0, .slice none 0 0] 27)
  have rz := rowV.new w 27 #[.slice none 0 0, .int .i64 0, .slice none 0 0]
  by_cases hl : 8192 < src.length
  · have e : readL src = .bad 0 5 := by unfold readL; rw [if_pos hl]
    rw [e]
    have d1 : decide ((8192 : Int) < (src.length : Int)) = true := by simp; omega
    have d1' : decide (8192 < src.length) = true := by simp; omega
    clear e
    obtain ⟨w0, hw0⟩ : ∃ w0, w0 = w.alloc (.cells #[.slice none 0 0, .int .i64 0, .slice none 0 0] 27) := ⟨_, rfl⟩
    rw [← hw0] at b0 rz
    obtain ⟨y0, y1, y2⟩ := three_cellsV rz
    have z0 := frozen_rowV' rz 0
    have z1 := frozen_rowV' rz 1
    have z2 := frozen_rowV' rz 2
    have HW0 := Lib.hid hw0
    clear hw0
    go_enter Tryd.func13, Tryd.ntmps13
    go_wp2_with fail
    try rw [← HW0.out]
    refine bodyPost_ret (v := .tuple #[.agg #[.slice none 0 0, .int .i64 0, .slice none 0 0], .int .i64 0, .int .i64 5]) ?_ rfl ⟨rfl, ?_⟩
    case refine_1 => simp [results, Tryd.results13, go_sem, y0, y1, y2, z0, z1, z2]; done
    case refine_2 => exact b0
  have d1 : decide ((8192 : Int) < (src.length : Int)) = false := by simp; omega
  have d1' : decide (8192 < src.length) = false := by simp; omega
  have HR := readR_any src (w.alloc (.cells #[.slice none 0 0, .int .i64 0, .slice none 0 0] 27)) (by omega)
  obtain ⟨w0, hw0⟩ : ∃ w0, w0 = w.alloc (.cells #[.slice none 0 0, .int .i64 0, .slice none 0 0] 27) := ⟨_, rfl⟩
  rw [← hw0] at HR b0 rz
  have hlt0 : w.heap.size < w0.heap.size := rz.lt
  clear hl
  cases hr : readL src with
  | bad a er =>
    have hne := readL_ne hr
    rw [hr] at HR
    have HR' := Lib.hid HR
    have dne : (er != 0) = true := by simpa using hne
    clear HR hr hs
    go_enter Tryd.func13, Tryd.ntmps13
    go_wp2_with fail
    rw [← hw0]
    clear hw0
    refine HR'.out.mono ?_
    rintro e w1 ⟨hb1, v, L, C, a', er', rfl, rfl, rfl⟩
    unfold stA
    have r5 := rowV.new w1 76 (stA v L C (a : Int) er')
    have bx := balloc (Below.refl w1.heap.size w1) (.cells (stA v L C (a : Int) er') 76)
    have r1 := (rz.below hb1 rz.lt).below bx (rz.below hb1 rz.lt).lt
    have HB := Lib.hid (b0.trans ((hb1.mono b0.size).trans (bx.mono (Nat.le_trans b0.size hb1.size))))
    unfold stA at r5 r1 HB
    clear bx
    obtain ⟨y0, y1, y2⟩ := three_cellsV r1
    have z0 := frozen_rowV' r1 0
    have z1 := frozen_rowV' r1 1
    have z2 := frozen_rowV' r1 2
    have c8 : (w1.alloc (.cells #[.slice v.Aa v.na v.ca, .int .i64 L, .slice v.Ac v.nc v.cc, .slice v.An v.nn v.cn, .slice v.Al v.nl v.cl, .slice v.Ak v.nk v.ck, .slice v.Av v.nv v.cv, .int .i64 C, .int .i64 (a : Int), .int .i64 er'] 76)).cell? ⟨w1.heap.size, 8, none⟩ = some (.int .i64 (a : Int)) := cell_rowV r5 rfl
    have c9 : (w1.alloc (.cells #[.slice v.Aa v.na v.ca, .int .i64 L, .slice v.Ac v.nc v.cc, .slice v.An v.nn v.cn, .slice v.Al v.nl v.cl, .slice v.Ak v.nk v.ck, .slice v.Av v.nv v.cv, .int .i64 C, .int .i64 (a : Int), .int .i64 er'] 76)).cell? ⟨w1.heap.size, 9, none⟩ = some (.int .i64 er') := cell_rowV r5 rfl
    have rz7 : rowV ((((w1.alloc (.cells #[.slice v.Aa v.na v.ca, .int .i64 L, .slice v.Ac v.nc v.cc, .slice v.An v.nn v.cn, .slice v.Al v.nl v.cl, .slice v.Ak v.nk v.ck, .slice v.Av v.nv v.cv, .int .i64 C, .int .i64 (a : Int), .int .i64 er'] 76)).setCell ⟨w.heap.size, 0, none⟩ (.slice none 0 0)).setCell ⟨w.heap.size, 1, none⟩ (.int .i64 0)).setCell ⟨w.heap.size, 2, none⟩ (.slice none 0 0)) w.heap.size 27 #[.slice none 0 0, .int .i64 0, .slice none 0 0] := ((r1.set 0 _).set 1 _).set 2 _
    have hbW : Below w.heap.size w ((((w1.alloc (.cells #[.slice v.Aa v.na v.ca, .int .i64 L, .slice v.Ac v.nc v.cc, .slice v.An v.nn v.cn, .slice v.Al v.nl v.cl, .slice v.Ak v.nk v.ck, .slice v.Av v.nv v.cv, .int .i64 C, .int .i64 (a : Int), .int .i64 er'] 76)).drew.setCell ⟨w.heap.size, 0, none⟩ (.slice none 0 0)).setCell ⟨w.heap.size, 1, none⟩ (.int .i64 0)).setCell ⟨w.heap.size, 2, none⟩ (.slice none 0 0)) := (bdrew1 HB.out).trans ((Below.setG (Nat.le_refl _) _).trans ((Below.setG (Nat.le_refl _) _).trans (Below.setG (Nat.le_refl _) _)))
    have HZ := Lib.hid (And.intro rz7 hbW)
    clear rz7 hbW r5 r1 rz b0 hb1
    go_wp2_with fail
    go_region
    all_goals
      go_wp2_with fail
      obtain ⟨q0, q1, q2⟩ := three_cellsV HZ.out.1
      refine bodyPost_ret (v := .tuple #[.agg #[.slice none 0 0, .int .i64 0, .slice none 0 0], .int .i64 (a : Int), .int .i64 er']) ?_ rfl ⟨rfl, HZ.out.2⟩
      simp [results, Tryd.results13, go_sem, q0, q1, q2]
  | ok s r =>
    rw [hr] at HR
    have HR' := Lib.hid HR
    clear HR hr hs
    go_enter Tryd.func13, Tryd.ntmps13
    go_wp2_with fail
    rw [← hw0]
    clear hw0
    refine HR'.out.mono ?_
    rintro e w1 ⟨hb1, v, L, C, a', er', rfl, rfl, rfl, rfl, hRS, hF⟩
    unfold stA
    have r5 := rowV.new w1 76 (stA v (s.ln.length : Int) s.cells a' 0)
    have bx := balloc (Below.refl w1.heap.size w1) (.cells (stA v (s.ln.length : Int) s.cells a' 0) 76)
    have r1 := (rz.below hb1 rz.lt).below bx (rz.below hb1 rz.lt).lt
    have HB := Lib.hid (b0.trans ((hb1.mono b0.size).trans (bx.mono (Nat.le_trans b0.size hb1.size))))
    have hRS2 := hRS.below bx
    unfold stA at r5 r1 HB hRS2
    clear bx
    obtain ⟨y0, y1, y2⟩ := three_cellsV r1
    have z0 := frozen_rowV' r1 0
    have z1 := frozen_rowV' r1 1
    have z2 := frozen_rowV' r1 2
    have c0 : (w1.alloc (.cells #[.slice v.Aa v.na v.ca, .int .i64 (s.ln.length : Int), .slice v.Ac v.nc v.cc, .slice v.An v.nn v.cn, .slice v.Al v.nl v.cl, .slice v.Ak v.nk v.ck, .slice v.Av v.nv v.cv, .int .i64 s.cells, .int .i64 a', .int .i64 0] 76)).cell? ⟨w1.heap.size, 0, none⟩ = some (.slice v.Aa v.na v.ca) := cell_rowV r5 rfl
    have c1 : (w1.alloc (.cells #[.slice v.Aa v.na v.ca, .int .i64 (s.ln.length : Int), .slice v.Ac v.nc v.cc, .slice v.An v.nn v.cn, .slice v.Al v.nl v.cl, .slice v.Ak v.nk v.ck, .slice v.Av v.nv v.cv, .int .i64 s.cells, .int .i64 a', .int .i64 0] 76)).cell? ⟨w1.heap.size, 1, none⟩ = some (.int .i64 (s.ln.length : Int)) := cell_rowV r5 rfl
    have c2 : (w1.alloc (.cells #[.slice v.Aa v.na v.ca, .int .i64 (s.ln.length : Int), .slice v.Ac v.nc v.cc, .slice v.An v.nn v.cn, .slice v.Al v.nl v.cl, .slice v.Ak v.nk v.ck, .slice v.Av v.nv v.cv, .int .i64 s.cells, .int .i64 a', .int .i64 0] 76)).cell? ⟨w1.heap.size, 2, none⟩ = some (.slice v.Ac v.nc v.cc) := cell_rowV r5 rfl
    have c3 : (w1.alloc (.cells #[.slice v.Aa v.na v.ca, .int .i64 (s.ln.length : Int), .slice v.Ac v.nc v.cc, .slice v.An v.nn v.cn, .slice v.Al v.nl v.cl, .slice v.Ak v.nk v.ck, .slice v.Av v.nv v.cv, .int .i64 s.cells, .int .i64 a', .int .i64 0] 76)).cell? ⟨w1.heap.size, 3, none⟩ = some (.slice v.An v.nn v.cn) := cell_rowV r5 rfl
    have c4 : (w1.alloc (.cells #[.slice v.Aa v.na v.ca, .int .i64 (s.ln.length : Int), .slice v.Ac v.nc v.cc, .slice v.An v.nn v.cn, .slice v.Al v.nl v.cl, .slice v.Ak v.nk v.ck, .slice v.Av v.nv v.cv, .int .i64 s.cells, .int .i64 a', .int .i64 0] 76)).cell? ⟨w1.heap.size, 4, none⟩ = some (.slice v.Al v.nl v.cl) := cell_rowV r5 rfl
    have c5 : (w1.alloc (.cells #[.slice v.Aa v.na v.ca, .int .i64 (s.ln.length : Int), .slice v.Ac v.nc v.cc, .slice v.An v.nn v.cn, .slice v.Al v.nl v.cl, .slice v.Ak v.nk v.ck, .slice v.Av v.nv v.cv, .int .i64 s.cells, .int .i64 a', .int .i64 0] 76)).cell? ⟨w1.heap.size, 5, none⟩ = some (.slice v.Ak v.nk v.ck) := cell_rowV r5 rfl
    have c6 : (w1.alloc (.cells #[.slice v.Aa v.na v.ca, .int .i64 (s.ln.length : Int), .slice v.Ac v.nc v.cc, .slice v.An v.nn v.cn, .slice v.Al v.nl v.cl, .slice v.Ak v.nk v.ck, .slice v.Av v.nv v.cv, .int .i64 s.cells, .int .i64 a', .int .i64 0] 76)).cell? ⟨w1.heap.size, 6, none⟩ = some (.slice v.Av v.nv v.cv) := cell_rowV r5 rfl
    have c7 : (w1.alloc (.cells #[.slice v.Aa v.na v.ca, .int .i64 (s.ln.length : Int), .slice v.Ac v.nc v.cc, .slice v.An v.nn v.cn, .slice v.Al v.nl v.cl, .slice v.Ak v.nk v.ck, .slice v.Av v.nv v.cv, .int .i64 s.cells, .int .i64 a', .int .i64 0] 76)).cell? ⟨w1.heap.size, 7, none⟩ = some (.int .i64 s.cells) := cell_rowV r5 rfl
    have c8 : (w1.alloc (.cells #[.slice v.Aa v.na v.ca, .int .i64 (s.ln.length : Int), .slice v.Ac v.nc v.cc, .slice v.An v.nn v.cn, .slice v.Al v.nl v.cl, .slice v.Ak v.nk v.ck, .slice v.Av v.nv v.cv, .int .i64 s.cells, .int .i64 a', .int .i64 0] 76)).cell? ⟨w1.heap.size, 8, none⟩ = some (.int .i64 a') := cell_rowV r5 rfl
    have c9 : (w1.alloc (.cells #[.slice v.Aa v.na v.ca, .int .i64 (s.ln.length : Int), .slice v.Ac v.nc v.cc, .slice v.An v.nn v.cn, .slice v.Al v.nl v.cl, .slice v.Ak v.nk v.ck, .slice v.Av v.nv v.cv, .int .i64 s.cells, .int .i64 a', .int .i64 0] 76)).cell? ⟨w1.heap.size, 9, none⟩ = some (.int .i64 0) := cell_rowV r5 rfl
    have rz7 : rowV ((((w1.alloc (.cells #[.slice v.Aa v.na v.ca, .int .i64 (s.ln.length : Int), .slice v.Ac v.nc v.cc, .slice v.An v.nn v.cn, .slice v.Al v.nl v.cl, .slice v.Ak v.nk v.ck, .slice v.Av v.nv v.cv, .int .i64 s.cells, .int .i64 a', .int .i64 0] 76)).setCell ⟨w.heap.size, 0, none⟩ (.slice v.Aa v.na v.ca)).setCell ⟨w.heap.size, 1, none⟩ (.int .i64 (s.ln.length : Int))).setCell ⟨w.heap.size, 2, none⟩ (.slice v.Ac v.nc v.cc)) w.heap.size 27 #[.slice v.Aa v.na v.ca, .int .i64 (s.ln.length : Int), .slice v.Ac v.nc v.cc] := ((r1.set 0 _).set 1 _).set 2 _
    have hbW : Below w.heap.size w ((((w1.alloc (.cells #[.slice v.Aa v.na v.ca, .int .i64 (s.ln.length : Int), .slice v.Ac v.nc v.cc, .slice v.An v.nn v.cn, .slice v.Al v.nl v.cl, .slice v.Ak v.nk v.ck, .slice v.Av v.nv v.cv, .int .i64 s.cells, .int .i64 a', .int .i64 0] 76)).setCell ⟨w.heap.size, 0, none⟩ (.slice v.Aa v.na v.ca)).setCell ⟨w.heap.size, 1, none⟩ (.int .i64 (s.ln.length : Int))).setCell ⟨w.heap.size, 2, none⟩ (.slice v.Ac v.nc v.cc)) := HB.out.trans ((Below.setG (Nat.le_refl _) _).trans ((Below.setG (Nat.le_refl _) _).trans (Below.setG (Nat.le_refl _) _)))
    have hP : Progs ((((w1.alloc (.cells #[.slice v.Aa v.na v.ca, .int .i64 (s.ln.length : Int), .slice v.Ac v.nc v.cc, .slice v.An v.nn v.cn, .slice v.Al v.nl v.cl, .slice v.Ak v.nk v.ck, .slice v.Av v.nv v.cv, .int .i64 s.cells, .int .i64 a', .int .i64 0] 76)).setCell ⟨w.heap.size, 0, none⟩ (.slice v.Aa v.na v.ca)).setCell ⟨w.heap.size, 1, none⟩ (.int .i64 (s.ln.length : Int))).setCell ⟨w.heap.size, 2, none⟩ (.slice v.Ac v.nc v.cc)) v.Aa v.na v.ca (s.ln.length : Int) v.Ac v.nc v.cc (prgOf s) := hRS2.progs hF (fun k o hk ho _ => by
      have hne : k ≠ w.heap.size := by omega
      exact (Below.heap_setCell _ ⟨w.heap.size, 2, none⟩ _ k hne).trans ((Below.heap_setCell _ ⟨w.heap.size, 1, none⟩ _ k hne).trans ((Below.heap_setCell _ ⟨w.heap.size, 0, none⟩ _ k hne).trans ho)))
    have HZ := Lib.hid (And.intro rz7 (And.intro hbW hP))
    clear rz7 hbW hP r5 r1 rz b0 hb1 hRS hRS2 hF
    go_wp2_with fail
    obtain ⟨q0, q1, q2⟩ := three_cellsV HZ.out.1
    refine bodyPost_ret (v := .tuple #[.agg #[.slice v.Aa v.na v.ca, .int .i64 (s.ln.length : Int), .slice v.Ac v.nc v.cc], .int .i64 0, .int .i64 0]) ?_ rfl ⟨_, _, _, _, _, _, rfl, HZ.out.2.2, HZ.out.2.1⟩
    simp [results, Tryd.results13, go_sem, q0, q1, q2]
end Go.Proofs.YtlbhggjkcfcobaaDoor

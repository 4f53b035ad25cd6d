/- The reference of the assembler: Names. -/
import Derived.Test.YtlbhggjkcfcobaaDoorHk
import Derived.Test.YtlbhggjkcfcobaaDoorGk
namespace Go.Proofs.YtlbhggjkcfcobaaDoor
open Go.RowKit Go.Proofs
set_option linter.unusedVariables false

theorem own_emptyR {w : World} {g B : Nat} (h : rowV w g 9 #[]) (hB : B ≤ g) : Own encS1 w B 9 (some ⟨g, 0, none⟩) 0 0 [] := ⟨rfl, .inr ⟨g, 0, #[], rfl, hB, h, Nat.le_refl _, by decide, rfl, rfl⟩⟩
theorem step_app {P : Program} {α : Type} {enc : α → Value} {w : World} {B : Nat} {e t : TypeId} {A : Option Addr} {n c : Nat} {xs : List α} {zero : α} {bytes : Nat} {ops : Array Oper} {o : Oper} {a : Act} {K : Act → World → Prop} {Q : Exit → Act → World → Prop} {E : Prop}
    (hgd : o.guard = none) (s x : Operand) (ho : o.op = .call { callee := .builtin .append, args := #[s, x], argTypes := #[t, t] })
    (ht : P.underlying t = some (.slice e)) (hi : (P.info? e).map (fun i => (i.zero, i.size, i.bytes)) = some (some (enc zero), 1, bytes)) (h1 : ∀ x, (enc x).oneCell' = true) (hz : (enc zero).cells.size = 1)
    (hs : a.eval s = .slice A n c) (hown : Own enc w B e A n c xs) (hB : B ≤ w.heap.size) (A' : Option Addr) (m c' : Nat) (ys : List α) (d : α) (hm : ys.length = m) (hsrc : Cells w A' m (fun i => enc (ys.getD i d)))
    (hx : a.eval x = .slice A' m c') (hl : n + m ≤ maxLen) (hby : (n + m) * bytes ≤ 140737488355328)
    (h : ∀ A2 c2 w', Own enc w' B e A2 (n + m) c2 (xs ++ ys) → Below B w w' → w.grownBy w' (Value.slice A n c).ownBlock → K (a.put o.dst (.slice A2 (n + m) c2)) w') :
    if Region.wanted o (yielded ops a.tmps) = true then Oper.wp P o a w K Q else E := by
  rw [if_pos (by simp [Region.wanted, hgd])]
  exact wp_app s x ho ht hi h1 hz hs hown hB A' m c' ys d hm hsrc hx hl hby h
set_option maxRecDepth 100000 in
set_option maxHeartbeats 8000000 in
theorem refNames_any (src : List UInt8) (w : World) (hs : src.length ≤ 100000000) : Calls Tryd.prog 16 #[.string (strB src)] w (NamP (readL src) w) := by
  have sz : (strB src).size = src.length := strB_size' src
  by_cases hl : 8192 < src.length
  · have e : readL src = .bad 0 5 := by unfold readL; rw [if_pos hl]
    rw [e]
    have d1 : decide ((8192 : Int) < (src.length : Int)) = true := by simp; omega
    have d1' : decide (8192 < src.length) = true := by simp; omega
    clear e
    go_enter Tryd.func16, Tryd.ntmps16
    go_wp2_with fail
    refine bodyPost_ret (v := .tuple #[.slice none 0 0, .int .i64 0, .int .i64 5]) ?_ rfl ⟨rfl, Below.refl _ _⟩
    simp [results, Tryd.results16, go_sem]
  have d1 : decide ((8192 : Int) < (src.length : Int)) = false := by simp; omega
  have d1' : decide (8192 < src.length) = false := by simp; omega
  have HR := readR_any src w (by omega)
  clear hl
  cases hr : readL src with
  | bad a er =>
    have hne := readL_ne hr
    rw [hr] at HR
    have HR' := Lib.hid HR
    have dne : (er != 0) = true := by simpa using hne
    clear HR hr hs
    go_enter Tryd.func16, Tryd.ntmps16
    go_wp2_with fail
    refine HR'.out.mono ?_
    rintro e w1 ⟨hb1, v, L, C, a', er', rfl, rfl, rfl⟩
    unfold stA
    have r5 := rowV.new w1 76 (stA v L C (a : Int) er')
    have HB := Lib.hid (bdrew1 (balloc hb1 (.cells (stA v L C (a : Int) er') 76)))
    unfold stA at r5 HB
    have c8 : (w1.alloc (.cells #[.slice v.Aa v.na v.ca, .int .i64 L, .slice v.Ac v.nc v.cc, .slice v.An v.nn v.cn, .slice v.Al v.nl v.cl, .slice v.Ak v.nk v.ck, .slice v.Av v.nv v.cv, .int .i64 C, .int .i64 (a : Int), .int .i64 er'] 76)).cell? ⟨w1.heap.size, 8, none⟩ = some (.int .i64 (a : Int)) := cell_rowV r5 rfl
    have c9 : (w1.alloc (.cells #[.slice v.Aa v.na v.ca, .int .i64 L, .slice v.Ac v.nc v.cc, .slice v.An v.nn v.cn, .slice v.Al v.nl v.cl, .slice v.Ak v.nk v.ck, .slice v.Av v.nv v.cv, .int .i64 C, .int .i64 (a : Int), .int .i64 er'] 76)).cell? ⟨w1.heap.size, 9, none⟩ = some (.int .i64 er') := cell_rowV r5 rfl
    clear r5 hb1
    go_wp2_with fail
    go_region
    all_goals
      go_wp2_with fail
      refine bodyPost_ret (v := .tuple #[.slice none 0 0, .int .i64 (a : Int), .int .i64 er']) ?_ rfl ⟨rfl, HB.out⟩
      simp [results, Tryd.results16, go_sem]
  | ok s r =>
    rw [hr] at HR
    have HR' := Lib.hid HR
    clear HR hr hs
    go_enter Tryd.func16, Tryd.ntmps16
    go_wp2_with fail
    refine HR'.out.mono ?_
    rintro e w1 ⟨hb1, v, L, C, a', er', rfl, rfl, rfl, rfl, hRS, hF⟩
    unfold stA
    have r5 := rowV.new w1 76 (stA v (s.ln.length : Int) s.cells a' 0)
    have bx := balloc (Below.refl w1.heap.size w1) (.cells (stA v (s.ln.length : Int) s.cells a' 0) 76)
    have HB := Lib.hid (balloc hb1 (.cells (stA v (s.ln.length : Int) s.cells a' 0) 76))
    have hRS2 := hRS.below bx
    have hS1 := hRS2.on.toStrs
    have hS2 := hRS2.ol.toStrs
    unfold stA at r5 HB hS1 hS2
    have c0 : (w1.alloc (.cells #[.slice v.Aa v.na v.ca, .int .i64 (s.ln.length : Int), .slice v.Ac v.nc v.cc, .slice v.An v.nn v.cn, .slice v.Al v.nl v.cl, .slice v.Ak v.nk v.ck, .slice v.Av v.nv v.cv, .int .i64 s.cells, .int .i64 a', .int .i64 0] 76)).cell? ⟨w1.heap.size, 0, none⟩ = some (.slice v.Aa v.na v.ca) := cell_rowV r5 rfl
    have c1 : (w1.alloc (.cells #[.slice v.Aa v.na v.ca, .int .i64 (s.ln.length : Int), .slice v.Ac v.nc v.cc, .slice v.An v.nn v.cn, .slice v.Al v.nl v.cl, .slice v.Ak v.nk v.ck, .slice v.Av v.nv v.cv, .int .i64 s.cells, .int .i64 a', .int .i64 0] 76)).cell? ⟨w1.heap.size, 1, none⟩ = some (.int .i64 (s.ln.length : Int)) := cell_rowV r5 rfl
    have c2 : (w1.alloc (.cells #[.slice v.Aa v.na v.ca, .int .i64 (s.ln.length : Int), .slice v.Ac v.nc v.cc, .slice v.An v.nn v.cn, .slice v.Al v.nl v.cl, .slice v.Ak v.nk v.ck, .slice v.Av v.nv v.cv, .int .i64 s.cells, .int .i64 a', .int .i64 0] 76)).cell? ⟨w1.heap.size, 2, none⟩ = some (.slice v.Ac v.nc v.cc) := cell_rowV r5 rfl
    have c3 : (w1.alloc (.cells #[.slice v.Aa v.na v.ca, .int .i64 (s.ln.length : Int), .slice v.Ac v.nc v.cc, .slice v.An v.nn v.cn, .slice v.Al v.nl v.cl, .slice v.Ak v.nk v.ck, .slice v.Av v.nv v.cv, .int .i64 s.cells, .int .i64 a', .int .i64 0] 76)).cell? ⟨w1.heap.size, 3, none⟩ = some (.slice v.An v.nn v.cn) := cell_rowV r5 rfl
    have c4 : (w1.alloc (.cells #[.slice v.Aa v.na v.ca, .int .i64 (s.ln.length : Int), .slice v.Ac v.nc v.cc, .slice v.An v.nn v.cn, .slice v.Al v.nl v.cl, .slice v.Ak v.nk v.ck, .slice v.Av v.nv v.cv, .int .i64 s.cells, .int .i64 a', .int .i64 0] 76)).cell? ⟨w1.heap.size, 4, none⟩ = some (.slice v.Al v.nl v.cl) := cell_rowV r5 rfl
    have c5 : (w1.alloc (.cells #[.slice v.Aa v.na v.ca, .int .i64 (s.ln.length : Int), .slice v.Ac v.nc v.cc, .slice v.An v.nn v.cn, .slice v.Al v.nl v.cl, .slice v.Ak v.nk v.ck, .slice v.Av v.nv v.cv, .int .i64 s.cells, .int .i64 a', .int .i64 0] 76)).cell? ⟨w1.heap.size, 5, none⟩ = some (.slice v.Ak v.nk v.ck) := cell_rowV r5 rfl
    have c6 : (w1.alloc (.cells #[.slice v.Aa v.na v.ca, .int .i64 (s.ln.length : Int), .slice v.Ac v.nc v.cc, .slice v.An v.nn v.cn, .slice v.Al v.nl v.cl, .slice v.Ak v.nk v.ck, .slice v.Av v.nv v.cv, .int .i64 s.cells, .int .i64 a', .int .i64 0] 76)).cell? ⟨w1.heap.size, 6, none⟩ = some (.slice v.Av v.nv v.cv) := cell_rowV r5 rfl
    have c7 : (w1.alloc (.cells #[.slice v.Aa v.na v.ca, .int .i64 (s.ln.length : Int), .slice v.Ac v.nc v.cc, .slice v.An v.nn v.cn, .slice v.Al v.nl v.cl, .slice v.Ak v.nk v.ck, .slice v.Av v.nv v.cv, .int .i64 s.cells, .int .i64 a', .int .i64 0] 76)).cell? ⟨w1.heap.size, 7, none⟩ = some (.int .i64 s.cells) := cell_rowV r5 rfl
    have c8 : (w1.alloc (.cells #[.slice v.Aa v.na v.ca, .int .i64 (s.ln.length : Int), .slice v.Ac v.nc v.cc, .slice v.An v.nn v.cn, .slice v.Al v.nl v.cl, .slice v.Ak v.nk v.ck, .slice v.Av v.nv v.cv, .int .i64 s.cells, .int .i64 a', .int .i64 0] 76)).cell? ⟨w1.heap.size, 8, none⟩ = some (.int .i64 a') := cell_rowV r5 rfl
    have c9 : (w1.alloc (.cells #[.slice v.Aa v.na v.ca, .int .i64 (s.ln.length : Int), .slice v.Ac v.nc v.cc, .slice v.An v.nn v.cn, .slice v.Al v.nl v.cl, .slice v.Ak v.nk v.ck, .slice v.Av v.nv v.cv, .int .i64 s.cells, .int .i64 a', .int .i64 0] 76)).cell? ⟨w1.heap.size, 9, none⟩ = some (.int .i64 0) := cell_rowV r5 rfl
    have hn1 : v.nn ≤ 100 := by have := hRS2.on.length (fun _ => rfl) (by decide); have := hF.an; have := hF.few; omega
    have hn2 : v.nl ≤ 100 := by have := hRS2.ol.length (fun _ => rfl) (by decide); have := hF.locs; omega
    obtain ⟨w2, hw2⟩ : ∃ w2, w2 = (w1.alloc (.cells #[.slice v.Aa v.na v.ca, .int .i64 (s.ln.length : Int), .slice v.Ac v.nc v.cc, .slice v.An v.nn v.cn, .slice v.Al v.nl v.cl, .slice v.Ak v.nk v.ck, .slice v.Av v.nv v.cv, .int .i64 s.cells, .int .i64 a', .int .i64 0] 76)) := ⟨_, rfl⟩
    have hs2 : w2.heap.size = w1.heap.size + 1 := by rw [hw2]; simp
    rw [← hw2] at HB hS1 hS2 c0 c1 c2 c3 c4 c5 c6 c7 c8 c9
    have HW2 := Lib.hid hw2
    have HS := Lib.hid (And.intro hS1 (And.intro hS2 (And.intro hn1 hn2)))
    have hm : Hid (∀ k, k ≤ 200 → k ≤ maxLen ∧ k * 16 ≤ 140737488355328) := fun k hk => ⟨by simp [maxLen]; omega, by omega⟩
    have lt1 : w1.heap.size < w2.heap.size := by omega
    clear hw2 hS1 hS2 hn1 hn2 r5 hb1 bx hRS hRS2 hF hs2
    go_wp2_with fail
    rw [← HW2.out]
    go_region_law (first | (refine step_app (enc := encS1) (zero := ([] : List UInt8)) (bytes := 16) rfl (.tmp 18) (.tmp 20) rfl uSt infoS1 encS1_one rfl rfl (own_emptyR (B := w2.heap.size) (by (repeat (first | (with_reducible refine rowV_newA ?_; first | rfl | (simp [setCell_size]; done)) | with_reducible refine rowV_drew1 ?_ | with_reducible refine rowV_alloc1 ?_)); done) (by first | exact Nat.le_refl _ | (simp; done) | omega)) (Below.size (show Below w2.heap.size w2 _ from (by repeat (first | with_reducible exact Below.refl _ _ | with_reducible refine bdrew1 ?_ | with_reducible refine balloc ?_ _)))) v.An v.nn v.cn s.an ([] : List UInt8) HS.out.1.1 (HS.out.1.below (by repeat (first | with_reducible exact Below.refl _ _ | with_reducible refine bdrew1 ?_ | with_reducible refine balloc ?_ _))).2.2 rfl (hm.out _ (by have := HS.out.2.2.1; omega)).1 (hm.out _ (by have := HS.out.2.2.1; omega)).2 ?_; intro A7 cA7 w7 ho7 hb7 hg7; have HX : Hid (Own encS1 w7 w2.heap.size 9 A7 v.nn cA7 s.an ∧ Below w2.heap.size w2 w7) := ⟨(by have h := ho7; rw [Nat.zero_add] at h; exact h), Below.trans (by repeat (first | with_reducible exact Below.refl _ _ | with_reducible refine bdrew1 ?_ | with_reducible refine balloc ?_ _)) hb7⟩; have u2 : w7.cell? ⟨w1.heap.size, 4, none⟩ = some (.slice v.Al v.nl v.cl) := (HX.out.2.cell (p := ⟨w1.heap.size, 4, none⟩) lt1).trans c4; clear ho7 hb7 hg7) | (refine step_app (enc := encS1) (zero := ([] : List UInt8)) (bytes := 16) rfl (.tmp 21) (.tmp 23) rfl uSt infoS1 encS1_one rfl rfl HX.out.1 (Below.size HX.out.2) v.Al v.nl v.cl s.ln ([] : List UInt8) HS.out.2.1.1 (HS.out.2.1.below HX.out.2).2.2 rfl (hm.out _ (by have := HS.out.2.2.1; have := HS.out.2.2.2; omega)).1 (hm.out _ (by have := HS.out.2.2.1; have := HS.out.2.2.2; omega)).2 ?_; intro A8 cA8 w8 ho8 hb8 hg8; have HY : Hid (Own encS1 w8 w2.heap.size 9 A8 (v.nn + v.nl) cA8 (s.an ++ s.ln) ∧ Below w2.heap.size w2 w8) := ⟨ho8, HX.out.2.trans hb8⟩; clear ho8 hb8 hg8))
    all_goals
      have HO := Lib.hid HY.out.1.toStrs1
      go_wp2_with fail
      refine bodyPost_ret (v := .tuple #[.slice A8 (v.nn + v.nl) cA8, .int .i64 0, .int .i64 0]) ?_ rfl ⟨_, _, _, rfl, HO.out, HB.out.trans (HY.out.2.mono HB.out.size)⟩
      simp [results, Tryd.results16, go_sem]
end Go.Proofs.YtlbhggjkcfcobaaDoor

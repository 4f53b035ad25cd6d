/- The assembler's reader in memory; contract of next. -/
import Derived.Test.YtlbhggjkcfcobaaDoorAb
namespace Go.Proofs.YtlbhggjkcfcobaaDoor
open Go.RowKit Go.Proofs
set_option linter.unusedVariables false

def gW (l : List Wd) (k : Nat) : Wd := l.getD k ([], 0)
/-- a slice of words, in a block below B. -/
def WordsM (B : Nat) (w : World) (A : Option Addr) (n c : Nat) (l : List Wd) : Prop := l.length = n ∧ n ≤ c ∧ (∀ x ∈ l, x.1.length ≤ 9000 ∧ x.2 ≤ 9000) ∧
  (0 < n → ∃ b off, A = some ⟨b, off, none⟩ ∧ b < B ∧ ∀ i, i < n → w.cell? ⟨b, off + i * 2, none⟩ = some (.string (strB (gW l i).1)) ∧ w.cell? ⟨b, off + i * 2 + 1, none⟩ = some (.int .i64 ((gW l i).2 : Int)))
theorem WordsM.below {B : Nat} {w w' : World} {A : Option Addr} {n c : Nat} {l : List Wd} (h : WordsM B w A n c l) (hb : Below B w w') : WordsM B w' A n c l := ⟨h.1, h.2.1, h.2.2.1, fun hn => by
  obtain ⟨b, off, rfl, hlt, hc⟩ := h.2.2.2 hn
  exact ⟨b, off, rfl, hlt, fun i hi => ⟨(hb.cell (p := ⟨b, off + i * 2, none⟩) hlt).trans (hc i hi).1, (hb.cell (p := ⟨b, off + i * 2 + 1, none⟩) hlt).trans (hc i hi).2⟩⟩⟩
theorem gW_drop (l : List Wd) (k i : Nat) : gW (l.drop k) i = gW l (k + i) := by simp [gW, List.getD, List.getElem?_drop]
theorem WordsM.tail {B : Nat} {w : World} {b off n c : Nat} {l : List Wd} (h : WordsM B w (some ⟨b, off, none⟩) n c l) (hn : 0 < n) (A' : Option Addr) (hA : 1 < n → A' = some ⟨b, off + 2, none⟩) : WordsM B w A' (n - 1) (c - 1) l.tail := by
  obtain ⟨h1, h2, h3, h4⟩ := h
  refine ⟨by rw [List.length_tail, h1], by omega, fun x hx => h3 x (List.mem_of_mem_tail hx), fun hm => ?_⟩
  obtain ⟨b', off', e, hb, hc⟩ := h4 hn
  injection e with e
  injection e with e1 e2
  subst e1 e2
  refine ⟨b, off + 2, hA (by omega), hb, fun i hi => ?_⟩
  have := hc (i + 1) (by omega)
  have e : gW l.tail i = gW l (i + 1) := by rw [← List.drop_one, gW_drop, Nat.add_comm]
  rw [e]
  rw [show off + 2 + i * 2 = off + (i + 1) * 2 by omega]
  exact this
/-- the cells of a reader. -/
def rdC (A : Option Addr) (k c n : Nat) (v2 v3 v4 v5 v6 v7 : Value) : Array Value := #[.slice A k c, .int .i64 (n : Int), v2, v3, v4, v5, v6, v7]
theorem rd_cells {w : World} {g : Nat} {t : TypeId} {A : Option Addr} {k c n : Nat} {v2 v3 v4 v5 v6 v7 : Value} (h : rowV w g t (rdC A k c n v2 v3 v4 v5 v6 v7)) :
    w.cell? ⟨g, 0, none⟩ = some (.slice A k c) ∧ w.cell? ⟨g, 1, none⟩ = some (.int .i64 (n : Int)) ∧ w.cell? ⟨g, 2, none⟩ = some v2 ∧ w.cell? ⟨g, 3, none⟩ = some v3 ∧ w.cell? ⟨g, 4, none⟩ = some v4 ∧ w.cell? ⟨g, 5, none⟩ = some v5 ∧ w.cell? ⟨g, 6, none⟩ = some v6 ∧ w.cell? ⟨g, 7, none⟩ = some v7 := by
  unfold rowV rdC at h
  refine ⟨?_, ?_, ?_, ?_, ?_, ?_, ?_, ?_⟩ <;> simp [World.cell?, h]
theorem frozen_rowV' {w : World} {g : Nat} {t : TypeId} {a : Array Value} (h : rowV w g t a) (j : Nat) : w.frozen? ⟨g, j, none⟩ = false := by
  unfold rowV at h
  simp [World.frozen?, h]
theorem rowV.set {w : World} {g : Nat} {t : TypeId} {cs : Array Value} (h : rowV w g t cs) (j : Nat) (v : Value) : rowV (w.setCell ⟨g, j, none⟩ v) g t (cs.setIfInBounds j v) := by
  unfold rowV at h ⊢
  simp [World.setCell, Array.getElem?_modify, h]

set_option maxRecDepth 100000 in
set_option maxHeartbeats 2000000 in
theorem next_any (B g : Nat) (A : Option Addr) (k c n : Nat) (v2 v3 v4 v5 v6 v7 : Value) (ws : List Wd) (w : World) (hr : rowV w g 73 (rdC A k c n v2 v3 v4 v5 v6 v7)) (hw : WordsM B w A k c ws) (hk : k ≤ 9000) (hB : B ≤ g) :
    Calls Tryd.prog 43 #[.pointer (some ⟨g, 0, none⟩)] w fun e w' => ∃ A' k' c', e = .returned (.agg #[.string (strB (nextW n ws).1), .int .i64 ((nextW n ws).2 : Int)]) ∧ k' = k - 1 ∧ rowV w' g 73 (rdC A' k' c' n v2 v3 v4 v5 v6 v7) ∧ WordsM B w' A' k' c' ws.tail ∧ w.grownBy w' (some g) := by
  obtain ⟨c0, c1, -⟩ := rd_cells hr
  have f0 := frozen_rowV' hr 0
  have hlt := hr.lt
  have Hr := Lib.hid hr
  have Hw := Lib.hid hw
  cases ws with
  | nil =>
    obtain rfl : k = 0 := by have := hw.1; simpa using this.symm
    have hN : nextW n ([] : List Wd) = ([], n) := rfl
    rw [hN]
    clear hr hw hN
    go_enter Tryd.func43, Tryd.ntmps43
    go_wp2_with fail
    have r1 := rowV.new w 97 #[.string ⟨#[]⟩, .int .i64 (n : Int)]
    obtain ⟨z0, z1⟩ := two_cellsV r1
    have hb := (Below.refl w.heap.size w).alloc (Nat.le_refl _) (.cells #[.string ⟨#[]⟩, .int .i64 (n : Int)] 97)
    refine bodyPost_ret (v := .agg #[.string ⟨#[]⟩, .int .i64 (n : Int)]) (by simp [results, Tryd.results43, go_sem, z0, z1]) rfl
      ⟨A, 0, c, rfl, rfl, Hr.out.below hb hlt, Hw.out.below (hb.mono (by omega)), World.grownBy_alloc w _ _⟩
  | cons x ws =>
    have hk1 : k = ws.length + 1 := by have := hw.1; simpa using this.symm
    have hN : nextW n (x :: ws) = x := rfl
    rw [hN]
    clear hN
    obtain ⟨b, off, rfl, hbl, hcell⟩ := hw.2.2.2 (by omega)
    obtain ⟨q1, q2⟩ := hcell 0 (by omega)
    have hx := hw.2.2.1 x (by simp)
    have hkc := hw.2.1
    obtain ⟨xs, xp⟩ := x
    replace q1 : w.cell? ⟨b, off, none⟩ = some (.string (strB xs)) := by simpa [gW] using q1
    replace q2 : w.cell? ⟨b, off + 1, none⟩ = some (.int .i64 (xp : Int)) := by simpa [gW] using q2
    have hbw : b < w.heap.size := World.block_lt_of_cell? w _ q1
    have k0 : decide (k = 0) = false := by simp; omega
    have k0' : ((k : Int) == 0) = false := by simp; omega
    have k1 : (1 : Int) ≤ (k : Int) := by omega
    have k2 : 0 < k := by omega
    have k3 : (k == 0) = false := by simp; omega
    dsimp only
    clear hr hw hcell hk1
    go_enter Tryd.func43, Tryd.ntmps43
    have fin : ∀ A' : Option Addr, (1 < k → A' = some ⟨b, off + 2, none⟩) → ∀ W, W = ((w.setCell ⟨g, 0, none⟩ (.slice A' (k - 1) (c - 1))).alloc (.cells #[.string (strB xs), .int .i64 (xp : Int)] 97)).alloc (.cells #[.string (strB xs), .int .i64 (xp : Int)] 97) →
        (W.cell? ⟨w.heap.size, 0, none⟩ = some (.string (strB xs)) ∧ W.cell? ⟨w.heap.size, 1, none⟩ = some (.int .i64 (xp : Int))) ∧ rowV W g 73 (rdC A' (k - 1) (c - 1) n v2 v3 v4 v5 v6 v7) ∧ WordsM B W A' (k - 1) (c - 1) ws ∧ w.grownBy W (some g) := fun A' hA W hW => by
      have hs : (w.setCell ⟨g, 0, none⟩ (.slice A' (k - 1) (c - 1))).heap.size = w.heap.size := by simp [World.setCell]
      have hg1 := grownBy.setCell' (World.grownBy.refl w (some g)) (j := 0) (.slice A' (k - 1) (c - 1))
      have r1 := rowV.new (w.setCell ⟨g, 0, none⟩ (.slice A' (k - 1) (c - 1))) 97 #[.string (strB xs), .int .i64 (xp : Int)]
      rw [hs] at r1
      have rg : rowV (w.setCell ⟨g, 0, none⟩ (.slice A' (k - 1) (c - 1))) g 73 (rdC A' (k - 1) (c - 1) n v2 v3 v4 v5 v6 v7) := Hr.out.set 0 _
      obtain ⟨w1, hw1⟩ : ∃ w1, w1 = w.setCell ⟨g, 0, none⟩ (.slice A' (k - 1) (c - 1)) := ⟨_, rfl⟩
      rw [← hw1] at hW hg1 r1 rg hs
      have b2 : Below w1.heap.size w1 (w1.alloc (.cells #[.string (strB xs), .int .i64 (xp : Int)] 97)) := balloc (Below.refl _ _) _
      have hg2 := grownBy.alloc' hg1 (.cells #[.string (strB xs), .int .i64 (xp : Int)] 97)
      have rg2 := rg.below b2 rg.lt
      obtain ⟨w2, hw2⟩ : ∃ w2, w2 = w1.alloc (.cells #[.string (strB xs), .int .i64 (xp : Int)] 97) := ⟨_, rfl⟩
      rw [← hw2] at hW hg2 r1 rg2 b2
      have b3 : Below w2.heap.size w2 (w2.alloc (.cells #[.string (strB xs), .int .i64 (xp : Int)] 97)) := balloc (Below.refl _ _) _
      have hg3 := grownBy.alloc' hg2 (.cells #[.string (strB xs), .int .i64 (xp : Int)] 97)
      rw [← hW] at b3 hg3
      have r3 := r1.below b3 r1.lt
      have rg3 := rg2.below b3 rg2.lt
      refine ⟨two_cellsV r3, rg3, ?_, hg3⟩
      exact (Hw.out.tail k2 A' hA).below ((Below.refl B w).grown hg3 (by omega) (fun k hk => by injection hk with hk; omega))
    have f1 := fin (some ⟨b, off, none⟩)
    have f2 := fin (some ⟨b, off + 2, none⟩) (fun _ => rfl) _ rfl
    have F2 := Lib.hid f2
    have F1 := Lib.hid f1
    clear f1 f2 fin
    go_wp2_with fail
    all_goals first
      | (obtain rfl : c = 1 := by assumption
         obtain ⟨⟨z0, z1⟩, h2, h3, h4⟩ := F1.out (fun h => absurd h (by omega)) _ rfl
         refine bodyPost_ret (v := .agg #[.string (strB xs), .int .i64 (xp : Int)]) ?_ rfl ?_
         · simp [results, Tryd.results43, go_sem, z0, z1]
         · exact ⟨rfl, _, _, h2, h3, h4⟩)
      | (obtain ⟨⟨z0, z1⟩, h2, h3, h4⟩ := F2.out
         refine bodyPost_ret (v := .agg #[.string (strB xs), .int .i64 (xp : Int)]) ?_ rfl ?_
         · simp [results, Tryd.results43, go_sem, z0, z1]
         · exact ⟨rfl, _, _, h2, h3, h4⟩)
end Go.Proofs.YtlbhggjkcfcobaaDoor

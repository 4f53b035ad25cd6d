/- slices.Sort at []byte, part 1: the row that is sorted (Arr), cmp.Less, insertionSortOrdered. slices.Sort at []byte, part 2: siftDownOrdered, heapSortOrdered, reverseRangeOrdered. -/
import Derived.Test.YtoodfmilleodaaaProg
import Derived.Test.YtoodfmilleodaaaKit
import Derived.Sort.WalkA
import Derived.Sort.WalkC
import Derived.Sort.WalkB2
import Derived.Sort.LotD3
import Derived.RangeFuncBox
import Derived.BigRegion
import Derived.Sort.WalkB3
import Derived.CellFam
namespace Go.Proofs.Ytoodfmilleodaaa
open Go.RowKit Go.Proofs Go.Sort
set_option linter.unusedVariables false
set_option linter.unusedSimpArgs false

def encU (b : UInt8) : Value := .int .u8 b.toNat
def ltU (x y : UInt8) : Bool := decide (x < y)
theorem ltU_swo : SWO ltU := by
  refine ⟨?_, ?_, ?_⟩ <;> simp only [ltU, decide_eq_false_iff_not, decide_eq_true_eq, UInt8.lt_iff_toNat_lt] <;> intros <;> omega
theorem ltU_eq (x y : UInt8) (h1 : ltU x y = false) (h2 : ltU y x = false) : x = y := by
  simp only [ltU, decide_eq_false_iff_not, UInt8.lt_iff_toNat_lt] at h1 h2
  exact UInt8.toNat_inj.1 (by omega)
/-- the value of cell t. -/
def gA (d : Array UInt8) (t : Nat) : Int := (d[t]!.toNat : Int)
theorem ltU_at (d : Array UInt8) (i j : Nat) : ltU d[i]! d[j]! = decide (gA d i < gA d j) := by
  unfold ltU gA
  by_cases h : d[i]! < d[j]!
  · rw [decide_eq_true h, decide_eq_true (by have := UInt8.lt_iff_toNat_lt.1 h; omega)]
  · rw [decide_eq_false h, decide_eq_false (by have := mt UInt8.lt_iff_toNat_lt.2 h; omega)]

/-- from w0 on, the cells of block blk from off on hold d; other blocks are as they were. -/
def Arr (w0 w : World) (blk off : Nat) (d : Array UInt8) : Prop := (Holds encU w blk off d ∧ blk < w.heap.size) ∧ w0.grownBy w (some blk)
section
variable {w0 w w' : World} {blk off : Nat} {d : Array UInt8}
theorem Arr.cell (h : Arr w0 w blk off d) {t : Nat} (ht : t < d.size) : w.cell? ⟨blk, off + t, none⟩ = some (.int .u8 (gA d t)) := (h.1.1 t ht).1
theorem Arr.frozen (h : Arr w0 w blk off d) {t : Nat} (ht : t < d.size) : w.frozen? ⟨blk, off + t, none⟩ = false := (h.1.1 t ht).2
theorem Arr.drewN (h : Arr w0 w blk off d) (q : Nat) : Arr w0 (w.drewN q) blk off d := ⟨h.1, grownBy.drewN' h.2 q⟩
theorem Arr.trans {w1 : World} {d1 : Array UInt8} (h : Arr w0 w blk off d) (h1 : Arr w w1 blk off d1) : Arr w0 w1 blk off d1 := ⟨h1.1, grownBy.trans' h.2 h1.2⟩
theorem Arr.self (h : Arr w0 w blk off d) : Arr w w blk off d := ⟨h.1, World.grownBy.refl _ _⟩
theorem Arr.swp (h : Arr w0 w blk off d) {i j : Nat} (hi : i < d.size) (hj : j < d.size) :
    Arr w0 ((w.setCell ⟨blk, off + i, none⟩ (.int .u8 (gA d j))).setCell ⟨blk, off + j, none⟩ (.int .u8 (gA d i))) blk off (swp d i j) := by
  have e : (w.setCell ⟨blk, off + i, none⟩ (.int .u8 (gA d j))).setCell ⟨blk, off + j, none⟩ (.int .u8 (gA d i)) = putRow encU w blk off (Sort.swp d i j) := by
    have := putRow_swp encU w blk off d i j hi hj
    rw [putRow_self encU w blk off d h.1.1] at this
    exact this
  refine ⟨⟨?_, ?_⟩, ?_⟩
  · rw [e]
    exact holds_putRow encU w blk off d _ h.1.1 (size_swp _ _ _)
  · rw [e]; simpa [putRow, mapBlock] using h.1.2
  · exact grownBy.setCell' (grownBy.setCell' h.2 _) _
/-- what is below a block that is not the row's. -/
theorem Arr.keep (h : Arr w0 w blk off d) (hg : w.grownBy w' none) : Arr w0 w' blk off d := by
  have hb := hg.block blk h.1.2 (by simp)
  refine ⟨⟨fun j hj => ?_, Nat.lt_of_lt_of_le h.1.2 hg.size⟩, grownBy.trans' h.2 ⟨hg.os, hg.tape, hg.output, hg.size, fun k hk _ => hg.block k hk (by simp)⟩⟩
  obtain ⟨h1, h2⟩ := h.1.1 j hj
  simp only [World.cell?, World.frozen?, hb] at h1 h2 ⊢
  exact ⟨h1, h2⟩
end

theorem isNaN_any (x : Int) (w : World) : Calls Try.prog 112 #[.int .u8 x] w fun e w' => e = .returned (.bool false) ∧ w' = w := by
  go_enter Try.func112, Try.ntmps112
  go_wp2
  go_ret
  exact ⟨by simp, rfl⟩
theorem less_any (x y : Int) (w : World) : Calls Try.prog 94 #[.int .u8 x, .int .u8 y] w fun e w' => e = .returned (.bool (decide (x < y))) ∧ w' = w := by
  go_enter Try.func94, Try.ntmps94
  go_wp2_with (go_at_call 112; refine (isNaN_any _ _).mono ?_; rintro e w' ⟨rfl, rfl⟩)
  go_ret
  exact ⟨rfl, rfl⟩

set_option maxHeartbeats 1600000 in
theorem insertion_any (blk off cap a b : Nat) (d : Array UInt8) (w : World) (hA : Arr w w blk off d) (hab : a ≤ b) (hb : b ≤ d.size) (hsz : d.size < 4611686018427387904) :
    Calls Try.prog 88 #[.slice (some ⟨blk, off, none⟩) d.size cap, .int .i64 a, .int .i64 b] w fun e w' => e = .returned (.tuple #[]) ∧ Arr w w' blk off (insertionSort ltU d a b) := by
  go_enter Try.func88, Try.ntmps88
  go_wp2
  go_loopw [6] (fun vi wr => ∃ (i : Nat) (dk : Array UInt8), vi = .int .i64 i ∧ a < i ∧ i ≤ b + 1 ∧ dk.size = d.size ∧ Arr w wr blk off dk ∧ insOuter ltU a b i dk = insOuter ltU a b (a + 1) d) (fun vi _ => b + 1 - (intOf vi).toNat)
  case atStart => exact ⟨a + 1, d, by go_num, by omega, by omega, rfl, hA, rfl⟩
  case round =>
    obtain ⟨i, dk, rfl, hai, hib, hsk, hAk, hO⟩ := hrel
    have HO := Lib.hid hO
    clear hO
    by_cases hlt : i < b
    · go_wp2
      go_loopw [7] (fun vj w2 => ∃ (j : Nat) (dj : Array UInt8), vj = .int .i64 j ∧ a ≤ j ∧ j ≤ i ∧ dj.size = d.size ∧ Arr w w2 blk off dj ∧ insInner ltU a j dj = insInner ltU a i dk) (fun vj _ => (intOf vj).toNat)
      case atStart => exact ⟨i, dk, rfl, by omega, Nat.le_refl _, hsk, hAk, rfl⟩
      case round =>
        obtain ⟨j, dj, rfl, haj, hji, hsj, hAj, hI⟩ := hrel
        have HI := Lib.hid hI
        clear hI hAk hA
        have HA := Lib.hid hAj
        have HS := Lib.hid hsj
        by_cases hja : a < j
        · have c1 := hAj.cell (t := j) (by omega)
          have c2 := hAj.cell (t := j - 1) (by omega)
          have f1 := hAj.frozen (t := j) (by omega)
          have f2 := hAj.frozen (t := j - 1) (by omega)
          have e1 := ltU_at dj j (j - 1)
          clear hAj hsj
          by_cases hl : gA dj j < gA dj (j - 1)
          · rw [decide_eq_true hl] at e1
            have E1 := Lib.hid e1; clear e1
            go_wp2
            go_quiet (first | (go_at_call 94; refine Calls.quiet_of_same (less_any _ _ _)))
            go_wp2
            go_region
            all_goals go_wp2
            go_roundw
            case rel =>
              refine ⟨j - 1, swp dj j (j - 1), by congr 1; omega, by omega, by omega, by rw [size_swp]; exact HS.out, ?_, ?_⟩
              · exact (HA.out.drewN _).swp (by have := HS.out; omega) (by have := HS.out; omega)
              · rw [← HI.out, insInner_go ltU a j dj hja E1.out]
            case measure => simp [intOf]; omega
          · rw [decide_eq_false hl] at e1
            have E1 := Lib.hid e1; clear e1
            go_wp2
            go_quiet (first | (go_at_call 94; refine Calls.quiet_of_same (less_any _ _ _)))
            go_wp2
            go_roundw
            case rel => exact ⟨i + 1, dj, by go_num, by omega, by omega, HS.out, HA.out.drewN _, by rw [← HO.out, insOuter_go _ _ _ _ _ hlt, ← HI.out, insInner_stop _ _ _ _ (Or.inr E1.out)]⟩
            case measure => simp [intOf]; omega
        · clear hAj hsj
          go_wp2
          go_quiet (first | (go_at_call 94; refine Calls.quiet_of_same (less_any _ _ _)))
          go_wp2
          go_roundw
          case rel => exact ⟨i + 1, dj, by go_num, by omega, by omega, HS.out, HA.out.drewN _, by rw [← HO.out, insOuter_go _ _ _ _ _ hlt, ← HI.out, insInner_stop _ _ _ _ (Or.inl (by omega))]⟩
          case measure => simp [intOf]; omega
    · go_wp2
      go_end0
      exact ⟨rfl, by unfold insertionSort; rw [← HO.out, insOuter_stop _ _ _ _ _ hlt]; exact hAk⟩
end Go.Proofs.Ytoodfmilleodaaa
namespace Go.Proofs.Ytoodfmilleodaaa
open Go.RowKit Go.Proofs Go.Sort
set_option linter.unusedVariables false
set_option linter.unusedSimpArgs false

def ltZ (x y : Int) : Bool := decide (x < y)
theorem ltZ_at (d : Array UInt8) (i j : Nat) : ltU d[i]! d[j]! = ltZ (gA d i) (gA d j) := ltU_at d i j
theorem lessZ_any (x y : Int) (w : World) : Calls Try.prog 94 #[.int .u8 x, .int .u8 y] w fun e w' => e = .returned (.bool (ltZ x y)) ∧ w' = w := less_any x y w

set_option maxHeartbeats 3200000 in
set_option maxRecDepth 100000 in
theorem siftDown_any (blk off len cap lo hi first : Nat) (d : Array UInt8) (hlen : d.size = len) (w : World) (hA : Arr w w blk off d) (hlo : lo ≤ hi) (hb : first + hi ≤ d.size) (hsz : d.size < 4611686018427387904) :
    Calls Try.prog 107 #[.slice (some ⟨blk, off, none⟩) len cap, .int .i64 lo, .int .i64 hi, .int .i64 first] w fun e w' => e = .returned (.tuple #[]) ∧ Arr w w' blk off (siftDown ltU hi first lo d) := by
  subst hlen
  go_enter Try.func107, Try.ntmps107
  go_wp2
  go_loopw [8] (fun s8 wr => ∃ (root : Nat) (dk : Array UInt8), s8 = .int .i64 root ∧ root ≤ hi ∧ dk.size = d.size ∧ Arr w wr blk off dk ∧ siftDown ltU hi first root dk = siftDown ltU hi first lo d) (fun s8 _ => hi - (intOf s8).toNat)
  case atStart => exact ⟨lo, d, rfl, hlo, rfl, hA, rfl⟩
  case round =>
    obtain ⟨root, dk, rfl, hr, hds, hAk, heq⟩ := hrel
    have HE := Lib.hid heq
    have HS := Lib.hid hds
    have HA := Lib.hid hAk
    clear heq hds hAk hA
    have hcw : ∀ t, t < d.size → wr.cell? ⟨blk, off + t, none⟩ = some (.int .u8 (gA dk t)) := fun t ht => HA.out.cell (by have := HS.out; omega)
    have hfw : ∀ t, t < d.size → wr.frozen? ⟨blk, off + t, none⟩ = false := fun t ht => HA.out.frozen (by have := HS.out; omega)
    by_cases h0 : hi ≤ 2 * root + 1
    · have h0z : (hi : Int) ≤ 2 * (root : Int) + 1 := by omega
      go_wp2
      go_end0
      refine ⟨rfl, ?_⟩
      rw [← HE.out, sd_end ltU dk h0]
      exact HA.out
    · have h0z : ¬ ((hi : Int) ≤ 2 * (root : Int) + 1) := by omega
      by_cases h1 : 2 * root + 2 < hi
      · have h1z : 2 * (root : Int) + 1 + 1 < (hi : Int) := by omega
        go_wp2_with fail
        go_quiet (first | (go_at_call 94; refine Calls.quiet_of_same (lessZ_any _ _ _)))
        go_wp2_with fail
        · have hL : ltZ (gA dk (first + 2 * root + 1)) (gA dk (first + 2 * root + 2)) = true := by assumption
          rw [← ltZ_at] at hL
          have HL := Lib.hid hL; clear hL
          have HA2 := Lib.hid (HA.out.drewN nq)
          clear HA hcw hfw
          revert nq; intro nq1 HA2
          obtain ⟨w2, hw2⟩ : ∃ w2, w2 = wr.drewN nq1 := ⟨_, rfl⟩
          rw [← hw2] at HA2 ⊢
          clear hw2
          have hcw : ∀ t, t < d.size → w2.cell? ⟨blk, off + t, none⟩ = some (.int .u8 (gA dk t)) := fun t ht => HA2.out.cell (by have := HS.out; omega)
          have hfw : ∀ t, t < d.size → w2.frozen? ⟨blk, off + t, none⟩ = false := fun t ht => HA2.out.frozen (by have := HS.out; omega)
          go_quiet (first | (go_at_call 94; refine Calls.quiet_of_same (lessZ_any _ _ _)))
          go_wp2_with fail
          · have hS : ltZ (gA dk (first + root)) (gA dk (first + 2 * root + 2)) = false := by
              have : (!ltZ (gA dk (first + root)) (gA dk (first + 2 * root + 2))) = true := by assumption
              simpa using this
            rw [← ltZ_at] at hS
            (try simp only [Exit.inBlock, Exit.then]); refine bodyPost_ret (results_none rfl _ _ _) rfl ?_
            refine ⟨rfl, ?_⟩
            rw [← HE.out, sd_right_stop ltU dk h1 HL.out hS]
            exact HA2.out.drewN _
          · have hG : ltZ (gA dk (first + root)) (gA dk (first + 2 * root + 2)) = true := by
              have : (!ltZ (gA dk (first + root)) (gA dk (first + 2 * root + 2))) = false := by assumption
              simpa using this
            rw [← ltZ_at] at hG
            have HG := Lib.hid hG; clear hG
            have HA3 := Lib.hid (HA2.out.drewN nq)
            clear HA2 hcw hfw
            obtain ⟨w3, hw3⟩ : ∃ w3, w3 = w2.drewN nq := ⟨_, rfl⟩
            rw [← hw3] at HA3 ⊢
            clear hw3
            have hcw : ∀ t, t < d.size → w3.cell? ⟨blk, off + t, none⟩ = some (.int .u8 (gA dk t)) := fun t ht => HA3.out.cell (by have := HS.out; omega)
            have hfw : ∀ t, t < d.size → w3.frozen? ⟨blk, off + t, none⟩ = false := fun t ht => HA3.out.frozen (by have := HS.out; omega)
            go_region
            go_wp2
            go_roundw
            case rel =>
              refine ⟨2 * root + 2, swp dk (first + root) (first + (2 * root + 2)), by first | rfl | (congr 1; omega), by omega, by rw [size_swp]; exact HS.out, ?_, ?_⟩
              · exact (HA3.out.swp (by have := HS.out; omega) (by have := HS.out; omega)).drewN 1
              · rw [← HE.out, sd_right_go ltU dk h1 HL.out HG.out]
            case measure => simp [intOf]; omega
        · have hL : ltZ (gA dk (first + 2 * root + 1)) (gA dk (first + 2 * root + 2)) = false := by assumption
          rw [← ltZ_at] at hL
          have HL := Lib.hid hL; clear hL
          have HA2 := Lib.hid (HA.out.drewN nq)
          clear HA hcw hfw
          revert nq; intro nq1 HA2
          obtain ⟨w2, hw2⟩ : ∃ w2, w2 = wr.drewN nq1 := ⟨_, rfl⟩
          rw [← hw2] at HA2 ⊢
          clear hw2
          have hcw : ∀ t, t < d.size → w2.cell? ⟨blk, off + t, none⟩ = some (.int .u8 (gA dk t)) := fun t ht => HA2.out.cell (by have := HS.out; omega)
          have hfw : ∀ t, t < d.size → w2.frozen? ⟨blk, off + t, none⟩ = false := fun t ht => HA2.out.frozen (by have := HS.out; omega)
          go_quiet (first | (go_at_call 94; refine Calls.quiet_of_same (lessZ_any _ _ _)))
          go_wp2_with fail
          · have hS : ltZ (gA dk (first + root)) (gA dk (first + 2 * root + 1)) = false := by
              have : (!ltZ (gA dk (first + root)) (gA dk (first + 2 * root + 1))) = true := by assumption
              simpa using this
            rw [← ltZ_at] at hS
            (try simp only [Exit.inBlock, Exit.then]); refine bodyPost_ret (results_none rfl _ _ _) rfl ?_
            refine ⟨rfl, ?_⟩
            rw [← HE.out, sd_left_stop ltU dk (by omega) (fun _ => HL.out) hS]
            exact HA2.out.drewN _
          · have hG : ltZ (gA dk (first + root)) (gA dk (first + 2 * root + 1)) = true := by
              have : (!ltZ (gA dk (first + root)) (gA dk (first + 2 * root + 1))) = false := by assumption
              simpa using this
            rw [← ltZ_at] at hG
            have HG := Lib.hid hG; clear hG
            have HA3 := Lib.hid (HA2.out.drewN nq)
            clear HA2 hcw hfw
            obtain ⟨w3, hw3⟩ : ∃ w3, w3 = w2.drewN nq := ⟨_, rfl⟩
            rw [← hw3] at HA3 ⊢
            clear hw3
            have hcw : ∀ t, t < d.size → w3.cell? ⟨blk, off + t, none⟩ = some (.int .u8 (gA dk t)) := fun t ht => HA3.out.cell (by have := HS.out; omega)
            have hfw : ∀ t, t < d.size → w3.frozen? ⟨blk, off + t, none⟩ = false := fun t ht => HA3.out.frozen (by have := HS.out; omega)
            go_region
            go_wp2
            go_roundw
            case rel =>
              refine ⟨2 * root + 1, swp dk (first + root) (first + (2 * root + 1)), by first | rfl | (congr 1; omega), by omega, by rw [size_swp]; exact HS.out, ?_, ?_⟩
              · exact (HA3.out.swp (by have := HS.out; omega) (by have := HS.out; omega)).drewN 1
              · rw [← HE.out, sd_left_go ltU dk (by omega) (fun _ => HL.out) HG.out]
            case measure => simp [intOf]; omega
      · have h1z : decide (2 * (root : Int) + 1 + 1 < (hi : Int)) = false := decide_eq_false (by omega)
        go_wp2_with fail
        go_quiet (first | (go_at_call 94; refine Calls.quiet_of_same (lessZ_any _ _ _)))
        go_wp2_with fail
        have HA2 := Lib.hid (HA.out.drewN nq)
        clear HA hcw hfw
        revert nq; intro nq1 HA2
        obtain ⟨w2, hw2⟩ : ∃ w2, w2 = wr.drewN nq1 := ⟨_, rfl⟩
        rw [← hw2] at HA2 ⊢
        clear hw2
        have hcw : ∀ t, t < d.size → w2.cell? ⟨blk, off + t, none⟩ = some (.int .u8 (gA dk t)) := fun t ht => HA2.out.cell (by have := HS.out; omega)
        have hfw : ∀ t, t < d.size → w2.frozen? ⟨blk, off + t, none⟩ = false := fun t ht => HA2.out.frozen (by have := HS.out; omega)
        go_quiet (first | (go_at_call 94; refine Calls.quiet_of_same (lessZ_any _ _ _)))
        go_wp2_with fail
        · have hS : ltZ (gA dk (first + root)) (gA dk (first + 2 * root + 1)) = false := by
            have : (!ltZ (gA dk (first + root)) (gA dk (first + 2 * root + 1))) = true := by assumption
            simpa using this
          rw [← ltZ_at] at hS
          (try simp only [Exit.inBlock, Exit.then]); refine bodyPost_ret (results_none rfl _ _ _) rfl ?_
          refine ⟨rfl, ?_⟩
          rw [← HE.out, sd_left_stop ltU dk (by omega) (fun h => absurd h h1) hS]
          exact HA2.out.drewN _
        · have hG : ltZ (gA dk (first + root)) (gA dk (first + 2 * root + 1)) = true := by
            have : (!ltZ (gA dk (first + root)) (gA dk (first + 2 * root + 1))) = false := by assumption
            simpa using this
          rw [← ltZ_at] at hG
          have HG := Lib.hid hG; clear hG
          have HA3 := Lib.hid (HA2.out.drewN nq)
          clear HA2 hcw hfw
          obtain ⟨w3, hw3⟩ : ∃ w3, w3 = w2.drewN nq := ⟨_, rfl⟩
          rw [← hw3] at HA3 ⊢
          clear hw3
          have hcw : ∀ t, t < d.size → w3.cell? ⟨blk, off + t, none⟩ = some (.int .u8 (gA dk t)) := fun t ht => HA3.out.cell (by have := HS.out; omega)
          have hfw : ∀ t, t < d.size → w3.frozen? ⟨blk, off + t, none⟩ = false := fun t ht => HA3.out.frozen (by have := HS.out; omega)
          go_region
          go_wp2
          go_roundw
          case rel =>
            refine ⟨2 * root + 1, swp dk (first + root) (first + (2 * root + 1)), by first | rfl | (congr 1; omega), by omega, by rw [size_swp]; exact HS.out, ?_, ?_⟩
            · exact (HA3.out.swp (by have := HS.out; omega) (by have := HS.out; omega)).drewN 1
            · rw [← HE.out, sd_left_go ltU dk (by omega) (fun h => absurd h h1) HG.out]
          case measure => simp [intOf]; omega

def hB (a b : Nat) : Nat := b - a
set_option maxHeartbeats 3200000 in
set_option maxRecDepth 100000 in
theorem heapSort_any (blk off cap a b : Nat) (d : Array UInt8) (w : World) (hA : Arr w w blk off d) (hab : a ≤ b) (hb : b ≤ d.size) (hsz : d.size < 4611686018427387904) :
    Calls Try.prog 89 #[.slice (some ⟨blk, off, none⟩) d.size cap, .int .i64 a, .int .i64 b] w fun e w' => e = .returned (.tuple #[]) ∧ Arr w w' blk off (heapSort ltU d a b) := by
  obtain ⟨h, hh⟩ : ∃ h, h = b - a := ⟨_, rfl⟩
  have e1 : (b : Int) - (a : Int) = (h : Int) := by omega
  have ehalf := half_start hab
  rw [← hh, e1] at ehalf
  obtain ⟨m, hm⟩ : ∃ m, m = (h - 1) / 2 + 1 := ⟨_, rfl⟩
  rw [← hm] at ehalf
  have hmh : m ≤ h + 1 := by omega
  have HM := Lib.hid hm
  have HH := Lib.hid hh
  have HSZ := Lib.hid hsz
  clear hm hh
  go_enter Try.func89, Try.ntmps89
  go_wp2
  go_loopw [9] (fun s9 wr => ∃ (z : Int) (k : Nat) (dk : Array UInt8), s9 = .int .i64 z ∧ z = (k : Int) - 1 ∧ k ≤ m ∧ dk.size = d.size ∧ Arr w wr blk off dk ∧ heapBuild ltU h a k dk = heapBuild ltU h a m d) (fun s9 _ => (intOf s9 + 1).toNat)
  case atStart => exact ⟨_, m, d, rfl, by rw [← ehalf, ← e1], Nat.le_refl _, rfl, hA, rfl⟩
  case round =>
    obtain ⟨z, k, dk, rfl, hzk, hkm, hds, hAk, heq⟩ := hrel
    have HE := Lib.hid heq
    have HS := Lib.hid hds
    have HA := Lib.hid hAk
    clear heq hds hAk hA
    cases k with
    | zero =>
      obtain rfl : z = -1 := by omega
      clear hzk
      go_wp2
      go_loopw [10] (fun s10 w2 => ∃ (z : Int) (j : Nat) (dj : Array UInt8), s10 = .int .i64 z ∧ z = (j : Int) - 1 ∧ j ≤ h ∧ dj.size = d.size ∧ Arr w w2 blk off dj ∧ heapPop ltU a j dj = heapPop ltU a h dk) (fun s10 _ => (intOf s10 + 1).toNat)
      case atStart => exact ⟨_, h, dk, rfl, by rw [← e1], Nat.le_refl _, HS.out, HA.out, rfl⟩
      case round =>
        obtain ⟨z, j, dj, rfl, hzj, hjh, hdj, hAj, heq⟩ := hrel
        have HE2 := Lib.hid heq
        have HS2 := Lib.hid hdj
        have HA2 := Lib.hid hAj
        clear heq hdj hAj
        cases j with
        | zero =>
          obtain rfl : z = -1 := by omega
          clear hzj
          go_wp2
          go_end0
          refine ⟨rfl, ?_⟩
          have e : dj = heapSort ltU d a b := by
            have e1 : dj = heapPop ltU a h dk := HE2.out
            have e2 : dk = heapBuild ltU h a m d := HE.out
            rw [e1, e2, HM.out, HH.out]; rfl
          rw [← e]
          exact HA2.out
        | succ j =>
          obtain rfl : z = (j : Int) := by omega
          clear hzj
          have hcw : ∀ t, t < d.size → wr.cell? ⟨blk, off + t, none⟩ = some (.int .u8 (gA dj t)) := fun t ht => HA2.out.cell (by have := HS2.out; omega)
          have hfw : ∀ t, t < d.size → wr.frozen? ⟨blk, off + t, none⟩ = false := fun t ht => HA2.out.frozen (by have := HS2.out; omega)
          have hsd : ∀ W : World, Arr W W blk off (swp dj a (a + j)) → Calls Try.prog 107 #[.slice (some ⟨blk, off, none⟩) d.size cap, .int .i64 0, .int .i64 j, .int .i64 a] W fun e w' => e = .returned (.tuple #[]) ∧ Arr W w' blk off (siftDown ltU j a 0 (swp dj a (a + j))) := fun W hW =>
            siftDown_any blk off d.size cap 0 j a (swp dj a (a + j)) (by rw [size_swp]; exact HS2.out) W hW (by omega) (by rw [size_swp, HS2.out]; omega) (by rw [size_swp, HS2.out]; exact HSZ.out)
          have HSD := Lib.hid hsd
          have HSW := Lib.hid (HA2.out.swp (i := a) (j := a + j) (by have := HS2.out; omega) (by have := HS2.out; omega))
          have HN := Lib.hid (show ∀ dx : Array UInt8, dx = siftDown ltU j a 0 (swp dj a (a + j)) → dx.size = d.size ∧ heapPop ltU a j dx = heapPop ltU a h dk from fun dx hx => ⟨by rw [hx, size_siftDown ltU _ _ (j - 0) 0 _ (Nat.le_refl _), size_swp]; exact HS2.out, by rw [hx, ← HE2.out]; rfl⟩)
          clear hsd
          rcases Nat.eq_zero_or_pos j with hk0 | hkp
          · subst hk0
            go_wp2_with fail
            go_region
            all_goals
              go_wp2_with (go_at_call 107; refine (HSD.out _ (Arr.self (HSW.out.drewN 1))).mono ?_; rintro e w1 ⟨rfl, h1⟩)
              go_roundw
              case rel => exact ⟨_, 0, _, rfl, by simp, by omega, (HN.out _ rfl).1, (HSW.out.drewN 1).trans h1, (HN.out _ rfl).2⟩
              case measure => simp [intOf]
          · go_wp2_with fail
            go_region
            all_goals
              go_wp2_with (go_at_call 107; refine (HSD.out _ (Arr.self (HSW.out.drewN 1))).mono ?_; rintro e w1 ⟨rfl, h1⟩)
              go_roundw
              case rel => exact ⟨_, j, _, rfl, by omega, by omega, (HN.out _ rfl).1, (HSW.out.drewN 1).trans h1, (HN.out _ rfl).2⟩
              case measure => (simp [intOf]) <;> omega
    | succ k =>
      obtain rfl : z = (k : Int) := by omega
      clear hzk
      have hsd : ∀ W : World, Arr W W blk off dk → Calls Try.prog 107 #[.slice (some ⟨blk, off, none⟩) d.size cap, .int .i64 k, .int .i64 h, .int .i64 a] W fun e w' => e = .returned (.tuple #[]) ∧ Arr W w' blk off (siftDown ltU h a k dk) := fun W hW =>
        siftDown_any blk off d.size cap k h a dk HS.out W hW (by have := HM.out; omega) (by rw [HS.out]; omega) (by rw [HS.out]; exact HSZ.out)
      have HSD := Lib.hid hsd
      have HN := Lib.hid (show ∀ dx : Array UInt8, dx = siftDown ltU h a k dk → dx.size = d.size ∧ heapBuild ltU h a k dx = heapBuild ltU h a m d from fun dx hx => ⟨by rw [hx, size_siftDown ltU _ _ (h - k) k _ (Nat.le_refl _)]; exact HS.out, by rw [hx, ← HE.out]; rfl⟩)
      clear hsd
      go_wp2_with (go_at_call 107; refine (HSD.out _ HA.out.self).mono ?_; rintro e w1 ⟨rfl, h1⟩)
      go_roundw
      case rel => exact ⟨_, k, _, rfl, by omega, by omega, (HN.out _ rfl).1, HA.out.trans h1, (HN.out _ rfl).2⟩
      case measure => (simp [intOf]) <;> omega

set_option maxHeartbeats 3200000 in
set_option maxRecDepth 100000 in
theorem reverseRange_any (blk off cap a b : Nat) (d : Array UInt8) (w : World) (hA : Arr w w blk off d) (hab : a ≤ b) (hb : b ≤ d.size) (hsz : d.size < 4611686018427387904) :
    Calls Try.prog 92 #[.slice (some ⟨blk, off, none⟩) d.size cap, .int .i64 a, .int .i64 b] w fun e w' => e = .returned (.tuple #[]) ∧ ∃ d', PermIn a b d d' ∧ Arr w w' blk off d' := by
  have HSZ := Lib.hid hsz
  have HP : ∀ dk : Array UInt8, PermIn a b d dk → dk.size = d.size := fun dk h => h.1
  go_enter Try.func92, Try.ntmps92
  go_wp2
  go_loopw [6, 7] (fun s6 s7 wr => ∃ (i : Nat) (z : Int) (dk : Array UInt8), s6 = .int .i64 i ∧ s7 = .int .i64 z ∧ a ≤ i ∧ i ≤ b + 1 ∧ z < b ∧ (a : Int) - 1 ≤ z ∧ PermIn a b d dk ∧ Arr w wr blk off dk) (fun s6 s7 _ => (intOf s7 - intOf s6).toNat)
  case atStart => exact ⟨a, (b : Int) - 1, d, rfl, rfl, Nat.le_refl _, by omega, by omega, by omega, permIn_refl d a b, hA⟩
  case round =>
    obtain ⟨i, z, dk, rfl, rfl, hai, hib, hzb, haz, hPk, hAk⟩ := hrel
    have hds := HP dk hPk
    have HS := Lib.hid hds
    have HA := Lib.hid hAk
    have HPK := Lib.hid hPk
    clear hds hAk hPk hA HP
    by_cases hlt : (i : Int) < z
    · obtain ⟨j, rfl⟩ : ∃ j : Nat, z = j := ⟨z.toNat, by omega⟩
      have hcw : ∀ t, t < d.size → wr.cell? ⟨blk, off + t, none⟩ = some (.int .u8 (gA dk t)) := fun t ht => HA.out.cell (by have := HS.out; omega)
      have hfw : ∀ t, t < d.size → wr.frozen? ⟨blk, off + t, none⟩ = false := fun t ht => HA.out.frozen (by have := HS.out; omega)
      go_wp2_with fail
      go_region
      all_goals
        go_wp2
        go_roundw
        case rel =>
          refine ⟨i + 1, (j : Int) - 1, swp dk i j, by simp, rfl, by omega, by omega, by omega, by omega, ?_, ?_⟩
          · exact permIn_trans d dk _ a b HPK.out (swp_permIn dk a b i j hai (by omega) (by omega) (by omega) (by have := HS.out; omega))
          · exact (HA.out.swp (by have := HS.out; omega) (by have := HS.out; omega)).drewN 1
        case measure => simp [intOf]; omega
    · go_wp2
      go_end0
      exact ⟨rfl, dk, HPK.out, HA.out⟩
end Go.Proofs.Ytoodfmilleodaaa

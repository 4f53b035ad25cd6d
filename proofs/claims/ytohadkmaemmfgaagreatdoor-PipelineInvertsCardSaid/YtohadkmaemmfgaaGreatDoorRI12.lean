/- Nc Nd. -/
import Derived.Test.YtohadkmaemmfgaaGreatDoorRI56
import Derived.Test.YtohadkmaemmfgaaGreatDoorRI55
import Derived.Test.YtohadkmaemmfgaaGreatDoorRI06
set_option maxRecDepth 100000
set_option maxHeartbeats 4000000
namespace Go.Proofs.YtohadkmaemmfgaaGreatDoor
open Go.RowKit Go.Proofs
set_option linter.unusedVariables false
set_option linter.unusedSimpArgs false
theorem tok_cells (t : Tok) (w : World) : (w.alloc (.cells (tokV t) 180)).cell? ⟨w.heap.size, 0, none⟩ = some (.int .i64 (t.len : Int)) ∧ (w.alloc (.cells (tokV t) 180)).cell? ⟨w.heap.size, 1, none⟩ = some (.int .i64 (t.dst : Int)) ∧ (w.alloc (.cells (tokV t) 180)).cell? ⟨w.heap.size, 2, none⟩ = some (.int .u8 (t.byt.toNat : Int)) := by
  have r : rowV (w.alloc (.cells (tokV t) 180)) w.heap.size 180 (tokV t) := rowV.new w _ _
  exact ⟨r.cell rfl, r.cell rfl, r.cell rfl⟩
theorem right_any (t : Tok) (w : World) (ht : TokLim t) : Calls Tryz.prog 218 #[.agg (tokV t)] w fun e w' => e = .returned (.bool (rightT t)) ∧ Below w.heap.size w w' := by
  obtain ⟨t1, t2⟩ := ht
  obtain ⟨k0, k1, k2⟩ := tok_cells t w
  have hb := balloc (Below.refl w.heap.size w) (.cells (tokV t) 180)
  obtain ⟨l, d, b⟩ := t
  unfold tokV at k0 k1 k2 hb ⊢
  dsimp only at t1 t2 k0 k1 k2 hb ⊢
  have HB := Lib.hid hb
  by_cases h0 : l = 0
  · have q0 : ((l : Int) == 0) = true := by simp [h0]
    have q1 : ((d : Int) == 0) = decide (d = 0) := by by_cases h : d = 0 <;> simp [h]
    have HR : Hid (rightT ⟨l, d, b⟩ = decide (d = 0)) := by show _ = _; simp [rightT, h0]
    rw [HR.out]
    clear h0 hb
    go_enter Tryz.func218, Tryz.ntmps218
    go_wp2_with fail
    go_ret
    exact ⟨rfl, HB.out⟩
  · have q0 : ((l : Int) == 0) = false := by simp [h0]
    have p0 := u8_beq b 0 0 rfl
    have HR : Hid (rightT ⟨l, d, b⟩ = decide (b = 0 ∧ 2 ≤ l ∧ l ≤ 255 ∧ 1 ≤ d ∧ d ≤ 4096)) := by show _ = _; simp [rightT, h0]
    have I1 := Lib.hid (fun W => in_any (l : Int) 2 255 W)
    have I2 := Lib.hid (fun W => in_any (d : Int) 1 4096 W)
    clear h0 hb
    by_cases h1 : b = 0
    · rw [decide_eq_true h1] at p0
      by_cases h2 : (2 : Int) ≤ l ∧ (l : Int) ≤ 255
      · rw [decide_eq_true h2] at I1
        by_cases h3 : (1 : Int) ≤ d ∧ (d : Int) ≤ 4096
        · rw [decide_eq_true h3] at I2
          have HR2 : Hid (rightT ⟨l, d, b⟩ = true) := by show _ = _; rw [HR.out]; exact decide_eq_true ⟨h1, by omega, by omega, by omega, by omega⟩
          rw [HR2.out]
          clear h1 h2 h3
          go_enter Tryz.func218, Tryz.ntmps218
          go_wp2_with fail
          refine (I1.out _).mono ?_
          rintro e w1 ⟨rfl, hw⟩
          obtain rfl := hw.symm
          go_wp2_with fail
          refine (I2.out _).mono ?_
          rintro e w1 ⟨rfl, hw⟩
          obtain rfl := hw.symm
          go_wp2_with fail
          go_ret
          exact ⟨rfl, HB.out⟩
        · rw [decide_eq_false h3] at I2
          have HR2 : Hid (rightT ⟨l, d, b⟩ = false) := by show _ = _; rw [HR.out]; exact decide_eq_false (fun h => h3 ⟨by omega, by omega⟩)
          rw [HR2.out]
          clear h1 h2 h3
          go_enter Tryz.func218, Tryz.ntmps218
          go_wp2_with fail
          refine (I1.out _).mono ?_
          rintro e w1 ⟨rfl, hw⟩
          obtain rfl := hw.symm
          go_wp2_with fail
          refine (I2.out _).mono ?_
          rintro e w1 ⟨rfl, hw⟩
          obtain rfl := hw.symm
          go_wp2_with fail
          go_ret
          exact ⟨rfl, HB.out⟩
      · rw [decide_eq_false h2] at I1
        have HR2 : Hid (rightT ⟨l, d, b⟩ = false) := by show _ = _; rw [HR.out]; exact decide_eq_false (fun h => h2 ⟨by omega, by omega⟩)
        rw [HR2.out]
        clear h1 h2
        go_enter Tryz.func218, Tryz.ntmps218
        go_wp2_with fail
        refine (I1.out _).mono ?_
        rintro e w1 ⟨rfl, hw⟩
        obtain rfl := hw.symm
        go_wp2_with fail
        go_ret
        exact ⟨rfl, HB.out⟩
    · rw [decide_eq_false h1] at p0
      have HR2 : Hid (rightT ⟨l, d, b⟩ = false) := by show _ = _; rw [HR.out]; exact decide_eq_false (fun h => h1 h.1)
      rw [HR2.out]
      clear h1
      go_enter Tryz.func218, Tryz.ntmps218
      go_wp2_with fail
      go_ret
      exact ⟨rfl, HB.out⟩
theorem lsize_any (t : Tok) (w : World) (ht : TokLim t) : Calls Tryz.prog 160 #[.agg (tokV t)] w fun e w' => e = .returned (.int .i64 ((tsz t : Nat) : Int)) ∧ Below w.heap.size w w' := by
  obtain ⟨k0, -, -⟩ := tok_cells t w
  have HB := Lib.hid (balloc (Below.refl w.heap.size w) (.cells (tokV t) 180))
  obtain ⟨t1, -⟩ := ht
  have HS : Hid (((tsz t : Nat) : Int) = max 1 (t.len : Int)) := by show _ = _; unfold tsz; omega
  rw [HS.out]
  unfold tokV at *
  go_enter Tryz.func160, Tryz.ntmps160
  go_wp2_with fail
  go_ret
  exact ⟨rfl, HB.out⟩
end Go.Proofs.YtohadkmaemmfgaaGreatDoor

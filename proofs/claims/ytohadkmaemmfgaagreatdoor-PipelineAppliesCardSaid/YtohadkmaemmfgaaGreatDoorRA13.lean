/- Nc Nd. -/
import Derived.Test.YtohadkmaemmfgaaGreatDoorRA11
import Derived.Test.YtohadkmaemmfgaaGreatDoorRA12
import Derived.Test.YtohadkmaemmfgaaGreatDoorRA06
set_option maxRecDepth 100000
set_option maxHeartbeats 4000000
namespace Go.Proofs.YtohadkmaemmfgaaGreatDoor
open Go.RowKit Go.Proofs
set_option linter.unusedVariables false
set_option linter.unusedSimpArgs false
theorem nb_len {n : Nat} (h : n < 4611686018427387904) : nb n = Lib.bitLen n := by
  rcases Nat.eq_zero_or_pos n with h0 | h0
  · subst h0; rw [nb, dif_pos rfl]; decide
  · obtain ⟨a1, a2⟩ := nb_bits n h0
    have a3 := nb_pos h0
    obtain ⟨b1, b2, b3⟩ : 1 ≤ Lib.bitLen n ∧ 2 ^ (Lib.bitLen n - 1) ≤ n ∧ n < 2 ^ Lib.bitLen n := Lib.bitLenAux_bounds 64 n (by omega) (by omega)
    have e1 := (Nat.pow_lt_pow_iff_right (by omega : 1 < 2)).1 (Nat.lt_of_le_of_lt a1 b3)
    have e2 := (Nat.pow_lt_pow_iff_right (by omega : 1 < 2)).1 (Nat.lt_of_le_of_lt b2 a2)
    omega
theorem gamma_any (n : Nat) (w : World) (hn : n ≤ 1000000) : Calls Tryz.prog 219 #[.int .i64 (n : Int)] w fun e w' => e = .returned (.int .i64 (gmB n)) ∧ w' = w := by
  have hcal := Tryz.bits_Len (n : Int) w (by omega) (by omega)
  rw [Int.toNat_natCast, ← nb_len (by omega)] at hcal
  have Hcal := Lib.hid hcal; clear hcal
  have hb := nb_lt 20 n (by have : (2 : Nat) ^ 20 = 1048576 := by decide
                            omega)
  have hg : Hid (gmB n = 2 * ((nb n : Nat) : Int) - 1) := rfl
  obtain ⟨k, hk⟩ : ∃ k, k = nb n := ⟨_, rfl⟩
  rw [← hk] at Hcal hb hg
  rw [hg.out]
  clear hk
  have hw : IntKind.u64.wrap (n : Int) = (n : Int) := by simp [IntKind.wrap, IntKind.bits, IntKind.signed]; omega
  go_enter Tryz.func219, Tryz.ntmps219
  go_wp2_with fail
  refine Hcal.out.mono ?_
  rintro e w1 ⟨rfl, hw1⟩
  obtain rfl : w = w1 := hw1.symm
  go_wp2_with fail
  go_ret
  exact ⟨rfl, rfl⟩
theorem tok_cells (t : Tok) (w : World) : (w.alloc (.cells (tokV t) 180)).cell? ⟨w.heap.size, 0, none⟩ = some (.int .i64 (t.len : Int)) ∧ (w.alloc (.cells (tokV t) 180)).cell? ⟨w.heap.size, 1, none⟩ = some (.int .i64 (t.dst : Int)) ∧ (w.alloc (.cells (tokV t) 180)).cell? ⟨w.heap.size, 2, none⟩ = some (.int .u8 (t.byt.toNat : Int)) := by
  have r : rowV (w.alloc (.cells (tokV t) 180)) w.heap.size 180 (tokV t) := rowV.new w _ _
  exact ⟨r.cell rfl, r.cell rfl, r.cell rfl⟩
theorem right_any (t : Tok) (w : World) (ht : TokLim t) : Calls Tryz.prog 218 #[.agg (tokV t)] w fun e w' => e = .returned (.bool (rightT t)) ∧ Below w.heap.size w w' := by
  obtain ⟨t1, t2⟩ := ht
  obtain ⟨k0, k1, k2⟩ := tok_cells t w
  have hb := balloc (Below.refl w.heap.size w) (.cells (tokV t) 180)
  obtain ⟨l, d, b⟩ := t
  unfold tokV at k0 k1 k2 hb ⊢
  dsimp only at t1 t2 k0 k1 k2 hb ⊢
  have HB := Lib.hid hb
  by_cases h0 : l = 0
  · have q0 : ((l : Int) == 0) = true := by simp [h0]
    have q1 : ((d : Int) == 0) = decide (d = 0) := by by_cases h : d = 0 <;> simp [h]
    have HR : Hid (rightT ⟨l, d, b⟩ = decide (d = 0)) := by show _ = _; simp [rightT, h0]
    rw [HR.out]
    clear h0 hb
    go_enter Tryz.func218, Tryz.ntmps218
    go_wp2_with fail
    go_ret
    exact ⟨rfl, HB.out⟩
  · have q0 : ((l : Int) == 0) = false := by simp [h0]
    have p0 := u8_beq b 0 0 rfl
    have HR : Hid (rightT ⟨l, d, b⟩ = decide (b = 0 ∧ 2 ≤ l ∧ l ≤ 255 ∧ 1 ≤ d ∧ d ≤ 4096)) := by show _ = _; simp [rightT, h0]
    have I1 := Lib.hid (fun W => in_any (l : Int) 2 255 W)
    have I2 := Lib.hid (fun W => in_any (d : Int) 1 4096 W)
    clear h0 hb
    by_cases h1 : b = 0
    · rw [decide_eq_true h1] at p0
      by_cases h2 : (2 : Int) ≤ l ∧ (l : Int) ≤ 255
      · rw [decide_eq_true h2] at I1
        by_cases h3 : (1 : Int) ≤ d ∧ (d : Int) ≤ 4096
        · rw [decide_eq_true h3] at I2
          have HR2 : Hid (rightT ⟨l, d, b⟩ = true) := by show _ = _; rw [HR.out]; exact decide_eq_true ⟨h1, by omega, by omega, by omega, by omega⟩
          rw [HR2.out]
          clear h1 h2 h3
          go_enter Tryz.func218, Tryz.ntmps218
          go_wp2_with fail
          refine (I1.out _).mono ?_
          rintro e w1 ⟨rfl, hw⟩
          obtain rfl := hw.symm
          go_wp2_with fail
          refine (I2.out _).mono ?_
          rintro e w1 ⟨rfl, hw⟩
          obtain rfl := hw.symm
          go_wp2_with fail
          go_ret
          exact ⟨rfl, HB.out⟩
        · rw [decide_eq_false h3] at I2
          have HR2 : Hid (rightT ⟨l, d, b⟩ = false) := by show _ = _; rw [HR.out]; exact decide_eq_false (fun h => h3 ⟨by omega, by omega⟩)
          rw [HR2.out]
          clear h1 h2 h3
          go_enter Tryz.func218, Tryz.ntmps218
          go_wp2_with fail
          refine (I1.out _).mono ?_
          rintro e w1 ⟨rfl, hw⟩
          obtain rfl := hw.symm
          go_wp2_with fail
          refine (I2.out _).mono ?_
          rintro e w1 ⟨rfl, hw⟩
          obtain rfl := hw.symm
          go_wp2_with fail
          go_ret
          exact ⟨rfl, HB.out⟩
      · rw [decide_eq_false h2] at I1
        have HR2 : Hid (rightT ⟨l, d, b⟩ = false) := by show _ = _; rw [HR.out]; exact decide_eq_false (fun h => h2 ⟨by omega, by omega⟩)
        rw [HR2.out]
        clear h1 h2
        go_enter Tryz.func218, Tryz.ntmps218
        go_wp2_with fail
        refine (I1.out _).mono ?_
        rintro e w1 ⟨rfl, hw⟩
        obtain rfl := hw.symm
        go_wp2_with fail
        go_ret
        exact ⟨rfl, HB.out⟩
    · rw [decide_eq_false h1] at p0
      have HR2 : Hid (rightT ⟨l, d, b⟩ = false) := by show _ = _; rw [HR.out]; exact decide_eq_false (fun h => h1 h.1)
      rw [HR2.out]
      clear h1
      go_enter Tryz.func218, Tryz.ntmps218
      go_wp2_with fail
      go_ret
      exact ⟨rfl, HB.out⟩
theorem tok_load {W : World} {g : Nat} {t : Tok} (h : rowV W g 180 (tokV t)) : (loadVar 180 ⟨g, 0, none⟩).run Tryz.prog W = .ok (.agg (tokV t)) W :=
  run_loadVar_row W g 180 180 (tokV t) (0, 0) _ h Tryz.underlying180 rfl (by kernel_rfl)
theorem price_any (t : Tok) (w : World) (ht : TokLim t) : Calls Tryz.prog 155 #[.agg (tokV t)] w fun e w' => e = .returned (.int .i64 (priT t)) ∧ Below w.heap.size w w' := by
  obtain ⟨w1, hw1⟩ : ∃ w1, w1 = w.alloc (.cells (tokV t) 180) := ⟨_, rfl⟩
  have hb1 : Below w.heap.size w w1 := by rw [hw1]; exact balloc (Below.refl _ _) _
  have r1 : rowV w1 w.heap.size 180 (tokV t) := by rw [hw1]; exact rowV.new w _ _
  have ld := tok_load r1
  rw [hw1] at ld
  have HR := right_any t w1 ht
  have HB1 := Lib.hid hb1
  have R1 := Lib.hid r1
  have HW1 := Lib.hid hw1
  obtain ⟨t1, t2⟩ := ht
  have hp : priT t = if rightT t = false then 0 else if t.len = 0 then 9 else 1 + gmB (t.len - 1) + gmB t.dst := rfl
  clear hb1 r1 hw1
  cases hrt : rightT t with
  | false =>
    rw [hrt, if_pos rfl] at hp
    rw [hrt] at HR
    replace HR := Lib.hid HR
    have HP := Lib.hid hp
    clear hp hrt
    unfold tokV at *
    go_enter Tryz.func155, Tryz.ntmps155
    go_wp2_with fail
    rw [← HW1.out]
    refine HR.out.mono ?_
    rintro e w2 ⟨rfl, hb2⟩
    have HB2 := Lib.hid (HB1.out.trans (hb2.mono HB1.out.size))
    clear hb2
    go_wp2_with fail
    go_ret
    rw [HP.out]
    exact ⟨rfl, HB2.out⟩
  | true =>
    rw [hrt, if_neg (by decide)] at hp
    rw [hrt] at HR
    replace HR := Lib.hid HR
    by_cases h0 : t.len = 0
    · rw [if_pos h0] at hp
      have HP := Lib.hid hp
      have q0 : ((t.len : Int) == 0) = true := by simp [h0]
      obtain ⟨l, d, b⟩ := t
      dsimp only at t1 t2 q0
      clear hp hrt h0
      unfold tokV at *
      dsimp only at *
      go_enter Tryz.func155, Tryz.ntmps155
      go_wp2_with fail
      rw [← HW1.out]
      refine HR.out.mono ?_
      rintro e w2 ⟨rfl, hb2⟩
      have HB2 := Lib.hid (HB1.out.trans (hb2.mono HB1.out.size))
      have k0 : w2.cell? ⟨w.heap.size, 0, none⟩ = some (.int .i64 (l : Int)) := (R1.out.below hb2 R1.out.lt).cell rfl
      clear hb2
      go_wp2_with fail
      go_ret
      rw [HP.out]
      exact ⟨rfl, HB2.out⟩
    · rw [if_neg h0] at hp
      have HP := Lib.hid hp
      have q0 : ((t.len : Int) == 0) = false := by simp [h0]
      obtain ⟨l, d, b⟩ := t
      dsimp only at t1 t2 q0 h0 HP
      have G1 := fun W => gamma_any (l - 1) W (by omega)
      have G2 := fun W => gamma_any d W t2
      rw [show ((l - 1 : Nat) : Int) = IntKind.i64.wrap ((l : Int) - 1) by rw [IntKind.wrap_i64]; omega] at G1
      have b1 : gmB (l - 1) ≤ 40 ∧ -1 ≤ gmB (l - 1) := by
        have := nb_lt 20 (l - 1) (by have : (2 : Nat) ^ 20 = 1048576 := by decide
                                     omega)
        unfold gmB; omega
      have b2 : gmB d ≤ 40 ∧ -1 ≤ gmB d := by
        have := nb_lt 20 d (by have : (2 : Nat) ^ 20 = 1048576 := by decide
                               omega)
        unfold gmB; omega
      obtain ⟨g1, hg1⟩ : ∃ g1, g1 = gmB (l - 1) := ⟨_, rfl⟩
      obtain ⟨g2, hg2⟩ : ∃ g2, g2 = gmB d := ⟨_, rfl⟩
      rw [← hg1] at G1 b1 HP
      rw [← hg2] at G2 b2 HP
      replace G1 := Lib.hid G1
      replace G2 := Lib.hid G2
      clear hp hrt h0 hg1 hg2
      unfold tokV at *
      dsimp only at *
      go_enter Tryz.func155, Tryz.ntmps155
      go_wp2_with fail
      rw [← HW1.out]
      refine HR.out.mono ?_
      rintro e w2 ⟨rfl, hb2⟩
      have HB2 := Lib.hid (HB1.out.trans (hb2.mono HB1.out.size))
      have k0 : w2.cell? ⟨w.heap.size, 0, none⟩ = some (.int .i64 (l : Int)) := (R1.out.below hb2 R1.out.lt).cell rfl
      have k1 : w2.cell? ⟨w.heap.size, 1, none⟩ = some (.int .i64 (d : Int)) := (R1.out.below hb2 R1.out.lt).cell rfl
      clear hb2
      go_wp2_with fail
      go_quiet (first
        | (go_at_call 219; exact Calls.quiet_of_same (G1.out _))
        | (go_at_call 219; exact Calls.quiet_of_same (G2.out _)))
      go_wp2_with fail
      go_ret
      rw [HP.out]
      exact ⟨ret_int (by rw [IntKind.wrap_i64, IntKind.wrap_i64]; omega), HB2.out.trans ((Drawn.drewN _ _).below _)⟩
theorem psize_any (t : Tok) (w : World) (ht : TokLim t) : Calls Tryz.prog 153 #[.agg (tokV t)] w fun e w' => e = .returned (.int .i64 ((tsz t : Nat) : Int)) ∧ Below w.heap.size w w' := by
  obtain ⟨k0, -, -⟩ := tok_cells t w
  have HB := Lib.hid (balloc (Below.refl w.heap.size w) (.cells (tokV t) 180))
  obtain ⟨t1, -⟩ := ht
  have HS : Hid (((tsz t : Nat) : Int) = max (t.len : Int) 1) := by show _ = _; unfold tsz; omega
  rw [HS.out]
  unfold tokV at *
  go_enter Tryz.func153, Tryz.ntmps153
  go_wp2_with fail
  go_ret
  exact ⟨rfl, HB.out⟩
theorem lsize_any (t : Tok) (w : World) (ht : TokLim t) : Calls Tryz.prog 160 #[.agg (tokV t)] w fun e w' => e = .returned (.int .i64 ((tsz t : Nat) : Int)) ∧ Below w.heap.size w w' := by
  obtain ⟨k0, -, -⟩ := tok_cells t w
  have HB := Lib.hid (balloc (Below.refl w.heap.size w) (.cells (tokV t) 180))
  obtain ⟨t1, -⟩ := ht
  have HS : Hid (((tsz t : Nat) : Int) = max 1 (t.len : Int)) := by show _ = _; unfold tsz; omega
  rw [HS.out]
  unfold tokV at *
  go_enter Tryz.func160, Tryz.ntmps160
  go_wp2_with fail
  go_ret
  exact ⟨rfl, HB.out⟩
end Go.Proofs.YtohadkmaemmfgaaGreatDoor

/- Contracts: common, permutation, the reference's Ranks. -/
import Derived.Test.YtkndcbnajkiceaaWa
import Derived.Test.YtkndcbnajkiceaaSp
namespace Go.Proofs.Ytkndcbnajkiceaa
open Go.RowKit Go.Proofs
set_option linter.unusedVariables false

theorem uI : Try.prog.underlying 24 = some (.slice 3) := by kernel_rfl
theorem uL : Try.prog.underlying 46 = some (.slice 4) := by kernel_rfl
theorem infoI : (Try.prog.info? 3).map (fun i => (i.zero, i.size, i.bytes)) = some (some (.int .i64 0), 1, 8) := by kernel_rfl
theorem infoL : (Try.prog.info? 4).map (fun i => (i.zero, i.size, i.bytes)) = some (some (.bool false), 1, 1) := by kernel_rfl

set_option maxHeartbeats 1000000 in
theorem common_any (A : Option Addr) (c n : Nat) (bs : List UInt8) (x y : Int) (w : World) (hx : Bytes w A n c bs) (hn : n ≤ 1000000000) (hx0 : 0 ≤ x) (hx1 : x ≤ n) (hy0 : 0 ≤ y) (hy1 : y ≤ n) :
    Calls Try.prog 33 #[.slice A n c, .int .i64 x, .int .i64 y] w fun e w' => e = .returned (.int .i64 (lcp (bs.drop x.toNat) (bs.drop y.toNat))) ∧ ∃ q, w' = w.drewN q := by
  obtain ⟨p, rfl⟩ := Int.eq_ofNat_of_zero_le hx0
  obtain ⟨q, rfl⟩ := Int.eq_ofNat_of_zero_le hy0
  rw [Int.toNat_natCast, Int.toNat_natCast]
  obtain ⟨hl, -, hc⟩ := hx
  have Hl := Lib.hid hl; clear hl
  go_enter Try.func33, Try.ntmps33
  go_wp2
  go_loopw [7] (fun i wr => ∃ k : Nat, i = .int .i64 k ∧ p + k ≤ n ∧ q + k ≤ n ∧ Hid (∀ j, j < k → p + j < bs.length ∧ q + j < bs.length ∧ gb bs (p + j) = gb bs (q + j)) ∧ ∃ q, wr = w.drewN q) (fun i _ => n - (intOf i).toNat)
  case atStart => exact ⟨0, rfl, by omega, by omega, fun j hj => absurd hj (by omega), 0, rfl⟩
  case round =>
    obtain ⟨k, rfl, hpk, hqk, HK, r, rfl⟩ := hrel
    by_cases h1 : p + k < n
    · have d1 : decide ((p : Int) + k < n) = true := by simp; omega
      by_cases h2 : q + k < n
      · have d2 : decide ((q : Int) + k < n) = true := by simp; omega
        obtain ⟨b, off, rfl, hb, hcell⟩ := hc.get h1
        have c1 := hcell _ h1
        have c2 := hcell _ h2
        clear hcell hc
        by_cases he : gb bs (p + k) = gb bs (q + k)
        · have d3 : (gb bs (p + k) == gb bs (q + k)) = true := by simp [he]
          have He := Lib.hid he; clear he
          go_wp2
          go_quiet (fail)
          go_wp2
          go_roundw
          case rel => exact ⟨k + 1, by go_num, by omega, by omega, fun j hj => by
            rcases Nat.lt_succ_iff_lt_or_eq.1 hj with h | h
            · exact HK.out j h
            · subst h; have := Hl.out; exact ⟨by omega, by omega, He.out⟩, _, rfl⟩
          case measure => simp [intOf]; omega
        · have d3 : (gb bs (p + k) == gb bs (q + k)) = false := by simp [he]
          have He := Lib.hid he; clear he
          go_wp2
          go_quiet (fail)
          go_wp2
          go_ret
          exact ⟨ret_int (by rw [lcp_end bs p q k HK.out (fun _ _ => He.out)]), _, World.drewN_drewN ..⟩
      · have d2 : decide ((q : Int) + k < n) = false := by simp; omega
        go_wp2
        go_quiet (fail)
        go_wp2
        go_ret
        exact ⟨ret_int (by rw [lcp_end bs p q k HK.out (fun _ h => absurd h (by have := Hl.out; omega))]), _, World.drewN_drewN ..⟩
    · have d1 : decide ((p : Int) + k < n) = false := by simp; omega
      go_wp2
      go_quiet (fail)
      go_wp2
      go_ret
      exact ⟨ret_int (by rw [lcp_end bs p q k HK.out (fun h _ => absurd h (by have := Hl.out; omega))]), _, World.drewN_drewN ..⟩

set_option maxHeartbeats 1000000 in
theorem permutation_any (A : Option Addr) (c n : Nat) (zs : List Int) (w : World) (hx : Ints w A n c zs) (hn : n ≤ 1000000000) :
    Calls Try.prog 31 #[.slice A n c] w fun e w' => e = .returned (.int .i64 (permErr zs)) ∧ Below w.heap.size w w' := by
  obtain ⟨hl, -, hc⟩ := hx
  have hmk := run_make_row (P := Try.prog) (enc := Value.bool) uL infoL rfl (n : Int) (by omega) (by omega) (by omega)
  have HS := Lib.hid (permErr_start zs)
  rw [hl] at HS
  have Hl := Lib.hid hl; clear hl
  go_enter Try.func31, Try.ntmps31
  go_wp2
  go_loopw [4] (fun i wr => ∃ k : Nat, k ≤ n ∧ i = .int .i64 k ∧ Row Value.bool wr w.heap.size 4 (seenL zs n k) ∧ Below w.heap.size w wr ∧ Hid (permErrL n (zs.take k) (zs.drop k) = permErr zs)) (fun i _ => n - (intOf i).toNat)
  case atStart => exact ⟨0, by omega, rfl, by rw [seenL_zero]; exact Row.new w _ _, (Below.refl _ _).alloc (Nat.le_refl _) _, HS.out⟩
  case round =>
    obtain ⟨k, hk, rfl, hrow, hbel, HP⟩ := hrel
    by_cases hlt : k < n
    · have hlt' : Hid (k < zs.length) := by have := Hl.out; show k < zs.length; omega
      obtain ⟨b, off, rfl, hb, hcell⟩ := hc.get hlt
      have c1 := (hbel.cell (p := ⟨b, off + k, none⟩) hb).trans (hcell _ hlt)
      clear hcell hc
      by_cases h1 : gi zs k < 0
      · have d1 : decide (gi zs k < 0) = true := by simpa using h1
        have hfin : Hid (permErr zs = 2) := by rw [← HP.out]; exact permErr_range hlt'.out (.inl h1)
        clear h1
        go_wp2
        go_ret
        exact ⟨ret_int hfin.out.symm, hbel⟩
      · have d1 : decide (gi zs k < 0) = false := by simpa using h1
        by_cases h2 : (n : Int) ≤ gi zs k
        · have d2 : decide ((n : Int) ≤ gi zs k) = true := by simpa using h2
          have hfin : Hid (permErr zs = 2) := by rw [← HP.out]; exact permErr_range hlt'.out (.inr h2)
          go_wp2
          go_ret
          exact ⟨ret_int hfin.out.symm, hbel⟩
        · have d2 : decide ((n : Int) ≤ gi zs k) = false := by simp; omega
          have b0 : 0 ≤ gi zs k := by omega
          have b1 : gi zs k < n := by omega
          have hz : (gi zs k).toNat < n := by omega
          have c2 := hrow.cell (j := (gi zs k).toNat) false (by rw [seenL_length]; exact hz)
          have f2 := hrow.frozen (gi zs k).toNat
          have g2 := gt_seenL (zs := zs) (k := k) b0 b1
          unfold gt at g2
          rw [g2] at c2
          clear g2
          by_cases h3 : gi zs k ∈ zs.take k
          · rw [decide_eq_true h3] at c2
            have hfin : Hid (permErr zs = 8) := by rw [← HP.out]; exact permErr_twice hlt'.out b0 b1 h3
            clear h3
            go_wp2
            go_ret
            exact ⟨ret_int hfin.out.symm, hbel⟩
          · rw [decide_eq_false h3] at c2
            have hrow' := hrow.set (gi zs k).toNat true
            rw [seenL_next hlt'.out b0 b1] at hrow'
            have hfin := Lib.hid ((permErr_next hlt'.out b0 b1 h3).symm.trans HP.out)
            clear h3
            go_wp2
            go_roundw
            case rel => exact ⟨k + 1, by omega, by go_num, hrow', hbel.setCell (Nat.le_refl _) _, hfin⟩
            case measure => simp [intOf]; omega
    · have hfin : Hid (permErr zs = 0) := by rw [← HP.out]; exact permErr_done' (by have := Hl.out; omega)
      go_wp2
      go_ret
      exact ⟨ret_int hfin.out.symm, hbel⟩

end Go.Proofs.Ytkndcbnajkiceaa

/- Contracts of the reference: Ranks, Check. -/
import Derived.Test.YtkndcbnajkiceaaWb
namespace Go.Proofs.Ytkndcbnajkiceaa
open Go.RowKit Go.Proofs
set_option linter.unusedVariables false

set_option maxHeartbeats 1000000 in
theorem refRanks_any (A : Option Addr) (c n : Nat) (zs : List Int) (w : World) (hx : Ints w A n c zs) (hn : n ≤ 65537) :
    Calls Try.prog 15 #[.slice A n c] w (RetInts w (ranksOut zs) (ranksErr zs)) := by
  by_cases h0 : n = 0
  · subst h0
    go_enter Try.func15, Try.ntmps15
    go_wp2
    go_ret2
    have hz : zs = [] := List.eq_nil_of_length_eq_zero hx.1
    subst hz
    exact RetInts.mk rfl (Ints.nil _ _) (Below.refl _ _)
  · have d0 : ((n : Int) == 0) = false := by simp; omega
    have d1 : decide ((65537 : Int) < (n : Int)) = false := by simp; omega
    by_cases hp : permErr zs = 0
    · have d2 : (permErr zs != 0) = false := by simp [hp]
      have Hp := Lib.hid hp; clear hp
      have hcal := permutation_any A c n zs w hx (by omega)
      obtain ⟨hl, -, hc⟩ := hx
      have hmk := run_make_row (P := Try.prog) (enc := Value.int .i64) uI infoI rfl (n : Int) (by omega) (by omega) (by omega)
      have Hl := Lib.hid hl; clear hl
      go_enter Try.func15, Try.ntmps15
      go_wp2_with fail
      refine hcal.mono ?_
      rintro e w1 ⟨rfl, hb1⟩
      go_wp2_with fail
      go_loopw [6] (fun i wr => ∃ k : Nat, k ≤ n ∧ i = .int .i64 k ∧ Row (Value.int .i64) wr w1.heap.size 3 (rankL 0 zs n k) ∧ Below w1.heap.size w1 wr) (fun i _ => n - (intOf i).toNat)
      case atStart => exact ⟨0, by omega, rfl, by rw [rankL_zero]; exact Row.new w1 _ _, (Below.refl _ _).alloc (Nat.le_refl _) _⟩
      case round =>
        obtain ⟨k, hk, rfl, hrow, hbel⟩ := hrel
        by_cases hlt : k < n
        · have hlt' : Hid (k < zs.length) := by have := Hl.out; show k < zs.length; omega
          have hv := permErrL_zero _ _ _ Hp.out
          have hz := hv.1 (gi zs k) (gi_mem hlt'.out)
          rw [Hl.out] at hz
          obtain ⟨b0, b1⟩ := hz
          have hnotin : gi zs k ∉ zs.take k := by
            intro hm
            have hnd := hv.2.1
            have e : zs = zs.take k ++ zs.drop k := (List.take_append_drop k zs).symm
            rw [e, List.nodup_append] at hnd
            exact hnd.2.2 _ hm _ (by rw [drop_gi hlt'.out]; simp) rfl
          obtain ⟨b, off, rfl, hb, hcell⟩ := hc.get hlt
          have c1 := ((hbel.cell (p := ⟨b, off + k, none⟩) (by have := hb1.size; show b < _; omega)).trans (hb1.cell (p := ⟨b, off + k, none⟩) hb)).trans (hcell _ hlt)
          clear hcell hc hv
          have c2 := hrow.cell (j := (gi zs k).toNat) 0 (by rw [rankL_length]; omega)
          have f2 := hrow.frozen (gi zs k).toNat
          have hrow' := hrow.set (gi zs k).toNat (k : Int)
          rw [rankL_next hlt'.out b0 b1 hnotin] at hrow'
          clear hnotin
          go_wp2
          go_roundw
          case rel => exact ⟨k + 1, by omega, by go_num, hrow', hbel.setCell (Nat.le_refl _) _⟩
          case measure => simp [intOf]; omega
        · have hkn : k = n := by omega
          subst hkn
          go_wp2
          go_ret2
          have he : ranksErr zs = permErr zs := by unfold ranksErr; rw [if_neg (by have := Hl.out; omega)]
          refine RetInts.mk (he.trans Hp.out).symm ?_ (hb1.trans (hbel.mono hb1.size))
          unfold ranksOut
          rw [if_pos (he.trans Hp.out)]
          have := hrow.ints (n := k) (c := k) (by rw [rankL_length]) (Nat.le_refl _)
          have hd := rankL_done (d := 0) Hp.out
          rw [Hl.out] at hd
          rw [hd] at this
          exact this
    · have d2 : (permErr zs != 0) = true := by simp [hp]
      have Hp := Lib.hid hp; clear hp
      have hcal := permutation_any A c n zs w hx (by omega)
      go_enter Try.func15, Try.ntmps15
      go_wp2_with fail
      refine hcal.mono ?_
      rintro e w1 ⟨rfl, hb1⟩
      go_wp2_with fail
      go_ret2
      have he : ranksErr zs = permErr zs := by unfold ranksErr; rw [if_neg (by have := hx.1; omega)]
      refine RetInts.mk he.symm ?_ hb1
      unfold ranksOut
      rw [he, if_neg Hp.out]
      exact Ints.nil _ _


end Go.Proofs.Ytkndcbnajkiceaa

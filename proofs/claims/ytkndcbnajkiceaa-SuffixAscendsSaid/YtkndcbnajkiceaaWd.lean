/- Contracts of the reference: Check. -/
import Derived.Test.YtkndcbnajkiceaaWb
namespace Go.Proofs.Ytkndcbnajkiceaa
open Go.RowKit Go.Proofs
set_option linter.unusedVariables false

set_option maxHeartbeats 1000000 in
theorem refCheck_any (A B : Option Addr) (c n d m : Nat) (bs : List UInt8) (zs : List Int) (w : World) (hx : Bytes w A n c bs) (hy : Ints w B m d zs) (hn : n ≤ 65536) (hm : m ≤ 65537) :
    Calls Try.prog 17 #[.slice A n c, .slice B m d] w fun e w' => e = .returned (.int .i64 (checkErr bs zs)) ∧ Below w.heap.size w w' := by
  have d0 : decide ((65536 : Int) < (n : Int)) = false := by simp; omega
  by_cases h1 : m = n + 1
  · have d1 : ((m : Int) != (n : Int) + 1) = false := by simp; omega
    by_cases hp : permErr zs = 0
    · have d2 : (permErr zs != 0) = false := by simp [hp]
      have Hp := Lib.hid hp; clear hp
      have hcal := permutation_any B d m zs w hy (by omega)
      have Hx := Lib.hid hx.1
      have Hy := Lib.hid hy.1
      have H1 := Lib.hid h1; clear h1
      go_enter Try.func17, Try.ntmps17
      go_wp2_with fail
      refine hcal.mono ?_
      rintro e w1 ⟨rfl, hb1⟩
      have hx1 := hx.below hb1
      have hy1 := hy.below hb1
      clear hcal
      go_wp2_with fail
      go_loopw [6] (fun i wr => ∃ k : Nat, 1 ≤ k ∧ k ≤ m ∧ i = .int .i64 k ∧ Hid (∀ i, i + 1 < k → less (sfx bs (gi zs i)) (sfx bs (gi zs (i + 1))) = true) ∧ ∃ q, wr = w1.drewN q) (fun i _ => m - (intOf i).toNat)
      case atStart => exact ⟨1, by omega, by have := H1.out; omega, rfl, fun i hi => absurd hi (by omega), 0, rfl⟩
      case round =>
        obtain ⟨k, hk1, hk, rfl, HK, q, rfl⟩ := hrel
        by_cases hlt : k < m
        · obtain ⟨j, rfl⟩ : ∃ j, k = j + 1 := ⟨k - 1, by omega⟩
          have hz : ∀ i, i < m → 0 ≤ gi zs i ∧ gi zs i ≤ n := fun i hi => by
            have := (permErrL_zero _ _ _ Hp.out).1 (gi zs i) (gi_mem (by have := Hy.out; omega))
            rw [Hy.out] at this
            have := H1.out
            omega
          obtain ⟨a0, a1⟩ := hz j (by omega)
          obtain ⟨b0, b1⟩ := hz (j + 1) hlt
          clear hz
          obtain ⟨A1, r1, v1⟩ := hx1.cut_l tB eB sB (gi zs j) a0 a1
          obtain ⟨A2, r2, v2⟩ := hx1.cut_l tB eB sB (gi zs (j + 1)) b0 b1
          have s1 := fun q => (v1.drewN q).str 22 5 9 uB u8 uS
          have s2 := fun q => (v2.drewN q).str 22 5 9 uB u8 uS
          obtain ⟨b, off, rfl, hb, hcell⟩ := hy1.get hlt
          have c1 := hcell j (by omega)
          have c2 := hcell (j + 1) hlt
          clear hcell
          cases hs : less (sfx bs (gi zs j)) (sfx bs (gi zs (j + 1))) with
          | true =>
            have e1 : Op.bytesLess (strB (bs.drop (gi zs j).toNat)).toList (strB (bs.drop (gi zs (j + 1)).toNat)).toList = true := by rw [strB_less]; exact hs
            have Hs := Lib.hid hs; clear hs
            go_wp2
            go_quiet (fail)
            go_wp2
            go_roundw
            case rel => exact ⟨j + 1 + 1, by omega, by omega, by go_num, fun i hi => by
              rcases Nat.lt_or_ge (i + 1) (j + 1) with h | h
              · exact HK.out i h
              · obtain rfl : i = j := by omega
                exact Hs.out, _, rfl⟩
            case measure => simp [intOf]; omega
          | false =>
            have e1 : Op.bytesLess (strB (bs.drop (gi zs j).toNat)).toList (strB (bs.drop (gi zs (j + 1)).toNat)).toList = false := by rw [strB_less]; exact hs
            have hfin : Hid (checkErr bs zs = 29) := by
              unfold checkErr
              rw [if_neg (by have := Hx.out; omega), if_neg (by have := Hx.out; have := Hy.out; have := H1.out; omega), if_neg (by have := Hp.out; omega), ascB_false (by have := Hy.out; omega) hs]
              rfl
            clear hs
            go_wp2
            go_quiet (fail)
            go_wp2
            go_ret
            exact ⟨ret_int hfin.out.symm, bdrew (bdrew hb1 _) _⟩
        · have hfin : Hid (checkErr bs zs = 0) := by
            unfold checkErr
            rw [if_neg (by have := Hx.out; omega), if_neg (by have := Hx.out; have := Hy.out; have := H1.out; omega), if_neg (by have := Hp.out; omega), ascB_true (fun i hi => HK.out i (by have := Hy.out; omega))]
            rfl
          go_wp2
          go_ret
          exact ⟨ret_int hfin.out.symm, hb1.trans ((Drawn.drewN _ _).below _)⟩
    · have d2 : (permErr zs != 0) = true := by simp [hp]
      have hcal := permutation_any B d m zs w hy (by omega)
      have hfin : Hid (checkErr bs zs = permErr zs) := by
        show _ = _
        unfold checkErr
        rw [if_neg (by have := hx.1; omega), if_neg (by have := hx.1; have := hy.1; omega), if_pos hp]
      have H1 := Lib.hid h1; clear h1
      clear hp
      go_enter Try.func17, Try.ntmps17
      go_wp2_with fail
      refine hcal.mono ?_
      rintro e w1 ⟨rfl, hb1⟩
      go_wp2_with fail
      go_ret
      exact ⟨ret_int hfin.out.symm, hb1⟩
  · have d1 : ((m : Int) != (n : Int) + 1) = true := by simp; omega
    have hfin : Hid (checkErr bs zs = 6) := by
      show _ = _
      unfold checkErr
      rw [if_neg (by have := hx.1; omega), if_pos (by have := hx.1; have := hy.1; omega)]
    go_enter Try.func17, Try.ntmps17
    go_wp2_with fail
    go_ret
    exact ⟨ret_int hfin.out.symm, Below.refl _ _⟩

end Go.Proofs.Ytkndcbnajkiceaa

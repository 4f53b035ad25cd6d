/- slices.Sort at []byte, part 6: xorshift.Next, nextPowerOfTwo, breakPatternsOrdered: a permutation. -/
import Derived.Test.YtoodfmilleodaaaSe
import Derived.Test.YtoodfmilleodaaaShelf
import Derived.Sort.WalkA14
import Derived.Sort.LotD5
import Derived.Sort.Walk7a
import Derived.Laws.Bits64
import Derived.Laws.Bits64b
namespace Go.Proofs.Ytoodfmilleodaaa
open Go.RowKit Go.Proofs Go.Sort Go.Shelf
set_option linter.unusedVariables false
set_option linter.unusedSimpArgs false

theorem xor_some (x y : Nat) (hx : x < 18446744073709551616) (hy : y < 18446744073709551616) : ∃ z : Nat, z < 18446744073709551616 ∧ bits .xor .u64 (x : Int) (y : Int) = (z : Int) :=
  ⟨x ^^^ y, Nat.xor_lt_two_pow (n := 64) (by omega) (by omega), bits_xor_u64_nat _ _ hx hy⟩

set_option maxHeartbeats 1600000 in
theorem next_any (rb X : Nat) (hX : X < 18446744073709551616) (w : World) (hr : Row id w rb 133 [.int .u64 X]) :
    Calls Try.prog 109 #[.pointer (some ⟨rb, 0, none⟩)] w fun e w' => ∃ Y : Nat, Y < 18446744073709551616 ∧ e = .returned (.int .u64 Y) ∧ Row id w' rb 133 [.int .u64 Y] ∧ w.grownBy w' (some rb) := by
  obtain ⟨A, lA, eA⟩ := xor_some X (X * 8192 % 18446744073709551616) hX (by omega)
  obtain ⟨B, lB, eB⟩ := xor_some A (A / 128) lA (by omega)
  obtain ⟨C, lC, eC⟩ := xor_some B (B * 131072 % 18446744073709551616) lB (by omega)
  have e1 : bits .xor .u64 (X : Int) (IntKind.u64.wrap ((X : Int) * 8192)) = (A : Int) := by
    rw [IntKind.wrap_u64, show ((X : Int) * 8192 % 18446744073709551616) = ((X * 8192 % 18446744073709551616 : Nat) : Int) by omega]; exact eA
  have e2 : bits .xor .u64 (A : Int) ((A : Int) / 128) = (B : Int) := by
    rw [show ((A : Int) / 128) = ((A / 128 : Nat) : Int) by omega]; exact eB
  have e3 : bits .xor .u64 (B : Int) (IntKind.u64.wrap ((B : Int) * 131072)) = (C : Int) := by
    rw [IntKind.wrap_u64, show ((B : Int) * 131072 % 18446744073709551616) = ((B * 131072 % 18446744073709551616 : Nat) : Int) by omega]; exact eC
  have hss : ∀ v v', (w.setCell ⟨rb, 0, none⟩ v).setCell ⟨rb, 0, none⟩ v' = w.setCell ⟨rb, 0, none⟩ v' := setCell_setCell w rb 0
  have hc := hr.one
  have hf := hr.frozen 0
  have HR := Lib.hid hr
  have HC := Lib.hid lC
  clear eA eB eC hr
  go_enter Try.func109, Try.ntmps109
  go_wp2
  go_region
  all_goals go_wp2
  all_goals go_region
  all_goals go_wp2
  all_goals go_region
  all_goals go_wp2
  all_goals go_ret
  all_goals exact ⟨C, HC.out, rfl, (HR.out.set 0 (Value.int .u64 C)).drewN 3, grownBy.drewN' (grownBy.setCell' (World.grownBy.refl _ _) _) 3⟩

theorem nextPower_any (n : Nat) (h1 : 1 ≤ n) (hn : n < 4611686018427387904) (w : World) :
    Calls Try.prog 108 #[.int .i64 n] w fun e w' => ∃ M : Nat, 1 ≤ M ∧ M ≤ 2 * n ∧ e = .returned (.int .u64 M) ∧ w' = w := by
  have hLen : Calls Try.prog 81 #[.int .u64 (n : Int)] w fun e w' => e = .returned (.int .i64 (bitsLen n : Nat)) ∧ w' = w := by
    have h := Try.bits_Len (n : Int) w (by omega) (by omega)
    rwa [Int.toNat_natCast, bitLen_eq _ (by omega)] at h
  have hk : bitsLen n ≤ 62 := (bitsLen_le_iff n 62).2 (by omega)
  have hp := wrap_two_pow (bitsLen n) hk
  have hM1 : 1 ≤ 1 <<< bitsLen n := by rw [Nat.one_shiftLeft]; exact Nat.two_pow_pos _
  have hM2 : 1 <<< bitsLen n ≤ 2 * n := by rw [Nat.one_shiftLeft]; exact two_pow_bitsLen_le (by omega)
  have HM := Lib.hid (And.intro hM1 hM2)
  clear hM1 hM2
  go_enter Try.func108, Try.ntmps108
  go_wp2_with (first | (go_at_call 81; refine hLen.mono ?_; rintro e w' ⟨rfl, rfl⟩))
  go_ret
  exact ⟨1 <<< bitsLen n, HM.out.1, HM.out.2, rfl, rfl⟩

theorem Arr.fresh {w0 w w' : World} {blk off sb : Nat} {d : Array UInt8} (h : Arr w0 w blk off d) (hb : w0.heap.size ≤ sb) (hne : sb ≠ blk) (hg : w.grownBy w' (some sb)) : Arr w0 w' blk off d :=
  ⟨(h.self.other hg hne).1, h.2.os ▸ hg.os, h.2.tape ▸ hg.tape, h.2.output ▸ hg.output, Nat.le_trans h.2.size hg.size, fun k hk hk' => by
    rw [hg.block k (Nat.lt_of_lt_of_le hk h.2.size) (by intro e; cases e; omega)]
    exact h.2.block k hk hk'⟩

set_option maxHeartbeats 3200000 in
set_option maxRecDepth 100000 in
theorem breakPatterns_any (blk off cap a b : Nat) (d : Array UInt8) (w : World) (hA : Arr w w blk off d) (hab : a < b) (hb : b ≤ d.size) (hsz : d.size < 4611686018427387904) :
    Calls Try.prog 90 #[.slice (some ⟨blk, off, none⟩) d.size cap, .int .i64 a, .int .i64 b] w fun e w' => e = .returned (.tuple #[]) ∧ ∃ d', PermIn a b d d' ∧ Arr w w' blk off d' := by
  obtain ⟨l, hl⟩ : ∃ l, l = b - a := ⟨_, rfl⟩
  obtain ⟨q, hq⟩ : ∃ q, q = l / 4 := ⟨_, rfl⟩
  obtain ⟨J, hJ⟩ : ∃ J, J = a + q * 2 := ⟨_, rfl⟩
  have e1 : (b : Int) - (a : Int) = (l : Int) := by omega
  have e2 : (l : Int) / 4 = (q : Int) := by omega
  have e2' : (l : Int).tdiv 4 = (q : Int) := by rw [Int.tdiv_eq_ediv_of_nonneg (by omega)]; exact e2
  have e4 : (a : Int) + (q : Int) * 2 = (J : Int) := by omega
  have HB : Hid (l = b - a ∧ q = l / 4 ∧ J = a + q * 2) := ⟨hl, hq, hJ⟩
  have hl62 : l < 4611686018427387904 := by omega
  have hl1 : 1 ≤ l := by omega
  have HSZ := Lib.hid hsz
  clear hl hq hJ
  by_cases h8 : 8 ≤ l
  · have h8z : (8 : Int) ≤ (l : Int) := by omega
    obtain ⟨J0, hJ0⟩ : ∃ J0, J0 = J - 1 := ⟨_, rfl⟩
    have e5 : (J : Int) - 1 = (J0 : Int) := by have := HB.out; omega
    have HJ : Hid (J0 + 1 = J ∧ a ≤ J0 ∧ J + 1 < b) := by show _ ∧ _ ∧ _; have := HB.out; omega
    have hrow : Row id (w.alloc (.cells #[.int .u64 (l : Int)] 133)) w.heap.size 133 [.int .u64 (l : Int)] := Row.one_new w 133 (.int .u64 (l : Int))
    have HNE : Hid (w.heap.size ≠ blk) := by show _ ≠ _; have := hA.1.2; omega
    have HA0 : Hid (Arr w (w.alloc (.cells #[.int .u64 (l : Int)] 133)) blk off d) := hA.keep (World.grownBy_alloc w _ none)
    have HROW := Lib.hid hrow
    clear hJ0 hrow hA
    go_enter Try.func90, Try.ntmps90
    go_wp2_with fail
    refine (nextPower_any l hl1 hl62 _).mono ?_
    rintro e w1 ⟨M, hM1, hM2, rfl, rfl⟩
    go_wp2_with fail
    go_loopw [9] (fun s9 wr => ∃ (i X : Nat) (dk : Array UInt8), s9 = .int .i64 i ∧ J0 ≤ i ∧ i ≤ J + 2 ∧ X < 18446744073709551616 ∧ Row id wr w.heap.size 133 [.int .u64 X] ∧ PermIn a b d dk ∧ Arr w wr blk off dk) (fun s9 _ => J + 2 - (intOf s9).toNat)
    case atStart => exact ⟨J0, l, d, rfl, Nat.le_refl _, by have := HJ.out; omega, by omega, HROW.out, permIn_refl d a b, HA0.out⟩
    case round =>
      clear HROW HA0
      obtain ⟨i, X, dk, rfl, hi1, hi2, hX, hr, hP, hAk⟩ := hrel
      have HP := Lib.hid hP
      have HS : Hid (dk.size = d.size) := hP.1
      clear hP
      by_cases hi : i ≤ J + 1
      · have hiz : (i : Int) ≤ (J : Int) + 1 := by omega
        go_wp2_with fail
        refine (next_any w.heap.size X hX _ hr).mono ?_
        rintro e w2 ⟨Y, hY, rfl, r1, g1⟩
        have HA2 := Lib.hid (hAk.fresh (Nat.le_refl _) HNE.out g1)
        have HR2 := Lib.hid r1
        obtain ⟨O, hO⟩ : ∃ O : Nat, O = Y &&& (M - 1) := ⟨_, rfl⟩
        have lO : O ≤ M - 1 := by rw [hO]; exact Nat.and_le_right
        have eAnd : bits .and .u64 (Y : Int) ((M : Int) - 1) = (O : Int) := by
          rw [show ((M : Int) - 1) = ((M - 1 : Nat) : Int) by omega, bits_and_u64_nat _ _ hY (by omega), hO]
        clear hO hr r1 g1 hAk
        by_cases hLO : l ≤ O
        · have hLOz : (l : Int) ≤ (O : Int) := by omega
          obtain ⟨O2, hO2⟩ : ∃ O2, O2 = O - l := ⟨_, rfl⟩
          have e6 : (O : Int) - (l : Int) = (O2 : Int) := by omega
          obtain ⟨P, hPP⟩ : ∃ P, P = a + O2 := ⟨_, rfl⟩
          have e7 : (a : Int) + (O2 : Int) = (P : Int) := by omega
          have HPB : Hid (a ≤ P ∧ P < b) := by show _ ∧ _; have := HB.out; omega
          have HX := Lib.hid (HA2.out.swp (i := i) (j := P) (by have := HJ.out; have := HS.out; omega) (by have := HPB.out; have := HS.out; omega))
          have c1 := HA2.out.cell (t := i) (by have := HJ.out; have := HS.out; omega)
          have c2 := HA2.out.cell (t := P) (by have := HPB.out; have := HS.out; omega)
          have f1 := HA2.out.frozen (t := i) (by have := HJ.out; have := HS.out; omega)
          have f2 := HA2.out.frozen (t := P) (by have := HPB.out; have := HS.out; omega)
          have hPs : P < d.size := by have := HPB.out; omega
          have his : i < d.size := by have := HJ.out; omega
          clear hO2 hPP
          go_wp2_with fail
          by_cases heq : i = P
          · subst heq
            go_region
            all_goals
              go_wp2_with fail
              go_roundw
              case rel => exact ⟨i + 1, Y, _, by go_num, by omega, by omega, hY, ((HR2.out.far (p := ⟨blk, off + i, none⟩) HNE.out _).far (p := ⟨blk, off + i, none⟩) HNE.out _).drewN 1, permIn_trans d dk _ a b HP.out (swp_permIn dk a b i i (by have := HJ.out; omega) (by have := HJ.out; omega) HPB.out.1 HPB.out.2 (by have := HS.out; omega)), HX.out.drewN 1⟩
              case measure => (simp [intOf]) <;> omega
          · go_region
            all_goals
              go_wp2_with fail
              go_roundw
              case rel => exact ⟨i + 1, Y, _, by go_num, by omega, by omega, hY, ((HR2.out.far (p := ⟨blk, off + i, none⟩) HNE.out _).far (p := ⟨blk, off + P, none⟩) HNE.out _).drewN 1, permIn_trans d dk _ a b HP.out (swp_permIn dk a b i P (by have := HJ.out; omega) (by have := HJ.out; omega) HPB.out.1 HPB.out.2 (by have := HS.out; omega)), HX.out.drewN 1⟩
              case measure => (simp [intOf]) <;> omega
        · have hLOz : ¬ ((l : Int) ≤ (O : Int)) := by omega
          obtain ⟨P, hPP⟩ : ∃ P, P = a + O := ⟨_, rfl⟩
          have e7 : (a : Int) + (O : Int) = (P : Int) := by omega
          have HPB : Hid (a ≤ P ∧ P < b) := by show _ ∧ _; have := HB.out; omega
          have HX := Lib.hid (HA2.out.swp (i := i) (j := P) (by have := HJ.out; have := HS.out; omega) (by have := HPB.out; have := HS.out; omega))
          have c1 := HA2.out.cell (t := i) (by have := HJ.out; have := HS.out; omega)
          have c2 := HA2.out.cell (t := P) (by have := HPB.out; have := HS.out; omega)
          have f1 := HA2.out.frozen (t := i) (by have := HJ.out; have := HS.out; omega)
          have f2 := HA2.out.frozen (t := P) (by have := HPB.out; have := HS.out; omega)
          have hPs : P < d.size := by have := HPB.out; omega
          have his : i < d.size := by have := HJ.out; omega
          clear hPP
          go_wp2_with fail
          by_cases heq : i = P
          · subst heq
            go_region
            all_goals
              go_wp2_with fail
              go_roundw
              case rel => exact ⟨i + 1, Y, _, by go_num, by omega, by omega, hY, ((HR2.out.far (p := ⟨blk, off + i, none⟩) HNE.out _).far (p := ⟨blk, off + i, none⟩) HNE.out _).drewN 1, permIn_trans d dk _ a b HP.out (swp_permIn dk a b i i (by have := HJ.out; omega) (by have := HJ.out; omega) HPB.out.1 HPB.out.2 (by have := HS.out; omega)), HX.out.drewN 1⟩
              case measure => (simp [intOf]) <;> omega
          · go_region
            all_goals
              go_wp2_with fail
              go_roundw
              case rel => exact ⟨i + 1, Y, _, by go_num, by omega, by omega, hY, ((HR2.out.far (p := ⟨blk, off + i, none⟩) HNE.out _).far (p := ⟨blk, off + P, none⟩) HNE.out _).drewN 1, permIn_trans d dk _ a b HP.out (swp_permIn dk a b i P (by have := HJ.out; omega) (by have := HJ.out; omega) HPB.out.1 HPB.out.2 (by have := HS.out; omega)), HX.out.drewN 1⟩
              case measure => (simp [intOf]) <;> omega
      · have hiz : ¬ ((i : Int) ≤ (J : Int) + 1) := by omega
        go_wp2_with fail
        go_end0
        exact ⟨rfl, dk, HP.out, hAk⟩
  · have h8z : ¬ ((8 : Int) ≤ (l : Int)) := by omega
    go_enter Try.func90, Try.ntmps90
    go_wp2_with fail
    go_end0
    exact ⟨rfl, d, permIn_refl d a b, hA⟩
end Go.Proofs.Ytoodfmilleodaaa

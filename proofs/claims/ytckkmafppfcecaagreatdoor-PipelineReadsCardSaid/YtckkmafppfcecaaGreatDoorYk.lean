/- The reference: words, kind, number. -/
import Derived.Test.YtckkmafppfcecaaGreatDoorYx
import Derived.Test.YtckkmafppfcecaaGreatDoorYr
import Derived.Laws.DeepStrings4
namespace Go.Proofs.YtckkmafppfcecaaGreatDoor
open Go.RowKit Go.Proofs
set_option linter.unusedVariables false
set_option linter.unusedSimpArgs false

theorem strB_size' (x : List UInt8) : (strB x).size = x.length := rfl
theorem strB_extract (x : List UInt8) (i j : Nat) : (strB x).extract i j = strB ((x.drop i).take (j - i)) := by
  apply ByteArray.ext
  simp [strB, ByteArray.data_extract]
theorem run_index_strB (x : List UInt8) {k : Nat} (hk : k < x.length) (W : World) : (Instr.index 9 (.string (strB x)) (.int .i64 (k : Int))).run Tryz.prog W = .ok (.int .u8 (gb x k)) W := by
  rw [run_index_string W 9 (strB x) .i64 (k : Int) uS]
  have h2 : 0 ≤ (k : Int) ∧ (k : Int) < ((strB x).size : Int) := ⟨by omega, by rw [strB_size']; omega⟩
  rw [dif_pos h2]
  have h3 : ∀ (j : Nat) (hj : j < (strB x).size), (strB x)[j] = x.getD j 0 := fun j hj => by
    have hj' : j < x.length := hj
    rw [List.getD_eq_getElem?_getD, List.getElem?_eq_getElem hj']
    rfl
  rw [h3]
  rfl
theorem run_cutS_l (x : List UInt8) {i : Nat} (hi : i ≤ x.length) (W : World) : (Instr.slice 9 (.string (strB x)) (some (.int .i64 (i : Int))) none none).run Tryz.prog W = .ok (.string (strB (x.drop i))) W := by
  rw [run_slice_string_l W 9 (strB x) uS .i64 (i : Int) (by omega) (by rw [strB_size']; omega), strB_extract, Int.toNat_natCast, strB_size', List.take_of_length_le (by rw [List.length_drop]; omega)]
theorem run_cutS_lh (x : List UInt8) {i j : Nat} (hi : i ≤ j) (hj : j ≤ x.length) (W : World) : (Instr.slice 9 (.string (strB x)) (some (.int .i64 (i : Int))) (some (.int .i64 (j : Int))) none).run Tryz.prog W = .ok (.string (strB ((x.drop i).take (j - i)))) W := by
  rw [run_slice_string_if W 9 (strB x) .i64 .i64 (i : Int) (j : Int) uS, if_pos ⟨by omega, by rw [strB_size']; omega⟩, if_pos ⟨by omega, by omega⟩, strB_extract, Int.toNat_natCast, Int.toNat_natCast]
theorem infoWr : (Tryz.prog.info? 91).map (fun i => (i.zero, i.size, i.bytes)) = some (some (.agg #[.string ByteArray.empty, .int .i64 0]), 2, 24) := by kernel_rfl
theorem uWr : Tryz.prog.underlying 87 = some (.slice 91) := Tryz.underlying87

set_option maxRecDepth 100000 in
set_option maxHeartbeats 4000000 in
theorem refWords_any (s : List UInt8) (w : World) (hs : s.length ≤ 1000000) : Calls Tryz.prog 41 #[.string (strB s)] w fun e w' =>
    ∃ A c, e = .returned (.slice A (wordsP s).length c) ∧ OwnS encW 2 w' w.heap.size 91 A (wordsP s).length c (wordsP s) ∧ Below w.heap.size w w' := by
  have hsz : (strB s).size = s.length := rfl
  have HI := Lib.hid (fun k hk W => run_index_strB s (k := k) hk W)
  have HC2 := Lib.hid (fun i j hi hj W => run_cutS_lh s (i := i) (j := j) hi hj W)
  have HW0 : Hid ([] ++ wordsI s 0 = wordsP s) := rfl
  have HR := fun (i j : Nat) (h1 : i ≤ j) (h2 : j ≤ s.length) h3 h4 => wordsI_run (s := s) (i := i) (j := j) h1 h2 h3 h4
  have HRun := Lib.hid HR
  clear HR
  go_enter Tryz.func41, Tryz.ntmps41
  go_wp2_with fail
  go_loopw [3, 4, 5] (fun o i _ wr => ∃ (k n3 c3 : Nat) (A3 : Option Addr) (xs : List (List UInt8 × Nat)), k ≤ s.length + 1 ∧ n3 ≤ k ∧ i = .int .i64 (k : Int) ∧ o = .slice A3 n3 c3 ∧ Hid (OwnS encW 2 wr w.heap.size 91 A3 n3 c3 xs) ∧ Hid (xs ++ wordsI s k = wordsP s) ∧ Hid (Below w.heap.size w wr)) (fun _ i _ _ => s.length + 1 - (intOf i).toNat)
  case atStart => exact ⟨0, 0, 0, none, [], Nat.zero_le _, Nat.le_refl _, rfl, rfl, Lib.hid (OwnS.nil _ _ _ _ _), HW0, Lib.hid (Below.refl _ _)⟩
  case round =>
    obtain ⟨k, n3, c3, A3, xs, hk, hn3, rfl, rfl, HO, HW, HB⟩ := hrel
    by_cases hlt : k < s.length
    · have d0 : decide ((k : Int) < (s.length : Int)) = true := by simp; omega
      have d0' : decide (k < s.length) = true := by simp; omega
      go_wp2_with fail
      go_loop [4] (fun i => ∃ j : Nat, k ≤ j ∧ j ≤ s.length ∧ i = .int .i64 (j : Int) ∧ Hid (∀ q, k ≤ q → q < j → s.getD q 0 ≠ 32)) (fun i => s.length - (intOf i).toNat)
      case atStart => exact ⟨k, Nat.le_refl _, by omega, rfl, Lib.hid (fun q h1 h2 => absurd h2 (by omega))⟩
      case round =>
        obtain ⟨j, hkj, hj, rfl, HN⟩ := hrel
        have HBX := Lib.hid HB.out.size
        have hml2 := Lib.hid (show n3 + 1 ≤ maxLen ∧ (n3 + 1) * 24 ≤ 140737488355328 by unfold maxLen; omega)
        have hcut := HC2.out k j hkj hj
        by_cases hjl : j < s.length
        · have e0 : decide ((j : Int) < (s.length : Int)) = true := by simp; omega
          have e0' : decide (j < s.length) = true := by simp; omega
          have hi := HI.out j hjl
          unfold gb at hi
          have hR := HRun.out k j hkj hj HN.out
          obtain ⟨b, hb⟩ : ∃ b, b = s.getD j 0 := ⟨_, rfl⟩
          rw [← hb] at hi hR
          have Hb := Lib.hid hb
          clear hb
          by_cases h32 : b = 32
          · have q1 : ((b.toNat : Int) == 32) = true := by rw [h32]; rfl
            have q1' : ((b.toNat : Int) != 32) = false := by rw [h32]; rfl
            have hR2 := hR (.inr h32)
            by_cases hjk : j = k
            · have e1 : decide ((k : Int) < (j : Int)) = false := by simp; omega
              have e1' : decide (k < j) = false := by simp; omega
              rw [if_pos hjk] at hR2
              have HF : Hid (xs ++ wordsI s (j + 1) = wordsP s) := by show _ = _; rw [← hR2]; exact HW.out
              have Hjk := Lib.hid hjk
              clear hR hR2 hjk h32 hcut
              go_wp2_with fail
              go_roundw
              case rel => exact ⟨j + 1, n3, c3, A3, xs, by omega, by omega, by go_num, rfl, HO, HF, HB⟩
              case measure => (simp [intOf]) <;> omega
            · have e1 : decide ((k : Int) < (j : Int)) = true := by simp; omega
              have e1' : decide (k < j) = true := by simp; omega
              rw [if_neg hjk] at hR2
              have HF : Hid ((xs ++ [((s.drop k).take (j - k), k)]) ++ wordsI s (j + 1) = wordsP s) := by show _ = _; rw [List.append_assoc, List.singleton_append, ← hR2]; exact HW.out
              obtain ⟨y, hy⟩ : ∃ y, y = (s.drop k).take (j - k) := ⟨_, rfl⟩
              rw [← hy] at HF hcut
              clear hR hR2 hjk h32 hy
              go_wp2_with (at_builtin; refine wpList_pushS (enc := encW) rfl (.tmp 26) (.tmp 33) rfl uWr infoWr encW_one rfl (fun _ => rfl) (by decide) rfl HO.out HBX.out (y, k) _ rfl rfl hml2.out.1 hml2.out.2 ?_; intro A6 c6 w6 ho6 hb6 hg6)
              have HN2 := Lib.hid (And.intro ho6 (HB.out.trans hb6))
              clear ho6 hb6 hg6
              go_wp2_with fail
              go_roundw
              case rel => exact ⟨j + 1, n3 + 1, c6, A6, xs ++ [(y, k)], by omega, by omega, by go_num, rfl, Lib.hid HN2.out.1, HF, Lib.hid HN2.out.2⟩
              case measure => (simp [intOf]) <;> omega
          · have q1 : ((b.toNat : Int) == 32) = false := by
              simp only [beq_eq_false_iff_ne, ne_eq]
              intro e
              exact h32 (UInt8.toNat_inj.1 (by have : b.toNat = 32 := by omega
                                               rw [this]; rfl))
            have q1' : ((b.toNat : Int) != 32) = true := by simp only [bne, q1]; rfl
            have HN3 : Hid (∀ q, k ≤ q → q < j + 1 → s.getD q 0 ≠ 32) := fun q h1 h2 => by
              by_cases e : q = j
              · rw [e, ← Hb.out]; exact h32
              · exact HN.out q h1 (by omega)
            clear h32 hR hcut
            go_wp2_with fail
            go_round
            case rel => exact ⟨j + 1, by omega, by omega, by go_num, HN3⟩
            case measure => (simp [intOf]) <;> omega
        · obtain rfl : j = s.length := by omega
          have e0 : decide ((s.length : Int) < (s.length : Int)) = false := by simp
          have hR2 := HRun.out k s.length hkj hj HN.out (.inl rfl)
          have e1 : decide ((k : Int) < (s.length : Int)) = true := by simp; omega
          have e1' : decide (k < s.length) = true := by simp; omega
          rw [if_neg (by omega)] at hR2
          have HF : Hid ((xs ++ [((s.drop k).take (s.length - k), k)]) ++ wordsI s (s.length + 1) = wordsP s) := by show _ = _; rw [List.append_assoc, List.singleton_append, ← hR2]; exact HW.out
          obtain ⟨y, hy⟩ : ∃ y, y = (s.drop k).take (s.length - k) := ⟨_, rfl⟩
          rw [← hy] at HF hcut
          clear hR2 hy
          go_wp2_with (at_builtin; refine wpList_pushS (enc := encW) rfl (.tmp 26) (.tmp 33) rfl uWr infoWr encW_one rfl (fun _ => rfl) (by decide) rfl HO.out HBX.out (y, k) _ rfl rfl hml2.out.1 hml2.out.2 ?_; intro A6 c6 w6 ho6 hb6 hg6)
          have HN2 := Lib.hid (And.intro ho6 (HB.out.trans hb6))
          clear ho6 hb6 hg6
          go_wp2_with fail
          go_roundw
          case rel => exact ⟨s.length + 1, n3 + 1, c6, A6, xs ++ [(y, k)], by omega, by omega, by go_num, rfl, Lib.hid HN2.out.1, HF, Lib.hid HN2.out.2⟩
          case measure => (simp [intOf]) <;> omega
    · have d0 : decide ((k : Int) < (s.length : Int)) = false := by simp; omega
      have d0' : decide (k < s.length) = false := by simp; omega
      have hF := HW.out
      rw [wordsI_end (by omega), List.append_nil] at hF
      have ho := HO.out
      rw [hF] at ho
      have hnl := ho.length (fun _ => rfl) (by decide)
      have HZ := Lib.hid (And.intro ho hnl)
      clear ho hnl hF
      go_wp2_with fail
      go_ret
      exact ⟨A3, c3, by rw [HZ.out.2]; rfl, by rw [HZ.out.2]; exact HZ.out.1, HB.out⟩

set_option maxRecDepth 100000 in
theorem refKind_any (x : List UInt8) (w : World) : Calls Tryz.prog 42 #[.string (strB x)] w fun e w' => e = .returned (.int .i64 (kindP x)) ∧ w' = w := by
  go_enter Tryz.func42, Tryz.ntmps42
  go_wp2_with fail
  go_loop [3] (fun i => ∃ k : Nat, k ≤ 10 ∧ i = .int .i64 (k : Int) ∧ Hid (∀ j, j < k → nameP ((j : Nat) : Int) ≠ x)) (fun i => 10 - (intOf i).toNat)
  case atStart => exact ⟨0, Nat.zero_le _, rfl, Lib.hid (fun j hj => absurd hj (Nat.not_lt_zero _))⟩
  case round =>
    obtain ⟨k, hk, rfl, HA⟩ := hrel
    by_cases hlt : k < 10
    · have d0 : decide ((k : Int) ≤ 9) = true := by simp; omega
      have d0' : decide (k ≤ 9) = true := by simp; omega
      have HC := Lib.hid (refName_any (k : Int) w)
      obtain ⟨nm, hnm⟩ : ∃ nm, nm = nameP (k : Int) := ⟨_, rfl⟩
      rw [← hnm] at HC
      have HN := Lib.hid hnm
      clear hnm
      by_cases he : nm = x
      · have q : ((strB nm).toList == (strB x).toList) = true := by rw [strB_beq, decide_eq_true he]
        have HKX := Lib.hid (kind_hit hlt (by rw [← HN.out]; exact he) HA.out)
        clear he
        go_wp2_with fail
        refine HC.out.mono ?_
        rintro e w2 ⟨rfl, hw2⟩
        obtain rfl : w = w2 := hw2.symm
        go_wp2_with fail
        rw [HKX.out]
        go_ret
        exact ⟨rfl, rfl⟩
      · have q : ((strB nm).toList == (strB x).toList) = false := by rw [strB_beq, decide_eq_false he]
        have HE := Lib.hid he
        clear he
        go_wp2_with fail
        refine HC.out.mono ?_
        rintro e w2 ⟨rfl, hw2⟩
        obtain rfl : w = w2 := hw2.symm
        go_wp2_with fail
        go_round
        case rel =>
          refine ⟨k + 1, by omega, by go_num, Lib.hid (fun j hj => ?_)⟩
          by_cases e : j = k
          · subst e; rw [← HN.out]; exact HE.out
          · exact HA.out j (by omega)
        case measure => (simp [intOf]) <;> omega
    · obtain rfl : k = 10 := by omega
      have HKX := Lib.hid (kind_miss HA.out)
      go_wp2_with fail
      rw [HKX.out]
      go_ret
      exact ⟨rfl, rfl⟩
end Go.Proofs.YtckkmafppfcecaaGreatDoor

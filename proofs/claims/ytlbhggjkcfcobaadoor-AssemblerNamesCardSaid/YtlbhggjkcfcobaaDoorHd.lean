/- The reference of the assembler: Words. -/
import Derived.Test.YtlbhggjkcfcobaaDoorHb
namespace Go.Proofs.YtlbhggjkcfcobaaDoor
open Go.RowKit Go.Proofs
set_option linter.unusedVariables false

theorem infoWR : (Tryd.prog.info? 104).map (fun i => (i.zero, i.size, i.bytes)) = some (some (.agg #[.string ⟨#[]⟩, .int .i64 0]), 2, 24) := by kernel_rfl
theorem uWR : Tryd.prog.underlying 101 = some (.slice 104) := by kernel_rfl
theorem ne59 {b : UInt8} (h : b ≠ 59) : ((b.toNat : Int) == 59) = false := by
  have : b.toNat ≠ 59 := fun e => h (UInt8.toNat_inj.1 (by rw [e]; rfl))
  simp; omega
theorem bne10 {b : UInt8} (h : (b.toNat : Int) ≠ 10) : (b != 10) = true := by
  have : b ≠ 10 := fun e => h (by rw [e]; rfl)
  simpa using this
theorem beq10 {b : UInt8} (h : (b.toNat : Int) = 10) : (b != 10) = false := by
  have : b = 10 := UInt8.toNat_inj.1 (by show b.toNat = 10; omega)
  rw [this]; rfl
set_option maxRecDepth 100000 in
set_option maxHeartbeats 20000000 in
theorem wordsR_any (src : List UInt8) (w : World) (hs : src.length ≤ 9000) :
    Calls Tryd.prog 45 #[.string (strB src)] w fun e w' => ∃ A n c, e = .returned (.slice A n c) ∧ OwnS encW 2 w' w.heap.size 104 A n c (wordsL src) ∧ Below w.heap.size w w' := by
  have hsz := strB_size' src
  have HI := Lib.hid (fun k hk W => run_index_strB src (k := k) hk W)
  have HC2 := Lib.hid (fun i j hi hj W => run_cutS_lh src (i := i) (j := j) hi hj W)
  have ho0 := OwnS.nil encW 2 w w.heap.size 104
  have HW0 : Hid ([] ++ wordsA src 0 = wordsL src) := rfl
  go_enter Tryd.func45, Tryd.ntmps45
  go_wp2_with fail
  go_loopw [3, 4, 5] (fun d i _ wr => ∃ (k m c3 : Nat) (A3 : Option Addr) (ys : List Wd), k ≤ src.length ∧ m ≤ k ∧ i = .int .i64 (k : Int) ∧ d = .slice A3 m c3 ∧ OwnS encW 2 wr w.heap.size 104 A3 m c3 ys ∧ Hid (ys ++ wordsA src k = wordsL src) ∧ Below w.heap.size w wr) (fun _ i _ _ => src.length - (intOf i).toNat)
  case atStart => exact ⟨0, 0, 0, none, [], Nat.zero_le _, Nat.zero_le _, rfl, rfl, ho0, HW0.out, Below.refl _ _⟩
  case round =>
    clear ho0 HW0
    obtain ⟨k, m, c3, A3, ys, hk, hmk, rfl, rfl, ho, HW, hb⟩ := hrel
    by_cases hlt : k < src.length
    · have e1 : decide ((k : Int) < (src.length : Int)) = true := by simp; omega
      have e1' : decide (k < src.length) = true := by simp; omega
      have hi := HI.out k hlt
      unfold gb at hi
      have HA := Lib.hid (fun h => wordsA_comment (src := src) (i := k) hlt h)
      have HB := Lib.hid (fun h h' => wordsA_gap (src := src) (i := k) hlt h h')
      have HC := Lib.hid (fun h => wordsA_word (src := src) (i := k) hlt h)
      have HP := Lib.hid (fun p h => runTo_pos (p := p) (src := src) (i := k) hlt h)
      have HL := Lib.hid (fun p => runTo_le p (src := src) (i := k) (by omega))
      obtain ⟨b, hbe⟩ : ∃ b, b = src.getD k 0 := ⟨_, rfl⟩
      rw [← hbe] at hi HA HB HC HP
      clear hbe
      by_cases h59 : b = 59
      · subst h59
        have HA' := Lib.hid (HA.out rfl)
        have hp := HP.out (· != 10) rfl
        have hl := HL.out (· != 10)
        have HR : Hid (k + runTo (· != 10) src k = k + runTo (· != 10) src k) := rfl
        have HE := Lib.hid (And.intro ho hb)
        obtain ⟨r, hr⟩ : ∃ r, r = runTo (· != 10) src k := ⟨_, rfl⟩
        rw [← hr] at HA' hp hl
        have HRR : Hid (k + runTo (· != 10) src k = k + r) := by show _ = _; rw [hr]
        clear HA HB HC HP HL hr HR ho hb
        go_wp2_with fail
        go_loop [4] (fun i => ∃ j : Nat, k ≤ j ∧ j ≤ src.length ∧ i = .int .i64 (j : Int) ∧ Hid (j + runTo (· != 10) src j = k + r)) (fun i => src.length - (intOf i).toNat)
        case atStart => exact ⟨k, Nat.le_refl _, hk, rfl, HRR.out⟩
        case round =>
          clear HRR
          obtain ⟨j, hkj, hj, rfl, HJ⟩ := hrel
          by_cases hjl : j < src.length
          · have f1 : decide ((j : Int) < (src.length : Int)) = true := by simp; omega
            have f1' : decide (j < src.length) = true := by simp; omega
            have hij := HI.out j hjl
            unfold gb at hij
            have HS1 := Lib.hid (fun h => runToR_step (p := (· != 10)) (src := src) (i := j) hjl (bne10 h))
            have HS2 := Lib.hid (fun h => runToR_stop (p := (· != 10)) (src := src) (i := j) hjl (beq10 h))
            obtain ⟨x, hxe⟩ : ∃ x : Int, x = ((src.getD j 0).toNat : Int) := ⟨_, rfl⟩
            rw [← hxe] at hij HS1 HS2
            clear hxe hi
            by_cases h10 : x = 10
            · have d10 : (x != 10) = false := by simpa using h10
              have h0 := HS2.out h10
              have hjr : Hid (j = k + r) := by show _ = _; have := HJ.out; omega
              clear HS1 HS2 h0 HJ h10
              go_wp2_with fail
              go_roundw
              case rel => exact ⟨j, m, c3, A3, ys, hj, by omega, rfl, rfl, HE.out.1, by show _ = _; rw [hjr.out, ← HA'.out]; exact HW.out, HE.out.2⟩
              case measure => have := hjr.out; simp [intOf]; omega
            · have d10 : (x != 10) = true := by simpa using h10
              have h1 := Lib.hid (HS1.out h10)
              clear HS1 HS2 h10
              go_wp2_with fail
              go_round
              case rel => exact ⟨j + 1, by omega, by omega, by go_num, by show _ = _; have := HJ.out; have := h1.out; omega⟩
              case measure => simp [intOf]; omega
          · have f1 : decide ((j : Int) < (src.length : Int)) = false := by simp; omega
            have f1' : decide (j < src.length) = false := by simp; omega
            have h0 := runToR_end (p := (· != 10)) (src := src) (i := j) (by omega)
            have hjr : Hid (j = k + r) := by show _ = _; have := HJ.out; omega
            clear h0 HJ
            go_wp2_with fail
            go_roundw
            case rel => exact ⟨j, m, c3, A3, ys, hj, by omega, rfl, rfl, HE.out.1, by show _ = _; rw [hjr.out, ← HA'.out]; exact HW.out, HE.out.2⟩
            case measure => have := hjr.out; simp [intOf]; omega
      · have d59 := ne59 h59
        have H1 := Lib.hid (gapR_any b wr)
        cases hg : gapB b with
        | true =>
          rw [hg] at H1
          have HB' := Lib.hid (HB.out h59 hg)
          clear HA HB HC HP HL hg h59
          go_wp2_with fail
          refine H1.out.mono ?_
          rintro e w1 ⟨rfl, hw1⟩
          obtain rfl : wr = w1 := hw1.symm
          go_wp2_with fail
          go_roundw
          case rel => exact ⟨k + 1, m, c3, A3, ys, by omega, by omega, by go_num, rfl, ho, by show _ = _; rw [← HB'.out]; exact HW.out, hb⟩
          case measure => simp [intOf]; omega
        | false =>
          rw [hg] at H1
          have HC' := Lib.hid (HC.out hg)
          have hp := HP.out (fun c => !gapB c) (by simp [hg])
          have hl := HL.out (fun c => !gapB c)
          have HE := Lib.hid (And.intro ho hb)
          obtain ⟨r, hr⟩ : ∃ r, r = runTo (fun c => !gapB c) src k := ⟨_, rfl⟩
          rw [← hr] at HC' hp hl
          have HRR : Hid (k + runTo (fun c => !gapB c) src k = k + r) := by show _ = _; rw [hr]
          have hc2 := HC2.out k (k + r) (by omega) (by omega)
          rw [show k + r - k = r by omega] at hc2
          have HEW : Hid (encW ((src.drop k).take r, k) = [.string (strB ((src.drop k).take r)), .int .i64 (k : Int)]) := rfl
          have HX : Hid ((ys ++ [((src.drop k).take r, k)]) ++ wordsA src (k + r) = wordsL src) := by
            show _ = _
            rw [List.append_assoc, List.singleton_append, ← HC'.out]; exact HW.out
          obtain ⟨wd, hwd⟩ : ∃ wd, wd = (src.drop k).take r := ⟨_, rfl⟩
          rw [← hwd] at hc2 HEW HX
          have m1 : Hid (m + 1 ≤ maxLen ∧ (m + 1) * 24 ≤ 140737488355328) := ⟨by simp [maxLen]; omega, by omega⟩
          have HCC := Lib.hid hc2
          clear hr HA HB HC HP HL hg h59 HC' hc2 hwd HW ho hb
          go_wp2_with fail
          refine H1.out.mono ?_
          rintro e w1 ⟨rfl, hw1⟩
          obtain rfl : wr = w1 := hw1.symm
          clear H1
          go_wp2_with fail
          go_loop [4] (fun i => ∃ j : Nat, k ≤ j ∧ j ≤ src.length ∧ i = .int .i64 (j : Int) ∧ Hid (j + runTo (fun c => !gapB c) src j = k + r)) (fun i => src.length - (intOf i).toNat)
          case atStart => exact ⟨k, Nat.le_refl _, hk, rfl, HRR.out⟩
          case round =>
            clear HRR
            obtain ⟨j, hkj, hj, rfl, HJ⟩ := hrel
            by_cases hjl : j < src.length
            · have f1 : decide ((j : Int) < (src.length : Int)) = true := by simp; omega
              have f1' : decide (j < src.length) = true := by simp; omega
              have hij := HI.out j hjl
              unfold gb at hij
              have HS1 := Lib.hid (fun h => runToR_step (p := (fun c => !gapB c)) (src := src) (i := j) hjl h)
              have HS2 := Lib.hid (fun h => runToR_stop (p := (fun c => !gapB c)) (src := src) (i := j) hjl h)
              obtain ⟨b2, hbe⟩ : ∃ b2, b2 = src.getD j 0 := ⟨_, rfl⟩
              rw [← hbe] at hij HS1 HS2
              clear hbe
              have H2 := Lib.hid (gapR_any b2 wr)
              cases hg2 : gapB b2 with
              | true =>
                rw [hg2] at H2
                have h0 := HS2.out (by simp [hg2])
                have hjr : Hid (j = k + r) := by show _ = _; have := HJ.out; omega
                have hcc := HCC.out
                rw [← hjr.out] at hcc
                have ho2 := HE.out.1
                have hB2 := HE.out.2.size
                clear HS1 HS2 h0 HJ hg2
                go_wp2_with fail
                refine H2.out.mono ?_
                rintro e w1 ⟨rfl, hw1⟩
                obtain rfl : wr = w1 := hw1.symm
                clear H2
                go_wp2_with (at_builtin; refine wpList_pushS (enc := encW) rfl (.tmp 46) (.tmp 53) rfl uWR infoWR encW_one rfl (fun _ => rfl) (by omega) rfl ho2 hB2 (wd, k) _ (congrArg List.toArray HEW.out) rfl m1.out.1 m1.out.2 ?_; intro A6 c6 w6 ho6 hb6 hg6)
                have b6 := HE.out.2.trans hb6
                go_roundw
                case rel => exact ⟨j, m + 1, c6, A6, _, hj, by have := hjr.out; omega, rfl, rfl, ho6, by show _ = _; rw [hjr.out]; exact HX.out, b6⟩
                case measure => have := hjr.out; simp [intOf]; omega
              | false =>
                rw [hg2] at H2
                have h1 := Lib.hid (HS1.out (by simp [hg2]))
                clear HS1 HS2 hg2
                go_wp2_with fail
                refine H2.out.mono ?_
                rintro e w1 ⟨rfl, hw1⟩
                obtain rfl : wr = w1 := hw1.symm
                clear H2
                go_wp2_with fail
                go_round
                case rel => exact ⟨j + 1, by omega, by omega, by go_num, by show _ = _; have := HJ.out; have := h1.out; omega⟩
                case measure => simp [intOf]; omega
            · have f1 : decide ((j : Int) < (src.length : Int)) = false := by simp; omega
              have f1' : decide (j < src.length) = false := by simp; omega
              have h0 := runToR_end (p := (fun c => !gapB c)) (src := src) (i := j) (by omega)
              have hjr : Hid (j = k + r) := by show _ = _; have := HJ.out; omega
              have hcc := HCC.out
              rw [← hjr.out] at hcc
              have ho2 := HE.out.1
              have hB2 := HE.out.2.size
              clear h0 HJ
              go_wp2_with (at_builtin; refine wpList_pushS (enc := encW) rfl (.tmp 46) (.tmp 53) rfl uWR infoWR encW_one rfl (fun _ => rfl) (by omega) rfl ho2 hB2 (wd, k) _ (congrArg List.toArray HEW.out) rfl m1.out.1 m1.out.2 ?_; intro A6 c6 w6 ho6 hb6 hg6)
              have b6 := HE.out.2.trans hb6
              go_roundw
              case rel => exact ⟨j, m + 1, c6, A6, _, hj, by have := hjr.out; omega, rfl, rfl, ho6, by show _ = _; rw [hjr.out]; exact HX.out, b6⟩
              case measure => have := hjr.out; simp [intOf]; omega
    · have e1 : decide ((k : Int) < (src.length : Int)) = false := by simp; omega
      have e1' : decide (k < src.length) = false := by simp; omega
      have HE : Hid (ys = wordsL src) := by show _ = _; rw [← HW.out, wordsA_end (by omega), List.append_nil]
      go_wp2_with fail
      go_ret
      exact ⟨_, _, _, rfl, HE.out ▸ ho, hb⟩
end Go.Proofs.YtlbhggjkcfcobaaDoor

/- slices.Sort at []byte, part 3: partitionEqualOrdered, partitionOrdered. -/
import Derived.Test.YtoodfmilleodaaaSb
import Derived.Sort.WalkC4
import Derived.Deep.CutBlock
import Derived.Deep.DeepCutAuto
namespace Go.Proofs.Ytoodfmilleodaaa
open Go.RowKit Go.Proofs Go.Sort
set_option linter.unusedVariables false
set_option linter.unusedSimpArgs false

set_option maxHeartbeats 12800000 in
set_option maxRecDepth 100000 in
theorem partitionEqual_any (blk off cap a b pivot : Nat) (d : Array UInt8) (w : World) (hA : Arr w w blk off d) (hap : a ≤ pivot) (hpb : pivot < b) (hb : b ≤ d.size) (hsz : d.size < 4611686018427387904) :
    Calls Try.prog 95 #[.slice (some ⟨blk, off, none⟩) d.size cap, .int .i64 a, .int .i64 b, .int .i64 pivot] w fun e w' => e = .returned (.int .i64 (partitionEqual ltU d a b pivot).1) ∧ Arr w w' blk off (partitionEqual ltU d a b pivot).2 := by
  have HS0 := Lib.hid (rfl : d.size = d.size)
  have HS : Hid (d.size = d.size) := HS0
  have HA0 := Lib.hid hA
  clear hA
  go_enter Try.func95, Try.ntmps95
  go_upto_region 1 with fail
  go_cut []  (fun wx => Arr w wx blk off (swp d a pivot))
  case first =>
    have HX := Lib.hid (HA0.out.swp (i := a) (j := pivot) (by have := HS.out; omega) (by have := HS.out; omega))
    by_cases heq : a = pivot
    · subst heq
      have c1 := HA0.out.cell (t := a) (by have := HS.out; omega)
      have f1 := HA0.out.frozen (t := a) (by have := HS.out; omega)
      go_region
      all_goals
        go_wp2_with fail
        go_meet
        exact HX.out.drewN 1
    · have c1 := HA0.out.cell (t := a) (by have := HS.out; omega)
      have c2 := HA0.out.cell (t := pivot) (by have := HS.out; omega)
      have f1 := HA0.out.frozen (t := a) (by have := HS.out; omega)
      have f2 := HA0.out.frozen (t := pivot) (by have := HS.out; omega)
      go_region
      all_goals
        go_wp2_with fail
        go_meet
        exact HX.out.drewN 1
  case rest =>
    have HA1 := Lib.hid hcut
    clear hcut
    obtain ⟨ds, hds⟩ : ∃ ds, ds = swp d a pivot := ⟨_, rfl⟩
    have HSS : Hid (ds.size = d.size) := by show _ = _; rw [hds, size_swp]
    have HD := Lib.hid hds
    rw [← hds] at HA1
    clear hds HA0
    go_wp2_with fail
    go_loopw [9, 10] (fun s9 s10 wr => ∃ (i j : Nat) (dk : Array UInt8), s9 = .int .i64 i ∧ s10 = .int .i64 j ∧ a < i ∧ i ≤ j + 1 ∧ j < b ∧ dk.size = d.size ∧ Arr w wr blk off dk ∧ partEqLoop ltU a i j dk = partEqLoop ltU a (a + 1) (b - 1) ds) (fun s9 s10 _ => (intOf s10).toNat + 1 - (intOf s9).toNat)
    case atStart => exact ⟨a + 1, b - 1, ds, by go_num, by congr 1; omega, by omega, by omega, by omega, HSS.out, HA1.out, rfl⟩
    case round =>
      clear HA1 HS0 HS
      obtain ⟨i, j, dk, rfl, rfl, hai, hij, hjb, hds, hAk, heq⟩ := hrel
      have HS := Lib.hid hds
      have HE := Lib.hid heq
      have HA2 := Lib.hid hAk
      clear hds heq hAk
      go_upto_block 2 with fail
      go_cut [9] from 29 to 82 (fun s wx => ∃ k : Nat, s = .int .i64 (k : Int) ∧ i ≤ k ∧ k ≤ j + 1 ∧ scanUp (fun x => !ltU dk[a]! x) dk j i = k ∧ Arr w wx blk off dk)
      case first =>
        go_wp2_with fail
        go_loopw [9] (fun s wx => ∃ k : Nat, s = .int .i64 (k : Int) ∧ i ≤ k ∧ k ≤ j + 1 ∧ scanUp (fun x => !ltU dk[a]! x) dk j i = scanUp (fun x => !ltU dk[a]! x) dk j k ∧ Arr w wx blk off dk) (fun s _ => j + 1 - (intOf s).toNat)
        case atStart => exact ⟨i, rfl, by omega, by omega, rfl, HA2.out⟩
        case round =>
          obtain ⟨k, rfl, h1, h2, h3, hAk⟩ := hrel
          have HK := Lib.hid hAk
          have HU := Lib.hid h3
          clear hAk h3
          by_cases hg : k ≤ j
          · have hgz : (k : Int) ≤ (j : Int) := by omega
            have ca := HK.out.cell (t := a) (by have := HS.out; omega)
            have ck := HK.out.cell (t := k) (by have := HS.out; omega)
            go_wp2_with fail
            go_quiet (first | (go_at_call 94; refine Calls.quiet_of_same (lessZ_any _ _ _)))
            go_wp2_with fail
            · have hb : ltZ (gA dk a) (gA dk k) = false := by
                have : (!ltZ (gA dk a) (gA dk k)) = true := by assumption
                simpa using this
              rw [← ltZ_at] at hb
              go_roundw
              case rel => exact ⟨k + 1, by go_num, by omega, by omega, by rw [HU.out, scanUp_go _ _ _ _ hg (by simp [hb])], HK.out.drewN _⟩
              case measure => (simp [intOf]) <;> omega
            · have hb : ltZ (gA dk a) (gA dk k) = true := by
                have : (!ltZ (gA dk a) (gA dk k)) = false := by assumption
                simpa using this
              rw [← ltZ_at] at hb
              go_meet
              exact ⟨k, rfl, h1, h2, by rw [HU.out, scanUp_end _ _ _ _ (Or.inr (by simp [hb]))], HK.out.drewN _⟩
          · have hgz : decide ((k : Int) ≤ (j : Int)) = false := decide_eq_false (by omega)
            go_wp2_with fail
            go_quiet (first | (go_at_call 94; refine Calls.quiet_of_same (lessZ_any _ _ _)))
            go_wp2_with fail
            go_meet
            exact ⟨k, rfl, h1, h2, by rw [HU.out, scanUp_end _ _ _ _ (Or.inl hg)], HK.out.drewN _⟩
      case rest =>
        obtain ⟨i2, rfl, hb1i2, hb2i2, hfni2, hAi2⟩ := hcut
        have HA3 := Lib.hid hAi2
        have HFi2 := Lib.hid hfni2
        clear hAi2 hfni2
        go_upto_block 4 with fail
        go_cut [10] from 29 to 82 (fun s wx => ∃ k : Nat, s = .int .i64 (k : Int) ∧ i2 ≤ k + 1 ∧ k ≤ j ∧ scanDown (fun x => ltU dk[a]! x) dk i2 j = k ∧ Arr w wx blk off dk)
        case first =>
          go_wp2_with fail
          go_loopw [10] (fun s wx => ∃ k : Nat, s = .int .i64 (k : Int) ∧ i2 ≤ k + 1 ∧ k ≤ j ∧ scanDown (fun x => ltU dk[a]! x) dk i2 j = scanDown (fun x => ltU dk[a]! x) dk i2 k ∧ Arr w wx blk off dk) (fun s _ => (intOf s).toNat)
          case atStart => exact ⟨j, rfl, by omega, by omega, rfl, HA3.out⟩
          case round =>
            obtain ⟨k, rfl, h1, h2, h3, hAk⟩ := hrel
            have HK := Lib.hid hAk
            have HU := Lib.hid h3
            clear hAk h3
            by_cases hg : i2 ≤ k
            · have hgz : (i2 : Int) ≤ (k : Int) := by omega
              have ca := HK.out.cell (t := a) (by have := HS.out; omega)
              have ck := HK.out.cell (t := k) (by have := HS.out; omega)
              go_wp2_with fail
              go_quiet (first | (go_at_call 94; refine Calls.quiet_of_same (lessZ_any _ _ _)))
              go_wp2_with fail
              · have hb : ltZ (gA dk a) (gA dk k) = true := by assumption
                rw [← ltZ_at] at hb
                go_roundw
                case rel => exact ⟨k - 1, by congr 1; omega, by omega, by omega, by rw [HU.out, scanDown_go _ _ _ _ hg (by omega) (by simp [hb])], HK.out.drewN _⟩
                case measure => (simp [intOf]) <;> omega
              · have hb : ltZ (gA dk a) (gA dk k) = false := by assumption
                rw [← ltZ_at] at hb
                go_meet
                exact ⟨k, rfl, h1, h2, by rw [HU.out, scanDown_end _ _ _ _ (Or.inr (by simp [hb]))], HK.out.drewN _⟩
            · have hgz : decide ((i2 : Int) ≤ (k : Int)) = false := decide_eq_false (by omega)
              go_wp2_with fail
              go_quiet (first | (go_at_call 94; refine Calls.quiet_of_same (lessZ_any _ _ _)))
              go_wp2_with fail
              go_meet
              exact ⟨k, rfl, h1, h2, by rw [HU.out, scanDown_end _ _ _ _ (Or.inl hg)], HK.out.drewN _⟩
        case rest =>
          obtain ⟨j2, rfl, hb1j2, hb2j2, hfnj2, hAj2⟩ := hcut
          have HA4 := Lib.hid hAj2
          have HFj2 := Lib.hid hfnj2
          clear hAj2 hfnj2
          have hpe := HE.out
          by_cases hgt : j2 < i2
          · have hgz : (j2 : Int) < (i2 : Int) := by omega
            rw [partEq_break ltU a i j dk HFi2.out.symm (by rw [← HFj2.out]) hgt] at hpe
            have HP := Lib.hid hpe; clear hpe
            go_wp2_with fail
            go_ret
            have e : partitionEqual ltU d a b pivot = (i2, dk) := by unfold partitionEqual; rw [← HD.out]; exact HP.out.symm
            rw [e]
            exact ⟨rfl, HA4.out⟩
          · have hgz : ¬ ((j2 : Int) < (i2 : Int)) := by omega
            have hlt := scans_lt ltU a i j dk (by omega) HFi2.out.symm (by rw [← HFj2.out]) (by omega : i2 ≤ j2)
            rw [partEq_go ltU a i j dk HFi2.out.symm (by rw [← HFj2.out]) hgt] at hpe
            have HP := Lib.hid hpe; clear hpe
            have HX := Lib.hid (HA4.out.swp (i := i2) (j := j2) (by have := HS.out; omega) (by have := HS.out; omega))
            have c1 := HA4.out.cell (t := i2) (by have := HS.out; omega)
            have c2 := HA4.out.cell (t := j2) (by have := HS.out; omega)
            have f1 := HA4.out.frozen (t := i2) (by have := HS.out; omega)
            have f2 := HA4.out.frozen (t := j2) (by have := HS.out; omega)
            go_wp2_with fail
            go_region
            all_goals
              go_wp2_with fail
              go_roundw
              case rel => exact ⟨i2 + 1, j2 - 1, swp dk i2 j2, by go_num, by congr 1; omega, by omega, by omega, by omega, by rw [size_swp]; exact HS.out, HX.out.drewN 1, HP.out⟩
              case measure => (simp [intOf]) <;> omega

set_option maxHeartbeats 12800000 in
set_option maxRecDepth 100000 in
theorem partition_any (blk off cap a b pivot : Nat) (d : Array UInt8) (w : World) (hA : Arr w w blk off d) (hap : a ≤ pivot) (hpb : pivot < b) (hb : b ≤ d.size) (hsz : d.size < 4611686018427387904) :
    Calls Try.prog 96 #[.slice (some ⟨blk, off, none⟩) d.size cap, .int .i64 a, .int .i64 b, .int .i64 pivot] w fun e w' => e = .returned (.tuple #[.int .i64 (partition ltU d a b pivot).1, .bool (partition ltU d a b pivot).2.1]) ∧ Arr w w' blk off (partition ltU d a b pivot).2.2 := by
  have HS0 := Lib.hid (rfl : d.size = d.size)
  have HS : Hid (d.size = d.size) := HS0
  have HA0 := Lib.hid hA
  clear hA
  go_enter Try.func96, Try.ntmps96
  go_upto_region 1 with fail
  go_cut []  (fun wx => Arr w wx blk off (swp d a pivot))
  case first =>
    have HX := Lib.hid (HA0.out.swp (i := a) (j := pivot) (by have := HS.out; omega) (by have := HS.out; omega))
    by_cases heq : a = pivot
    · subst heq
      have c1 := HA0.out.cell (t := a) (by have := HS.out; omega)
      have f1 := HA0.out.frozen (t := a) (by have := HS.out; omega)
      go_region
      all_goals
        go_wp2_with fail
        go_meet
        exact HX.out.drewN 1
    · have c1 := HA0.out.cell (t := a) (by have := HS.out; omega)
      have c2 := HA0.out.cell (t := pivot) (by have := HS.out; omega)
      have f1 := HA0.out.frozen (t := a) (by have := HS.out; omega)
      have f2 := HA0.out.frozen (t := pivot) (by have := HS.out; omega)
      go_region
      all_goals
        go_wp2_with fail
        go_meet
        exact HX.out.drewN 1
  case rest =>
    have HA1 := Lib.hid hcut
    clear hcut
    obtain ⟨dk, hdk⟩ : ∃ dk, dk = swp d a pivot := ⟨_, rfl⟩
    have HSS : Hid (dk.size = d.size) := by show _ = _; rw [hdk, size_swp]
    have HD := Lib.hid hdk
    rw [← hdk] at HA1
    clear hdk HA0 HS0 HS
    have HS := HSS
    clear HSS
    obtain ⟨i, hi⟩ : ∃ i, i = a + 1 := ⟨_, rfl⟩
    obtain ⟨j, hj⟩ : ∃ j, j = b - 1 := ⟨_, rfl⟩
    have hai : a < i := by omega
    have hij : i ≤ j + 1 := by omega
    have hjb : j < b := by omega
    have ei : (a : Int) + 1 = (i : Int) := by omega
    have ej : (b : Int) - 1 = (j : Int) := by omega
    have Hi := Lib.hid hi
    have Hj := Lib.hid hj
    clear hi hj
    go_upto_block 0 with fail
    go_cut [10]  (fun s wx => ∃ k : Nat, s = .int .i64 (k : Int) ∧ i ≤ k ∧ k ≤ j + 1 ∧ scanUp (fun x => ltU x dk[a]!) dk j i = k ∧ Arr w wx blk off dk)
    case first =>
      go_wp2_with fail
      go_loopw [10] (fun s wx => ∃ k : Nat, s = .int .i64 (k : Int) ∧ i ≤ k ∧ k ≤ j + 1 ∧ scanUp (fun x => ltU x dk[a]!) dk j i = scanUp (fun x => ltU x dk[a]!) dk j k ∧ Arr w wx blk off dk) (fun s _ => j + 1 - (intOf s).toNat)
      case atStart => exact ⟨i, rfl, by omega, by omega, rfl, HA1.out⟩
      case round =>
        obtain ⟨k, rfl, h1, h2, h3, hAk⟩ := hrel
        have HK := Lib.hid hAk
        have HU := Lib.hid h3
        clear hAk h3
        by_cases hg : k ≤ j
        · have hgz : (k : Int) ≤ (j : Int) := by omega
          have ca := HK.out.cell (t := a) (by have := HS.out; omega)
          have ck := HK.out.cell (t := k) (by have := HS.out; omega)
          go_wp2_with fail
          go_quiet (first | (go_at_call 94; refine Calls.quiet_of_same (lessZ_any _ _ _)))
          go_wp2_with fail
          · have hb : ltZ (gA dk k) (gA dk a) = true := by assumption
            rw [← ltZ_at] at hb
            go_roundw
            case rel => exact ⟨k + 1, by go_num, by omega, by omega, by rw [HU.out, scanUp_go _ _ _ _ hg (by simp [hb])], HK.out.drewN _⟩
            case measure => (simp [intOf]) <;> omega
          · have hb : ltZ (gA dk k) (gA dk a) = false := by assumption
            rw [← ltZ_at] at hb
            go_meet
            exact ⟨k, rfl, h1, h2, by rw [HU.out, scanUp_end _ _ _ _ (Or.inr (by simp [hb]))], HK.out.drewN _⟩
        · have hgz : decide ((k : Int) ≤ (j : Int)) = false := decide_eq_false (by omega)
          go_wp2_with fail
          go_quiet (first | (go_at_call 94; refine Calls.quiet_of_same (lessZ_any _ _ _)))
          go_wp2_with fail
          go_meet
          exact ⟨k, rfl, h1, h2, by rw [HU.out, scanUp_end _ _ _ _ (Or.inl hg)], HK.out.drewN _⟩
    case rest =>
      obtain ⟨i2, rfl, hb1i2, hb2i2, hfni2, hAi2⟩ := hcut
      have HA3 := Lib.hid hAi2
      have HFi2 := Lib.hid hfni2
      clear hAi2 hfni2
      go_upto_block 2 with fail
      go_cut [11]  (fun s wx => ∃ k : Nat, s = .int .i64 (k : Int) ∧ i2 ≤ k + 1 ∧ k ≤ j ∧ scanDown (fun x => !ltU x dk[a]!) dk i2 j = k ∧ Arr w wx blk off dk)
      case first =>
        go_wp2_with fail
        go_loopw [11] (fun s wx => ∃ k : Nat, s = .int .i64 (k : Int) ∧ i2 ≤ k + 1 ∧ k ≤ j ∧ scanDown (fun x => !ltU x dk[a]!) dk i2 j = scanDown (fun x => !ltU x dk[a]!) dk i2 k ∧ Arr w wx blk off dk) (fun s _ => (intOf s).toNat)
        case atStart => exact ⟨j, rfl, by omega, by omega, rfl, HA3.out⟩
        case round =>
          obtain ⟨k, rfl, h1, h2, h3, hAk⟩ := hrel
          have HK := Lib.hid hAk
          have HU := Lib.hid h3
          clear hAk h3
          by_cases hg : i2 ≤ k
          · have hgz : (i2 : Int) ≤ (k : Int) := by omega
            have ca := HK.out.cell (t := a) (by have := HS.out; omega)
            have ck := HK.out.cell (t := k) (by have := HS.out; omega)
            go_wp2_with fail
            go_quiet (first | (go_at_call 94; refine Calls.quiet_of_same (lessZ_any _ _ _)))
            go_wp2_with fail
            · have hb : ltZ (gA dk k) (gA dk a) = false := by
                have : (!ltZ (gA dk k) (gA dk a)) = true := by assumption
                simpa using this
              rw [← ltZ_at] at hb
              go_roundw
              case rel => exact ⟨k - 1, by congr 1; omega, by omega, by omega, by rw [HU.out, scanDown_go _ _ _ _ hg (by omega) (by simp [hb])], HK.out.drewN _⟩
              case measure => (simp [intOf]) <;> omega
            · have hb : ltZ (gA dk k) (gA dk a) = true := by
                have : (!ltZ (gA dk k) (gA dk a)) = false := by assumption
                simpa using this
              rw [← ltZ_at] at hb
              go_meet
              exact ⟨k, rfl, h1, h2, by rw [HU.out, scanDown_end _ _ _ _ (Or.inr (by simp [hb]))], HK.out.drewN _⟩
          · have hgz : decide ((i2 : Int) ≤ (k : Int)) = false := decide_eq_false (by omega)
            go_wp2_with fail
            go_quiet (first | (go_at_call 94; refine Calls.quiet_of_same (lessZ_any _ _ _)))
            go_wp2_with fail
            go_meet
            exact ⟨k, rfl, h1, h2, by rw [HU.out, scanDown_end _ _ _ _ (Or.inl hg)], HK.out.drewN _⟩
      case rest =>
        obtain ⟨j2, rfl, hb1j2, hb2j2, hfnj2, hAj2⟩ := hcut
        have HA4 := Lib.hid hAj2
        have HFj2 := Lib.hid hfnj2
        clear hAj2 hfnj2
        by_cases hgt : j2 < i2
        · have hgz : (j2 : Int) < (i2 : Int) := by omega
          have hp := part_first_break ltU d a b pivot Hi.out Hj.out HD.out HFi2.out.symm (by rw [← HFj2.out]) hgt
          have HP := Lib.hid hp; clear hp
          go_wp2_with fail
          have HX := Lib.hid (HA4.out.swp (i := j2) (j := a) (by have := HS.out; omega) (by have := HS.out; omega))
          by_cases heq : j2 = a
          · subst heq
            have c1 := HA4.out.cell (t := j2) (by have := HS.out; omega)
            have f1 := HA4.out.frozen (t := j2) (by have := HS.out; omega)
            go_region
            all_goals
              go_wp2_with fail
              go_ret2
              rw [HP.out]
              exact ⟨rfl, HX.out.drewN 1⟩
          · have c1 := HA4.out.cell (t := j2) (by have := HS.out; omega)
            have c2 := HA4.out.cell (t := a) (by have := HS.out; omega)
            have f1 := HA4.out.frozen (t := j2) (by have := HS.out; omega)
            have f2 := HA4.out.frozen (t := a) (by have := HS.out; omega)
            go_region
            all_goals
              go_wp2_with fail
              go_ret2
              rw [HP.out]
              exact ⟨rfl, HX.out.drewN 1⟩
        · have hgz : ¬ ((j2 : Int) < (i2 : Int)) := by omega
          have hlt := part_scans_lt ltU a i j dk (by omega) HFi2.out.symm (by rw [← HFj2.out]) (by omega : i2 ≤ j2)
          have hp := part_first_go ltU d a b pivot Hi.out Hj.out HD.out HFi2.out.symm (by rw [← HFj2.out]) hgt
          have HP := Lib.hid hp; clear hp
          have HX := Lib.hid (HA4.out.swp (i := i2) (j := j2) (by have := HS.out; omega) (by have := HS.out; omega))
          have c1 := HA4.out.cell (t := i2) (by have := HS.out; omega)
          have c2 := HA4.out.cell (t := j2) (by have := HS.out; omega)
          have f1 := HA4.out.frozen (t := i2) (by have := HS.out; omega)
          have f2 := HA4.out.frozen (t := j2) (by have := HS.out; omega)
          go_wp2_with fail
          go_region
          clear c1 c2 f1 f2
          go_wp2_with fail
          obtain ⟨ds, hds⟩ : ∃ ds, ds = swp dk i2 j2 := ⟨_, rfl⟩
          have HSS : Hid (ds.size = d.size) := by show _ = _; rw [hds, size_swp]; exact HS.out
          rw [← hds] at HP HX
          clear hds
          have HX2 := Lib.hid (HX.out.drewN 1)
          go_loopw [10, 11] (fun s9 s10 wr => ∃ (i j : Nat) (dk : Array UInt8), s9 = .int .i64 i ∧ s10 = .int .i64 j ∧ a < i ∧ i ≤ j + 1 ∧ j < b ∧ dk.size = d.size ∧ Arr w wr blk off dk ∧ partLoop ltU a i j dk = partLoop ltU a (i2 + 1) (j2 - 1) ds) (fun s9 s10 _ => (intOf s10).toNat + 1 - (intOf s9).toNat)
          case atStart => exact ⟨i2 + 1, j2 - 1, ds, by go_num, by congr 1; omega, by omega, by omega, by omega, HSS.out, HX2.out, rfl⟩
          case round =>
            clear HX HX2 HA1 HA3 HA4 HS HFi2 HFj2 hai hij hjb ei ej Hi Hj HSS HD
            obtain ⟨i, j, dk, rfl, rfl, hai, hij, hjb, hds, hAk, heq⟩ := hrel
            have HS := Lib.hid hds
            have HE := Lib.hid heq
            have HA2 := Lib.hid hAk
            clear hds heq hAk
            go_upto_block 6 with fail
            go_cut [10] from 99 to 152 (fun s wx => ∃ k : Nat, s = .int .i64 (k : Int) ∧ i ≤ k ∧ k ≤ j + 1 ∧ scanUp (fun x => ltU x dk[a]!) dk j i = k ∧ Arr w wx blk off dk)
            case first =>
              go_wp2_with fail
              go_loopw [10] (fun s wx => ∃ k : Nat, s = .int .i64 (k : Int) ∧ i ≤ k ∧ k ≤ j + 1 ∧ scanUp (fun x => ltU x dk[a]!) dk j i = scanUp (fun x => ltU x dk[a]!) dk j k ∧ Arr w wx blk off dk) (fun s _ => j + 1 - (intOf s).toNat)
              case atStart => exact ⟨i, rfl, by omega, by omega, rfl, HA2.out⟩
              case round =>
                obtain ⟨k, rfl, h1, h2, h3, hAk⟩ := hrel
                have HK := Lib.hid hAk
                have HU := Lib.hid h3
                clear hAk h3
                by_cases hg : k ≤ j
                · have hgz : (k : Int) ≤ (j : Int) := by omega
                  have ca := HK.out.cell (t := a) (by have := HS.out; omega)
                  have ck := HK.out.cell (t := k) (by have := HS.out; omega)
                  go_wp2_with fail
                  go_quiet (first | (go_at_call 94; refine Calls.quiet_of_same (lessZ_any _ _ _)))
                  go_wp2_with fail
                  · have hb : ltZ (gA dk k) (gA dk a) = true := by assumption
                    rw [← ltZ_at] at hb
                    go_roundw
                    case rel => exact ⟨k + 1, by go_num, by omega, by omega, by rw [HU.out, scanUp_go _ _ _ _ hg (by simp [hb])], HK.out.drewN _⟩
                    case measure => (simp [intOf]) <;> omega
                  · have hb : ltZ (gA dk k) (gA dk a) = false := by assumption
                    rw [← ltZ_at] at hb
                    go_meet
                    exact ⟨k, rfl, h1, h2, by rw [HU.out, scanUp_end _ _ _ _ (Or.inr (by simp [hb]))], HK.out.drewN _⟩
                · have hgz : decide ((k : Int) ≤ (j : Int)) = false := decide_eq_false (by omega)
                  go_wp2_with fail
                  go_quiet (first | (go_at_call 94; refine Calls.quiet_of_same (lessZ_any _ _ _)))
                  go_wp2_with fail
                  go_meet
                  exact ⟨k, rfl, h1, h2, by rw [HU.out, scanUp_end _ _ _ _ (Or.inl hg)], HK.out.drewN _⟩
            case rest =>
              obtain ⟨i3, rfl, hb1i3, hb2i3, hfni3, hAi3⟩ := hcut
              have HA5 := Lib.hid hAi3
              have HFi3 := Lib.hid hfni3
              clear hAi3 hfni3
              go_upto_block 8 with fail
              go_cut [11] from 99 to 152 (fun s wx => ∃ k : Nat, s = .int .i64 (k : Int) ∧ i3 ≤ k + 1 ∧ k ≤ j ∧ scanDown (fun x => !ltU x dk[a]!) dk i3 j = k ∧ Arr w wx blk off dk)
              case first =>
                go_wp2_with fail
                go_loopw [11] (fun s wx => ∃ k : Nat, s = .int .i64 (k : Int) ∧ i3 ≤ k + 1 ∧ k ≤ j ∧ scanDown (fun x => !ltU x dk[a]!) dk i3 j = scanDown (fun x => !ltU x dk[a]!) dk i3 k ∧ Arr w wx blk off dk) (fun s _ => (intOf s).toNat)
                case atStart => exact ⟨j, rfl, by omega, by omega, rfl, HA5.out⟩
                case round =>
                  obtain ⟨k, rfl, h1, h2, h3, hAk⟩ := hrel
                  have HK := Lib.hid hAk
                  have HU := Lib.hid h3
                  clear hAk h3
                  by_cases hg : i3 ≤ k
                  · have hgz : (i3 : Int) ≤ (k : Int) := by omega
                    have ca := HK.out.cell (t := a) (by have := HS.out; omega)
                    have ck := HK.out.cell (t := k) (by have := HS.out; omega)
                    go_wp2_with fail
                    go_quiet (first | (go_at_call 94; refine Calls.quiet_of_same (lessZ_any _ _ _)))
                    go_wp2_with fail
                    · have hb : ltZ (gA dk k) (gA dk a) = false := by
                        have : (!ltZ (gA dk k) (gA dk a)) = true := by assumption
                        simpa using this
                      rw [← ltZ_at] at hb
                      go_roundw
                      case rel => exact ⟨k - 1, by congr 1; omega, by omega, by omega, by rw [HU.out, scanDown_go _ _ _ _ hg (by omega) (by simp [hb])], HK.out.drewN _⟩
                      case measure => (simp [intOf]) <;> omega
                    · have hb : ltZ (gA dk k) (gA dk a) = true := by
                        have : (!ltZ (gA dk k) (gA dk a)) = false := by assumption
                        simpa using this
                      rw [← ltZ_at] at hb
                      go_meet
                      exact ⟨k, rfl, h1, h2, by rw [HU.out, scanDown_end _ _ _ _ (Or.inr (by simp [hb]))], HK.out.drewN _⟩
                  · have hgz : decide ((i3 : Int) ≤ (k : Int)) = false := decide_eq_false (by omega)
                    go_wp2_with fail
                    go_quiet (first | (go_at_call 94; refine Calls.quiet_of_same (lessZ_any _ _ _)))
                    go_wp2_with fail
                    go_meet
                    exact ⟨k, rfl, h1, h2, by rw [HU.out, scanDown_end _ _ _ _ (Or.inl hg)], HK.out.drewN _⟩
              case rest =>
                obtain ⟨j3, rfl, hb1j3, hb2j3, hfnj3, hAj3⟩ := hcut
                have HA6 := Lib.hid hAj3
                have HFj3 := Lib.hid hfnj3
                clear hAj3 hfnj3
                have hpe := HE.out
                by_cases hgt3 : j3 < i3
                · have hgz3 : (j3 : Int) < (i3 : Int) := by omega
                  rw [part_break ltU a i j dk HFi3.out.symm (by rw [← HFj3.out]) hgt3] at hpe
                  have HPE := Lib.hid hpe; clear hpe
                  have HFIN : Hid (partition ltU d a b pivot = (j3, false, swp dk j3 a)) := by show _ = _; rw [HP.out, ← HPE.out]
                  go_wp2_with fail
                  have HX := Lib.hid (HA6.out.swp (i := j3) (j := a) (by have := HS.out; omega) (by have := HS.out; omega))
                  by_cases heq : j3 = a
                  · subst heq
                    have c1 := HA6.out.cell (t := j3) (by have := HS.out; omega)
                    have f1 := HA6.out.frozen (t := j3) (by have := HS.out; omega)
                    go_region
                    all_goals
                      go_wp2_with fail
                      go_ret2
                      rw [HFIN.out]
                      exact ⟨rfl, HX.out.drewN 1⟩
                  · have c1 := HA6.out.cell (t := j3) (by have := HS.out; omega)
                    have c2 := HA6.out.cell (t := a) (by have := HS.out; omega)
                    have f1 := HA6.out.frozen (t := j3) (by have := HS.out; omega)
                    have f2 := HA6.out.frozen (t := a) (by have := HS.out; omega)
                    go_region
                    all_goals
                      go_wp2_with fail
                      go_ret2
                      rw [HFIN.out]
                      exact ⟨rfl, HX.out.drewN 1⟩
                · have hgz3 : ¬ ((j3 : Int) < (i3 : Int)) := by omega
                  have hlt3 := part_scans_lt ltU a i j dk (by omega) HFi3.out.symm (by rw [← HFj3.out]) (by omega : i3 ≤ j3)
                  rw [part_go ltU a i j dk HFi3.out.symm (by rw [← HFj3.out]) hgt3] at hpe
                  have HPE := Lib.hid hpe; clear hpe
                  have HX := Lib.hid (HA6.out.swp (i := i3) (j := j3) (by have := HS.out; omega) (by have := HS.out; omega))
                  have c1 := HA6.out.cell (t := i3) (by have := HS.out; omega)
                  have c2 := HA6.out.cell (t := j3) (by have := HS.out; omega)
                  have f1 := HA6.out.frozen (t := i3) (by have := HS.out; omega)
                  have f2 := HA6.out.frozen (t := j3) (by have := HS.out; omega)
                  go_wp2_with fail
                  go_region
                  all_goals
                    go_wp2_with fail
                    go_roundw
                    case rel => exact ⟨i3 + 1, j3 - 1, swp dk i3 j3, by go_num, by congr 1; omega, by omega, by omega, by omega, by rw [size_swp]; exact HS.out, HX.out.drewN 1, HPE.out⟩
                    case measure => (simp [intOf]) <;> omega
end Go.Proofs.Ytoodfmilleodaaa

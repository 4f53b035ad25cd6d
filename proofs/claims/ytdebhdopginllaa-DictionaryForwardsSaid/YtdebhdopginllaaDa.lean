/- Walks of the dictionary's leaves: letter (both), run, pieces. -/
import Derived.Test.YtdebhdopginllaaProg
import Derived.Test.YtdebhdopginllaaDs
import Derived.Test.YtdebhdopginllaaRf
import Derived.WalkLawsBesides
import Derived.Sort.QuietIn
import Derived.Sort.CutIn
namespace Go.Proofs.Ytdebhdopginllaa
open Go.RowKit Go.Proofs
set_option linter.unusedVariables false
attribute [local go_sem] Oper.semAt_some

theorem tB : Try.prog.underlying 22 = some (.slice (Try.prog.elem 22)) := by kernel_rfl
theorem eB : Try.prog.elem 22 = 5 := by kernel_rfl
theorem sB : ∀ W : World, (sizeOf 5).run Try.prog W = .ok 1 W := fun _ => by kernel_rfl
theorem uB : Try.prog.underlying 22 = some (.slice 5) := by kernel_rfl
theorem u8 : Try.prog.underlying 5 = some (.int .u8) := by kernel_rfl
theorem uS : Try.prog.underlying 9 = some .string := by kernel_rfl

set_option maxHeartbeats 400000 in
theorem letter_any (x : Int) (w : World) : Calls Try.prog 55 #[.int .u8 x] w fun e w' => e = .returned (.bool (letterI x)) ∧ w' = w := by
  by_cases h1 : 97 ≤ x
  · by_cases h2 : x ≤ 122
    · have hfin : Hid (letterI x = true) := by show _ = _; simp [letterI, h1, h2]
      have d1 : decide (97 ≤ x) = true := by simpa using h1
      have d2 : decide (x ≤ 122) = true := by simpa using h2
      go_enter Try.func55, Try.ntmps55
      go_wp2
      go_ret
      exact ⟨ret_bool hfin.out.symm, rfl⟩
    · have hfin : Hid (letterI x = false) := by show _ = _; simp [letterI, h1, h2]; omega
      have d1 : decide (97 ≤ x) = true := by simpa using h1
      have d2 : decide (x ≤ 122) = false := by simpa using h2
      have d3 : decide (65 ≤ x) = true := by simp; omega
      have d4 : decide (x ≤ 90) = false := by simp; omega
      go_enter Try.func55, Try.ntmps55
      go_wp2
      go_ret
      exact ⟨ret_bool hfin.out.symm, rfl⟩
  · have d1 : decide (97 ≤ x) = false := by simpa using h1
    by_cases h3 : 65 ≤ x
    · have hfin : Hid (letterI x = decide (x ≤ 90)) := by show _ = _; simp [letterI, h1, h3]
      have d3 : decide (65 ≤ x) = true := by simpa using h3
      go_enter Try.func55, Try.ntmps55
      go_wp2
      go_ret
      exact ⟨ret_bool hfin.out.symm, rfl⟩
    · have hfin : Hid (letterI x = false) := by show _ = _; simp [letterI, h1, h3]
      have d3 : decide (65 ≤ x) = false := by simpa using h3
      go_enter Try.func55, Try.ntmps55
      go_wp2
      go_ret
      exact ⟨ret_bool hfin.out.symm, rfl⟩

set_option maxHeartbeats 400000 in
theorem letterR_any (x : Int) (w : World) : Calls Try.prog 63 #[.int .u8 x] w fun e w' => e = .returned (.bool (letterI x)) ∧ w' = w := by
  by_cases h1 : 97 ≤ x
  · by_cases h2 : x ≤ 122
    · have hfin : Hid (letterI x = true) := by show _ = _; simp [letterI, h1, h2]
      have d1 : decide (97 ≤ x) = true := by simpa using h1
      have d2 : decide (x ≤ 122) = true := by simpa using h2
      go_enter Try.func63, Try.ntmps63
      go_wp2
      go_ret
      exact ⟨ret_bool hfin.out.symm, rfl⟩
    · have hfin : Hid (letterI x = false) := by show _ = _; simp [letterI, h1, h2]; omega
      have d1 : decide (97 ≤ x) = true := by simpa using h1
      have d2 : decide (x ≤ 122) = false := by simpa using h2
      have d3 : decide (65 ≤ x) = true := by simp; omega
      have d4 : decide (x ≤ 90) = false := by simp; omega
      go_enter Try.func63, Try.ntmps63
      go_wp2
      go_ret
      exact ⟨ret_bool hfin.out.symm, rfl⟩
  · have d1 : decide (97 ≤ x) = false := by simpa using h1
    by_cases h3 : 65 ≤ x
    · have hfin : Hid (letterI x = decide (x ≤ 90)) := by show _ = _; simp [letterI, h1, h3]
      have d3 : decide (65 ≤ x) = true := by simpa using h3
      go_enter Try.func63, Try.ntmps63
      go_wp2
      go_ret
      exact ⟨ret_bool hfin.out.symm, rfl⟩
    · have hfin : Hid (letterI x = false) := by show _ = _; simp [letterI, h1, h3]
      have d3 : decide (65 ≤ x) = false := by simpa using h3
      go_enter Try.func63, Try.ntmps63
      go_wp2
      go_ret
      exact ⟨ret_bool hfin.out.symm, rfl⟩

set_option maxHeartbeats 400000 in
theorem run_any (A : Option Addr) (n c p : Nat) (bs : List UInt8) (w : World) (hx : Bytes w A n c bs) (hn : n ≤ 1000000000) (hp : p ≤ n) :
    Calls Try.prog 43 #[.slice A n c, .int .i64 (p : Int)] w fun e w' => e = .returned (.int .i64 ((p + runL (bs.drop p) : Nat) : Int)) ∧ w' = w := by
  have Hl := Lib.hid hx.1
  have Hr : Hid (runL (bs.drop p) ≤ n - p) := by have := runL_le (bs.drop p); rw [List.length_drop, Hl.out] at this; exact this
  obtain ⟨r, hr⟩ : ∃ r, r = runL (bs.drop p) := ⟨_, rfl⟩
  have HR := Lib.hid hr
  rw [← hr] at Hr
  rw [← hr]; clear hr
  have hrn := Hr.out
  go_enter Try.func43, Try.ntmps43
  go_wp2
  go_loop [1] (fun i => ∃ k : Nat, k ≤ r ∧ i = .int .i64 ((p + k : Nat) : Int)) (fun i => p + r - (intOf i).toNat)
  case atStart => exact ⟨0, by omega, rfl⟩
  case round =>
    obtain ⟨k, hk, rfl⟩ := hrel
    by_cases hlt : p + k < n
    · have d1 : decide (((p + k : Nat) : Int) < (n : Int)) = true := by simp; omega
      have d1' : decide ((p : Int) + (k : Int) < (n : Int)) = true := by simp; omega
      obtain ⟨b, off, rfl, -, hcell⟩ := hx.get hlt
      have c1 := hcell (p + k) hlt
      clear hcell
      by_cases hkr : k < r
      · have hle := runL_letter (bs := bs.drop p) (k := k) (by rw [← HR.out]; exact hkr)
        rw [gb_drop] at hle
        have hcal := letterR_any (gb bs (p + k)) w
        rw [hle] at hcal
        have Hcal := Lib.hid hcal; clear hcal hle
        go_wp2_with (go_at_call 63; refine Hcal.out.mono ?_; rintro e w1 ⟨rfl, hw1⟩; obtain rfl : w = w1 := hw1.symm)
        go_round
        case rel => exact ⟨k + 1, by omega, by go_num⟩
        case measure => simp [intOf]; omega
      · obtain rfl : k = r := by omega
        have hle := runL_stop (bs := bs.drop p) (by rw [← HR.out, List.length_drop, Hl.out]; omega)
        rw [← HR.out, gb_drop] at hle
        have hcal := letterR_any (gb bs (p + k)) w
        rw [hle] at hcal
        have Hcal := Lib.hid hcal; clear hcal hle
        go_wp2_with (go_at_call 63; refine Hcal.out.mono ?_; rintro e w1 ⟨rfl, hw1⟩; obtain rfl : w = w1 := hw1.symm)
        go_ret
        exact ⟨rfl, rfl⟩
    · have d1 : decide (((p + k : Nat) : Int) < (n : Int)) = false := by simp; omega
      have d1' : decide ((p : Int) + (k : Int) < (n : Int)) = false := by simp; omega
      go_wp2
      go_ret
      exact ⟨ret_int (by omega), rfl⟩
end Go.Proofs.Ytdebhdopginllaa

/- Walks of the dictionary's leaves: letter (both), run, pieces. -/
import Derived.Test.YtdebhdopginllaaDoorProg
import Derived.Test.YtdebhdopginllaaDoorDs
import Derived.Test.YtdebhdopginllaaDoorRf
import Derived.WalkLawsBesides
import Derived.Sort.QuietIn
import Derived.Sort.CutIn
namespace Go.Proofs.YtdebhdopginllaaDoor
open Go.RowKit Go.Proofs
set_option linter.unusedVariables false
attribute [local go_sem] Oper.semAt_some

theorem tB : Tryd.prog.underlying 22 = some (.slice (Tryd.prog.elem 22)) := by kernel_rfl
theorem eB : Tryd.prog.elem 22 = 5 := by kernel_rfl
theorem sB : ∀ W : World, (sizeOf 5).run Tryd.prog W = .ok 1 W := fun _ => by kernel_rfl
theorem uB : Tryd.prog.underlying 22 = some (.slice 5) := by kernel_rfl
theorem u8 : Tryd.prog.underlying 5 = some (.int .u8) := by kernel_rfl
theorem uS : Tryd.prog.underlying 9 = some .string := by kernel_rfl

set_option maxHeartbeats 400000 in
theorem letter_any (x : Int) (w : World) : Calls Tryd.prog 33 #[.int .u8 x] w fun e w' => e = .returned (.bool (letterI x)) ∧ w' = w := by
  by_cases h1 : 97 ≤ x
  · by_cases h2 : x ≤ 122
    · have hfin : Hid (letterI x = true) := by show _ = _; simp [letterI, h1, h2]
      have d1 : decide (97 ≤ x) = true := by simpa using h1
      have d2 : decide (x ≤ 122) = true := by simpa using h2
      go_enter Tryd.func33, Tryd.ntmps33
      go_wp2
      go_ret
      exact ⟨ret_bool hfin.out.symm, rfl⟩
    · have hfin : Hid (letterI x = false) := by show _ = _; simp [letterI, h1, h2]; omega
      have d1 : decide (97 ≤ x) = true := by simpa using h1
      have d2 : decide (x ≤ 122) = false := by simpa using h2
      have d3 : decide (65 ≤ x) = true := by simp; omega
      have d4 : decide (x ≤ 90) = false := by simp; omega
      go_enter Tryd.func33, Tryd.ntmps33
      go_wp2
      go_ret
      exact ⟨ret_bool hfin.out.symm, rfl⟩
  · have d1 : decide (97 ≤ x) = false := by simpa using h1
    by_cases h3 : 65 ≤ x
    · have hfin : Hid (letterI x = decide (x ≤ 90)) := by show _ = _; simp [letterI, h1, h3]
      have d3 : decide (65 ≤ x) = true := by simpa using h3
      go_enter Tryd.func33, Tryd.ntmps33
      go_wp2
      go_ret
      exact ⟨ret_bool hfin.out.symm, rfl⟩
    · have hfin : Hid (letterI x = false) := by show _ = _; simp [letterI, h1, h3]
      have d3 : decide (65 ≤ x) = false := by simpa using h3
      go_enter Tryd.func33, Tryd.ntmps33
      go_wp2
      go_ret
      exact ⟨ret_bool hfin.out.symm, rfl⟩

end Go.Proofs.YtdebhdopginllaaDoor

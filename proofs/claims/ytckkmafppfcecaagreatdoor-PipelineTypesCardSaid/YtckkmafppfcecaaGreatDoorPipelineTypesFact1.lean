/- The closed facts of the row of PipelineTypes, part 2. -/
import Derived.Test.YtckkmafppfcecaaGreatDoorRows
import Derived.JoinedCond
import Derived.WalkKit
import Derived.KernelRfl
namespace Go.Proofs.YtckkmafppfcecaaGreatDoor.pipelineTypes
set_option linter.unusedVariables false

theorem kf7 : ((Rows.pipelineTypesRow.knobs == [])) = true := by kernel_rfl
theorem kf8 : ((Tryz.prog.stopKnobs == [])) = true := by kernel_rfl
theorem kf9 : ((Rows.pipelineTypesRow.inPlace == Tryz.prog.inPlace 5)) = true := by kernel_rfl
theorem kf10 : ((Rows.pipelineTypesRow.unfollowed == Tryz.prog.unfollowed 5)) = true := by kernel_rfl
theorem kf11 : ((Rows.pipelineTypesRow.recurses == Tryz.prog.recurses 5)) = true := by kernel_rfl
end Go.Proofs.YtckkmafppfcecaaGreatDoor.pipelineTypes

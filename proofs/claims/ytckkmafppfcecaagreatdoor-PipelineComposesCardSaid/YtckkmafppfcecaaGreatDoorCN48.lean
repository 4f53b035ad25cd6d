/- PipelineComposesFact1. -/
import Derived.Test.YtckkmafppfcecaaGreatDoorRows
import Derived.JoinedCond
import Derived.WalkKit
import Derived.KernelRfl
/- The closed facts of the row of PipelineComposes, part 2. -/
namespace Go.Proofs.YtckkmafppfcecaaGreatDoor.pipelineComposes
set_option linter.unusedVariables false

theorem kf7 : ((Rows.pipelineComposesRow.knobs == [])) = true := by kernel_rfl
theorem kf8 : ((Tryz.prog.stopKnobs == [])) = true := by kernel_rfl
theorem kf9 : ((Rows.pipelineComposesRow.inPlace == Tryz.prog.inPlace 4)) = true := by kernel_rfl
theorem kf10 : ((Rows.pipelineComposesRow.unfollowed == Tryz.prog.unfollowed 4)) = true := by kernel_rfl
theorem kf11 : ((Rows.pipelineComposesRow.recurses == Tryz.prog.recurses 4)) = true := by kernel_rfl
end Go.Proofs.YtckkmafppfcecaaGreatDoor.pipelineComposes

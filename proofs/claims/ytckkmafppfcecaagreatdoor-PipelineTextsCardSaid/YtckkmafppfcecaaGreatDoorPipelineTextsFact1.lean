/- The closed facts of the row of PipelineTexts, part 2. -/
import Derived.Test.YtckkmafppfcecaaGreatDoorRows
import Derived.JoinedCond
import Derived.WalkKit
import Derived.KernelRfl
namespace Go.Proofs.YtckkmafppfcecaaGreatDoor.pipelineTexts
set_option linter.unusedVariables false

theorem kf7 : ((Rows.pipelineTextsRow.knobs == [])) = true := by kernel_rfl
theorem kf8 : ((Tryz.prog.stopKnobs == [])) = true := by kernel_rfl
theorem kf9 : ((Rows.pipelineTextsRow.inPlace == Tryz.prog.inPlace 9)) = true := by kernel_rfl
theorem kf10 : ((Rows.pipelineTextsRow.unfollowed == Tryz.prog.unfollowed 9)) = true := by kernel_rfl
theorem kf11 : ((Rows.pipelineTextsRow.recurses == Tryz.prog.recurses 9)) = true := by kernel_rfl
end Go.Proofs.YtckkmafppfcecaaGreatDoor.pipelineTexts

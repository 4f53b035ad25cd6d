/- The closed facts of the row of PipelineReads, part 2. -/
import Derived.Test.YtckkmafppfcecaaGreatDoorRows
import Derived.JoinedCond
import Derived.WalkKit
import Derived.KernelRfl
namespace Go.Proofs.YtckkmafppfcecaaGreatDoor.pipelineReads
set_option linter.unusedVariables false

theorem kf7 : ((Rows.pipelineReadsRow.knobs == [])) = true := by kernel_rfl
theorem kf8 : ((Tryz.prog.stopKnobs == [])) = true := by kernel_rfl
theorem kf9 : ((Rows.pipelineReadsRow.inPlace == Tryz.prog.inPlace 8)) = true := by kernel_rfl
theorem kf10 : ((Rows.pipelineReadsRow.unfollowed == Tryz.prog.unfollowed 8)) = true := by kernel_rfl
theorem kf11 : ((Rows.pipelineReadsRow.recurses == Tryz.prog.recurses 8)) = true := by kernel_rfl
end Go.Proofs.YtckkmafppfcecaaGreatDoor.pipelineReads

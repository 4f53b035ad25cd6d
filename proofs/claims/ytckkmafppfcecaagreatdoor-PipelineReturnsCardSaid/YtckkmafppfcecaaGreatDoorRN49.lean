/- PipelineReturnsFact1. -/
import Derived.Test.YtckkmafppfcecaaGreatDoorRows
import Derived.JoinedCond
import Derived.WalkKit
import Derived.KernelRfl
set_option maxRecDepth 100000
set_option maxHeartbeats 4000000
namespace Go.Proofs.YtckkmafppfcecaaGreatDoor.pipelineReturns
set_option linter.unusedVariables false
theorem kf7 : ((Rows.pipelineReturnsRow.knobs == [])) = true := by kernel_rfl
theorem kf8 : ((Tryz.prog.stopKnobs == [])) = true := by kernel_rfl
theorem kf9 : ((Rows.pipelineReturnsRow.inPlace == Tryz.prog.inPlace 7)) = true := by kernel_rfl
theorem kf10 : ((Rows.pipelineReturnsRow.unfollowed == Tryz.prog.unfollowed 7)) = true := by kernel_rfl
theorem kf11 : ((Rows.pipelineReturnsRow.recurses == Tryz.prog.recurses 7)) = true := by kernel_rfl
end Go.Proofs.YtckkmafppfcecaaGreatDoor.pipelineReturns

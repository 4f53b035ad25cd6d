/- PipelineReturnsFact0. -/
import Derived.Test.YtckkmafppfcecaaGreatDoorRows
import Derived.JoinedCond
import Derived.WalkKit
import Derived.KernelRfl
set_option maxRecDepth 100000
set_option maxHeartbeats 4000000
namespace Go.Proofs.YtckkmafppfcecaaGreatDoor.pipelineReturns
set_option linter.unusedVariables false
theorem kf0 : (Rows.pipelineReturnsRow.wf (OpenSpec.ofChange (OpenSpec.ofChange Rows.pipelineReturnsSpec).bare)) = true := by kernel_rfl
theorem kf1 : (laidOutB Tryz.prog) = true := by kernel_rfl
theorem kf2 : (mapsRowed Tryz.prog) = true := by kernel_rfl
theorem kf3 : (Tryz.f7.params.all (Tryz.prog.readableRec ·)) = true := by kernel_rfl
theorem kf4 : (namedTie Tryz.prog Rows.pipelineReturnsRow.named (OpenSpec.ofChange Rows.pipelineReturnsSpec).bare.vars) = true := by kernel_rfl
theorem kf5 : ((Rows.pipelineReturnsRow.stops == [])) = true := by kernel_rfl
theorem kf6 : ((Tryz.prog.stops == [])) = true := by kernel_rfl
end Go.Proofs.YtckkmafppfcecaaGreatDoor.pipelineReturns

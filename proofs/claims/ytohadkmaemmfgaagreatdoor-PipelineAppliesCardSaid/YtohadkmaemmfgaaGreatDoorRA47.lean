/- PipelineAppliesFact0 PipelineAppliesFact1. -/
import Derived.Test.YtohadkmaemmfgaaGreatDoorRows
import Derived.JoinedCond
import Derived.WalkKit
import Derived.KernelRfl
set_option maxRecDepth 100000
set_option maxHeartbeats 4000000
namespace Go.Proofs.YtohadkmaemmfgaaGreatDoor.pipelineApplies
set_option linter.unusedVariables false
theorem kf0 : (Rows.pipelineAppliesRow.wf (OpenSpec.ofChange (OpenSpec.ofChange Rows.pipelineAppliesSpec).bare)) = true := by kernel_rfl
theorem kf1 : (laidOutB Tryz.prog) = true := by kernel_rfl
theorem kf2 : (mapsRowed Tryz.prog) = true := by kernel_rfl
theorem kf3 : (Tryz.f3.params.all (Tryz.prog.readableRec ·)) = true := by kernel_rfl
theorem kf4 : (namedTie Tryz.prog Rows.pipelineAppliesRow.named (OpenSpec.ofChange Rows.pipelineAppliesSpec).bare.vars) = true := by kernel_rfl
theorem kf5 : ((Rows.pipelineAppliesRow.stops == [])) = true := by kernel_rfl
theorem kf6 : ((Tryz.prog.stops == [])) = true := by kernel_rfl
theorem kf7 : ((Rows.pipelineAppliesRow.knobs == [])) = true := by kernel_rfl
theorem kf8 : ((Tryz.prog.stopKnobs == [])) = true := by kernel_rfl
theorem kf9 : ((Rows.pipelineAppliesRow.inPlace == Tryz.prog.inPlace 3)) = true := by kernel_rfl
theorem kf10 : ((Rows.pipelineAppliesRow.unfollowed == Tryz.prog.unfollowed 3)) = true := by kernel_rfl
theorem kf11 : ((Rows.pipelineAppliesRow.recurses == Tryz.prog.recurses 3)) = true := by kernel_rfl
end Go.Proofs.YtohadkmaemmfgaaGreatDoor.pipelineApplies

/- PipelineInvertsFact0 PipelineInvertsFact1. -/
import Derived.Test.YtohadkmaemmfgaaGreatDoorRows
import Derived.JoinedCond
import Derived.WalkKit
import Derived.KernelRfl
set_option maxRecDepth 100000
set_option maxHeartbeats 4000000
namespace Go.Proofs.YtohadkmaemmfgaaGreatDoor.pipelineInverts
set_option linter.unusedVariables false
theorem kf0 : (Rows.pipelineInvertsRow.wf (OpenSpec.ofChange (OpenSpec.ofChange Rows.pipelineInvertsSpec).bare)) = true := by kernel_rfl
theorem kf1 : (laidOutB Tryz.prog) = true := by kernel_rfl
theorem kf2 : (mapsRowed Tryz.prog) = true := by kernel_rfl
theorem kf3 : (Tryz.f4.params.all (Tryz.prog.readableRec ·)) = true := by kernel_rfl
theorem kf4 : (namedTie Tryz.prog Rows.pipelineInvertsRow.named (OpenSpec.ofChange Rows.pipelineInvertsSpec).bare.vars) = true := by kernel_rfl
theorem kf5 : ((Rows.pipelineInvertsRow.stops == [])) = true := by kernel_rfl
theorem kf6 : ((Tryz.prog.stops == [])) = true := by kernel_rfl
theorem kf7 : ((Rows.pipelineInvertsRow.knobs == [])) = true := by kernel_rfl
theorem kf8 : ((Tryz.prog.stopKnobs == [])) = true := by kernel_rfl
theorem kf9 : ((Rows.pipelineInvertsRow.inPlace == Tryz.prog.inPlace 4)) = true := by kernel_rfl
theorem kf10 : ((Rows.pipelineInvertsRow.unfollowed == Tryz.prog.unfollowed 4)) = true := by kernel_rfl
theorem kf11 : ((Rows.pipelineInvertsRow.recurses == Tryz.prog.recurses 4)) = true := by kernel_rfl
end Go.Proofs.YtohadkmaemmfgaaGreatDoor.pipelineInverts

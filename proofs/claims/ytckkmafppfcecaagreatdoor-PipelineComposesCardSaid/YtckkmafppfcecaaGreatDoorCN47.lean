/- PipelineComposesFact0. -/
import Derived.Test.YtckkmafppfcecaaGreatDoorRows
import Derived.JoinedCond
import Derived.WalkKit
import Derived.KernelRfl
/- The closed facts of the row of PipelineComposes, part 1. -/
namespace Go.Proofs.YtckkmafppfcecaaGreatDoor.pipelineComposes
set_option linter.unusedVariables false

theorem kf0 : (Rows.pipelineComposesRow.wf (OpenSpec.ofChange (OpenSpec.ofChange Rows.pipelineComposesSpec).bare)) = true := by kernel_rfl
theorem kf1 : (laidOutB Tryz.prog) = true := by kernel_rfl
theorem kf2 : (mapsRowed Tryz.prog) = true := by kernel_rfl
theorem kf3 : (Tryz.f4.params.all (Tryz.prog.readableRec ·)) = true := by kernel_rfl
theorem kf4 : (namedTie Tryz.prog Rows.pipelineComposesRow.named (OpenSpec.ofChange Rows.pipelineComposesSpec).bare.vars) = true := by kernel_rfl
theorem kf5 : ((Rows.pipelineComposesRow.stops == [])) = true := by kernel_rfl
theorem kf6 : ((Tryz.prog.stops == [])) = true := by kernel_rfl
end Go.Proofs.YtckkmafppfcecaaGreatDoor.pipelineComposes

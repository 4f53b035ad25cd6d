/- The closed facts of the row of PipelineTypes, part 1. -/
import Derived.Test.YtckkmafppfcecaaGreatDoorRows
import Derived.JoinedCond
import Derived.WalkKit
import Derived.KernelRfl
namespace Go.Proofs.YtckkmafppfcecaaGreatDoor.pipelineTypes
set_option linter.unusedVariables false

theorem kf0 : (Rows.pipelineTypesRow.wf (OpenSpec.ofChange (OpenSpec.ofChange Rows.pipelineTypesSpec).bare)) = true := by kernel_rfl
theorem kf1 : (laidOutB Tryz.prog) = true := by kernel_rfl
theorem kf2 : (mapsRowed Tryz.prog) = true := by kernel_rfl
theorem kf3 : (Tryz.f5.params.all (Tryz.prog.readableRec ·)) = true := by kernel_rfl
theorem kf4 : (namedTie Tryz.prog Rows.pipelineTypesRow.named (OpenSpec.ofChange Rows.pipelineTypesSpec).bare.vars) = true := by kernel_rfl
theorem kf5 : ((Rows.pipelineTypesRow.stops == [])) = true := by kernel_rfl
theorem kf6 : ((Tryz.prog.stops == [])) = true := by kernel_rfl
end Go.Proofs.YtckkmafppfcecaaGreatDoor.pipelineTypes

/- The closed facts of the row of PipelineReads, part 1. -/
import Derived.Test.YtckkmafppfcecaaGreatDoorRows
import Derived.JoinedCond
import Derived.WalkKit
import Derived.KernelRfl
namespace Go.Proofs.YtckkmafppfcecaaGreatDoor.pipelineReads
set_option linter.unusedVariables false

theorem kf0 : (Rows.pipelineReadsRow.wf (OpenSpec.ofChange (OpenSpec.ofChange Rows.pipelineReadsSpec).bare)) = true := by kernel_rfl
theorem kf1 : (laidOutB Tryz.prog) = true := by kernel_rfl
theorem kf2 : (mapsRowed Tryz.prog) = true := by kernel_rfl
theorem kf3 : (Tryz.f8.params.all (Tryz.prog.readableRec ·)) = true := by kernel_rfl
theorem kf4 : (namedTie Tryz.prog Rows.pipelineReadsRow.named (OpenSpec.ofChange Rows.pipelineReadsSpec).bare.vars) = true := by kernel_rfl
theorem kf5 : ((Rows.pipelineReadsRow.stops == [])) = true := by kernel_rfl
theorem kf6 : ((Tryz.prog.stops == [])) = true := by kernel_rfl
end Go.Proofs.YtckkmafppfcecaaGreatDoor.pipelineReads

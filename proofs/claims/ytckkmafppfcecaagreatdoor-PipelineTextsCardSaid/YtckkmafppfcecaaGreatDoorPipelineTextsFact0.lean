/- The closed facts of the row of PipelineTexts, part 1. -/
import Derived.Test.YtckkmafppfcecaaGreatDoorRows
import Derived.JoinedCond
import Derived.WalkKit
import Derived.KernelRfl
namespace Go.Proofs.YtckkmafppfcecaaGreatDoor.pipelineTexts
set_option linter.unusedVariables false

theorem kf0 : (Rows.pipelineTextsRow.wf (OpenSpec.ofChange (OpenSpec.ofChange Rows.pipelineTextsSpec).bare)) = true := by kernel_rfl
theorem kf1 : (laidOutB Tryz.prog) = true := by kernel_rfl
theorem kf2 : (mapsRowed Tryz.prog) = true := by kernel_rfl
theorem kf3 : (Tryz.f9.params.all (Tryz.prog.readableRec ·)) = true := by kernel_rfl
theorem kf4 : (namedTie Tryz.prog Rows.pipelineTextsRow.named (OpenSpec.ofChange Rows.pipelineTextsSpec).bare.vars) = true := by kernel_rfl
theorem kf5 : ((Rows.pipelineTextsRow.stops == [])) = true := by kernel_rfl
theorem kf6 : ((Tryz.prog.stops == [])) = true := by kernel_rfl
end Go.Proofs.YtckkmafppfcecaaGreatDoor.pipelineTexts

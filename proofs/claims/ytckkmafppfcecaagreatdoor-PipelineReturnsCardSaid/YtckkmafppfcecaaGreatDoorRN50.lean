/- PipelineReturnsFact2. -/
import Derived.Test.YtckkmafppfcecaaGreatDoorRows
import Derived.JoinedCond
import Derived.WalkKit
import Derived.KernelRfl
set_option maxRecDepth 100000
set_option maxHeartbeats 4000000
namespace Go.Proofs.YtckkmafppfcecaaGreatDoor.pipelineReturns
set_option linter.unusedVariables false
theorem kf12 : ((Rows.pipelineReturnsRow.named == Tryz.prog.varsNamed 7)) = true := by kernel_rfl
theorem kf13 : ((Rows.pipelineReturnsRow.maps == (Tryz.f7.params.toList ++ (OpenSpec.ofChange Rows.pipelineReturnsSpec).bare.plain.varTypes Tryz.prog).any (Tryz.prog.mapsRec ·))) = true := by kernel_rfl
theorem kf14 : ((Rows.pipelineReturnsRow.ifaces == (Tryz.f7.params.toList ++ (OpenSpec.ofChange Rows.pipelineReturnsSpec).bare.plain.varTypes Tryz.prog).any (Tryz.prog.ifacesRec ·))) = true := by kernel_rfl
theorem kf15 : ((Rows.pipelineReturnsRow.mapsOut == Tryz.prog.mapsAmong Tryz.f7.resultTypes.toList)) = true := by kernel_rfl
theorem kf16 : ((Rows.pipelineReturnsRow.loops == (Tryz.f7.params.toList ++ (OpenSpec.ofChange Rows.pipelineReturnsSpec).bare.plain.varTypes Tryz.prog).any (Tryz.prog.loopsFrom ·))) = true := by kernel_rfl
theorem kf17 : ((Rows.pipelineReturnsRow.wideKeys == (Tryz.f7.params.toList ++ (OpenSpec.ofChange Rows.pipelineReturnsSpec).bare.plain.varTypes Tryz.prog ++ Tryz.f7.resultTypes.toList).any (Tryz.prog.wideKeysFrom ·))) = true := by kernel_rfl
theorem kf18 : ((OpenSpec.ofChange Rows.pipelineReturnsSpec).bare.vars.all (Tryz.prog.varReadable ·)) = true := by kernel_rfl
theorem kf19 : (Tryz.f7.resultTypes.all (fun t => Tryz.prog.readableRec t && decide (t < Tryz.prog.types.size))) = true := by kernel_rfl
theorem kf20 : ((Rows.pipelineReturnsRow.ifacesOut == Tryz.f7.resultTypes.toList.any (Tryz.prog.ifacesRec ·))) = true := by kernel_rfl
theorem kf21 : ((Rows.pipelineReturnsRow.loopsOut == Tryz.f7.resultTypes.toList.any (Tryz.prog.loopsFrom ·))) = true := by kernel_rfl
theorem kf22 : ((Rows.pipelineReturnsRow.plainKeys == Tryz.prog.plainKeys)) = true := by kernel_rfl
theorem kf23 : (Rows.pipelineReturnsRow.shortTexts.isNone) = true := by kernel_rfl
theorem kf24 : (Tryz.prog.stopsHeard) = true := by kernel_rfl
theorem kf25 : (Tryz.prog.mayEnter) = true := by kernel_rfl
theorem kf26 : ((Rows.pipelineReturnsRow.lifted == Tryz.prog.liftsFinal)) = true := by kernel_rfl
theorem kf27 : ((Tryz.prog.make == some Rows.pipelineReturnsRow.make)) = true := by kernel_rfl
theorem kf28 : ((Rows.pipelineReturnsRow.kinds == (if Rows.pipelineReturnsRow.domain.isEmpty then [] else Tryz.f7.params.toList.map fun t => match Tryz.prog.underlying t with | some (.int k) => some k | _ => none))) = true := by kernel_rfl
theorem kf29 : ((Rows.pipelineReturnsRow.pinned == Rows.pipelineReturnsRow.pinnedBy)) = true := by kernel_rfl
theorem kf30 : ((Rows.pipelineReturnsRow.veiled == (Tryz.f7.params.toList ++ (OpenSpec.ofChange Rows.pipelineReturnsSpec).bare.plain.varTypes Tryz.prog ++ Tryz.f7.resultTypes.toList).any (Tryz.prog.veiledRec ·))) = true := by kernel_rfl
theorem kf31 : (Rows.pipelineReturnsRow.veiledFits Tryz.prog Tryz.f7.params.toList (Tryz.f7.params.toList ++ (OpenSpec.ofChange Rows.pipelineReturnsSpec).bare.plain.varTypes Tryz.prog ++ Tryz.f7.resultTypes.toList)) = true := by kernel_rfl
end Go.Proofs.YtckkmafppfcecaaGreatDoor.pipelineReturns

/- PipelineInvertsFact2. -/
import Derived.Test.YtohadkmaemmfgaaGreatDoorRows
import Derived.JoinedCond
import Derived.WalkKit
import Derived.KernelRfl
set_option maxRecDepth 100000
set_option maxHeartbeats 4000000
namespace Go.Proofs.YtohadkmaemmfgaaGreatDoor.pipelineInverts
set_option linter.unusedVariables false
theorem kf12 : ((Rows.pipelineInvertsRow.named == Tryz.prog.varsNamed 4)) = true := by kernel_rfl
theorem kf13 : ((Rows.pipelineInvertsRow.maps == (Tryz.f4.params.toList ++ (OpenSpec.ofChange Rows.pipelineInvertsSpec).bare.plain.varTypes Tryz.prog).any (Tryz.prog.mapsRec ·))) = true := by kernel_rfl
theorem kf14 : ((Rows.pipelineInvertsRow.ifaces == (Tryz.f4.params.toList ++ (OpenSpec.ofChange Rows.pipelineInvertsSpec).bare.plain.varTypes Tryz.prog).any (Tryz.prog.ifacesRec ·))) = true := by kernel_rfl
theorem kf15 : ((Rows.pipelineInvertsRow.mapsOut == Tryz.prog.mapsAmong Tryz.f4.resultTypes.toList)) = true := by kernel_rfl
theorem kf16 : ((Rows.pipelineInvertsRow.loops == (Tryz.f4.params.toList ++ (OpenSpec.ofChange Rows.pipelineInvertsSpec).bare.plain.varTypes Tryz.prog).any (Tryz.prog.loopsFrom ·))) = true := by kernel_rfl
theorem kf17 : ((Rows.pipelineInvertsRow.wideKeys == (Tryz.f4.params.toList ++ (OpenSpec.ofChange Rows.pipelineInvertsSpec).bare.plain.varTypes Tryz.prog ++ Tryz.f4.resultTypes.toList).any (Tryz.prog.wideKeysFrom ·))) = true := by kernel_rfl
theorem kf18 : ((OpenSpec.ofChange Rows.pipelineInvertsSpec).bare.vars.all (Tryz.prog.varReadable ·)) = true := by kernel_rfl
theorem kf19 : (Tryz.f4.resultTypes.all (fun t => Tryz.prog.readableRec t && decide (t < Tryz.prog.types.size))) = true := by kernel_rfl
theorem kf20 : ((Rows.pipelineInvertsRow.ifacesOut == Tryz.f4.resultTypes.toList.any (Tryz.prog.ifacesRec ·))) = true := by kernel_rfl
theorem kf21 : ((Rows.pipelineInvertsRow.loopsOut == Tryz.f4.resultTypes.toList.any (Tryz.prog.loopsFrom ·))) = true := by kernel_rfl
theorem kf22 : ((Rows.pipelineInvertsRow.plainKeys == Tryz.prog.plainKeys)) = true := by kernel_rfl
theorem kf23 : (Rows.pipelineInvertsRow.shortTexts.isNone) = true := by kernel_rfl
theorem kf24 : (Tryz.prog.stopsHeard) = true := by kernel_rfl
theorem kf25 : (Tryz.prog.mayEnter) = true := by kernel_rfl
theorem kf26 : ((Rows.pipelineInvertsRow.lifted == Tryz.prog.liftsFinal)) = true := by kernel_rfl
theorem kf27 : ((Tryz.prog.make == some Rows.pipelineInvertsRow.make)) = true := by kernel_rfl
theorem kf28 : ((Rows.pipelineInvertsRow.kinds == (if Rows.pipelineInvertsRow.domain.isEmpty then [] else Tryz.f4.params.toList.map fun t => match Tryz.prog.underlying t with | some (.int k) => some k | _ => none))) = true := by kernel_rfl
theorem kf29 : ((Rows.pipelineInvertsRow.pinned == Rows.pipelineInvertsRow.pinnedBy)) = true := by kernel_rfl
theorem kf30 : ((Rows.pipelineInvertsRow.veiled == (Tryz.f4.params.toList ++ (OpenSpec.ofChange Rows.pipelineInvertsSpec).bare.plain.varTypes Tryz.prog ++ Tryz.f4.resultTypes.toList).any (Tryz.prog.veiledRec ·))) = true := by kernel_rfl
theorem kf31 : (Rows.pipelineInvertsRow.veiledFits Tryz.prog Tryz.f4.params.toList (Tryz.f4.params.toList ++ (OpenSpec.ofChange Rows.pipelineInvertsSpec).bare.plain.varTypes Tryz.prog ++ Tryz.f4.resultTypes.toList)) = true := by kernel_rfl
end Go.Proofs.YtohadkmaemmfgaaGreatDoor.pipelineInverts

/- PipelineAppliesFact2. -/
import Derived.Test.YtohadkmaemmfgaaGreatDoorRows
import Derived.JoinedCond
import Derived.WalkKit
import Derived.KernelRfl
set_option maxRecDepth 100000
set_option maxHeartbeats 4000000
namespace Go.Proofs.YtohadkmaemmfgaaGreatDoor.pipelineApplies
set_option linter.unusedVariables false
theorem kf12 : ((Rows.pipelineAppliesRow.named == Tryz.prog.varsNamed 3)) = true := by kernel_rfl
theorem kf13 : ((Rows.pipelineAppliesRow.maps == (Tryz.f3.params.toList ++ (OpenSpec.ofChange Rows.pipelineAppliesSpec).bare.plain.varTypes Tryz.prog).any (Tryz.prog.mapsRec ·))) = true := by kernel_rfl
theorem kf14 : ((Rows.pipelineAppliesRow.ifaces == (Tryz.f3.params.toList ++ (OpenSpec.ofChange Rows.pipelineAppliesSpec).bare.plain.varTypes Tryz.prog).any (Tryz.prog.ifacesRec ·))) = true := by kernel_rfl
theorem kf15 : ((Rows.pipelineAppliesRow.mapsOut == Tryz.prog.mapsAmong Tryz.f3.resultTypes.toList)) = true := by kernel_rfl
theorem kf16 : ((Rows.pipelineAppliesRow.loops == (Tryz.f3.params.toList ++ (OpenSpec.ofChange Rows.pipelineAppliesSpec).bare.plain.varTypes Tryz.prog).any (Tryz.prog.loopsFrom ·))) = true := by kernel_rfl
theorem kf17 : ((Rows.pipelineAppliesRow.wideKeys == (Tryz.f3.params.toList ++ (OpenSpec.ofChange Rows.pipelineAppliesSpec).bare.plain.varTypes Tryz.prog ++ Tryz.f3.resultTypes.toList).any (Tryz.prog.wideKeysFrom ·))) = true := by kernel_rfl
theorem kf18 : ((OpenSpec.ofChange Rows.pipelineAppliesSpec).bare.vars.all (Tryz.prog.varReadable ·)) = true := by kernel_rfl
theorem kf19 : (Tryz.f3.resultTypes.all (fun t => Tryz.prog.readableRec t && decide (t < Tryz.prog.types.size))) = true := by kernel_rfl
theorem kf20 : ((Rows.pipelineAppliesRow.ifacesOut == Tryz.f3.resultTypes.toList.any (Tryz.prog.ifacesRec ·))) = true := by kernel_rfl
theorem kf21 : ((Rows.pipelineAppliesRow.loopsOut == Tryz.f3.resultTypes.toList.any (Tryz.prog.loopsFrom ·))) = true := by kernel_rfl
theorem kf22 : ((Rows.pipelineAppliesRow.plainKeys == Tryz.prog.plainKeys)) = true := by kernel_rfl
theorem kf23 : (Rows.pipelineAppliesRow.shortTexts.isNone) = true := by kernel_rfl
theorem kf24 : (Tryz.prog.stopsHeard) = true := by kernel_rfl
theorem kf25 : (Tryz.prog.mayEnter) = true := by kernel_rfl
theorem kf26 : ((Rows.pipelineAppliesRow.lifted == Tryz.prog.liftsFinal)) = true := by kernel_rfl
theorem kf27 : ((Tryz.prog.make == some Rows.pipelineAppliesRow.make)) = true := by kernel_rfl
theorem kf28 : ((Rows.pipelineAppliesRow.kinds == (if Rows.pipelineAppliesRow.domain.isEmpty then [] else Tryz.f3.params.toList.map fun t => match Tryz.prog.underlying t with | some (.int k) => some k | _ => none))) = true := by kernel_rfl
theorem kf29 : ((Rows.pipelineAppliesRow.pinned == Rows.pipelineAppliesRow.pinnedBy)) = true := by kernel_rfl
theorem kf30 : ((Rows.pipelineAppliesRow.veiled == (Tryz.f3.params.toList ++ (OpenSpec.ofChange Rows.pipelineAppliesSpec).bare.plain.varTypes Tryz.prog ++ Tryz.f3.resultTypes.toList).any (Tryz.prog.veiledRec ·))) = true := by kernel_rfl
theorem kf31 : (Rows.pipelineAppliesRow.veiledFits Tryz.prog Tryz.f3.params.toList (Tryz.f3.params.toList ++ (OpenSpec.ofChange Rows.pipelineAppliesSpec).bare.plain.varTypes Tryz.prog ++ Tryz.f3.resultTypes.toList)) = true := by kernel_rfl
end Go.Proofs.YtohadkmaemmfgaaGreatDoor.pipelineApplies

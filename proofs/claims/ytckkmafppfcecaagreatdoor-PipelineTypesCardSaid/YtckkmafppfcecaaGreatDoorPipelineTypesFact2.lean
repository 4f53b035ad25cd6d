/- The closed facts of the row of PipelineTypes, part 3. -/
import Derived.Test.YtckkmafppfcecaaGreatDoorRows
import Derived.JoinedCond
import Derived.WalkKit
import Derived.KernelRfl
namespace Go.Proofs.YtckkmafppfcecaaGreatDoor.pipelineTypes
set_option linter.unusedVariables false

theorem kf12 : ((Rows.pipelineTypesRow.named == Tryz.prog.varsNamed 5)) = true := by kernel_rfl
theorem kf13 : ((Rows.pipelineTypesRow.maps == (Tryz.f5.params.toList ++ (OpenSpec.ofChange Rows.pipelineTypesSpec).bare.plain.varTypes Tryz.prog).any (Tryz.prog.mapsRec ·))) = true := by kernel_rfl
theorem kf14 : ((Rows.pipelineTypesRow.ifaces == (Tryz.f5.params.toList ++ (OpenSpec.ofChange Rows.pipelineTypesSpec).bare.plain.varTypes Tryz.prog).any (Tryz.prog.ifacesRec ·))) = true := by kernel_rfl
theorem kf15 : ((Rows.pipelineTypesRow.mapsOut == Tryz.prog.mapsAmong Tryz.f5.resultTypes.toList)) = true := by kernel_rfl
theorem kf16 : ((Rows.pipelineTypesRow.loops == (Tryz.f5.params.toList ++ (OpenSpec.ofChange Rows.pipelineTypesSpec).bare.plain.varTypes Tryz.prog).any (Tryz.prog.loopsFrom ·))) = true := by kernel_rfl
theorem kf17 : ((Rows.pipelineTypesRow.wideKeys == (Tryz.f5.params.toList ++ (OpenSpec.ofChange Rows.pipelineTypesSpec).bare.plain.varTypes Tryz.prog ++ Tryz.f5.resultTypes.toList).any (Tryz.prog.wideKeysFrom ·))) = true := by kernel_rfl
theorem kf18 : ((OpenSpec.ofChange Rows.pipelineTypesSpec).bare.vars.all (Tryz.prog.varReadable ·)) = true := by kernel_rfl
theorem kf19 : (Tryz.f5.resultTypes.all (fun t => Tryz.prog.readableRec t && decide (t < Tryz.prog.types.size))) = true := by kernel_rfl
theorem kf20 : ((Rows.pipelineTypesRow.ifacesOut == Tryz.f5.resultTypes.toList.any (Tryz.prog.ifacesRec ·))) = true := by kernel_rfl
theorem kf21 : ((Rows.pipelineTypesRow.loopsOut == Tryz.f5.resultTypes.toList.any (Tryz.prog.loopsFrom ·))) = true := by kernel_rfl
theorem kf22 : ((Rows.pipelineTypesRow.plainKeys == Tryz.prog.plainKeys)) = true := by kernel_rfl
theorem kf23 : (Rows.pipelineTypesRow.shortTexts.isNone) = true := by kernel_rfl
theorem kf24 : (Tryz.prog.stopsHeard) = true := by kernel_rfl
theorem kf25 : (Tryz.prog.mayEnter) = true := by kernel_rfl
theorem kf26 : ((Rows.pipelineTypesRow.lifted == Tryz.prog.liftsFinal)) = true := by kernel_rfl
theorem kf27 : ((Tryz.prog.make == some Rows.pipelineTypesRow.make)) = true := by kernel_rfl
theorem kf28 : ((Rows.pipelineTypesRow.kinds == (if Rows.pipelineTypesRow.domain.isEmpty then [] else Tryz.f5.params.toList.map fun t => match Tryz.prog.underlying t with | some (.int k) => some k | _ => none))) = true := by kernel_rfl
theorem kf29 : ((Rows.pipelineTypesRow.pinned == Rows.pipelineTypesRow.pinnedBy)) = true := by kernel_rfl
theorem kf30 : ((Rows.pipelineTypesRow.veiled == (Tryz.f5.params.toList ++ (OpenSpec.ofChange Rows.pipelineTypesSpec).bare.plain.varTypes Tryz.prog ++ Tryz.f5.resultTypes.toList).any (Tryz.prog.veiledRec ·))) = true := by kernel_rfl
theorem kf31 : (Rows.pipelineTypesRow.veiledFits Tryz.prog Tryz.f5.params.toList (Tryz.f5.params.toList ++ (OpenSpec.ofChange Rows.pipelineTypesSpec).bare.plain.varTypes Tryz.prog ++ Tryz.f5.resultTypes.toList)) = true := by kernel_rfl
end Go.Proofs.YtckkmafppfcecaaGreatDoor.pipelineTypes

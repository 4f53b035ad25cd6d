/- PipelineComposesFact2. -/
import Derived.Test.YtckkmafppfcecaaGreatDoorRows
import Derived.JoinedCond
import Derived.WalkKit
import Derived.KernelRfl
/- The closed facts of the row of PipelineComposes, part 3. -/
namespace Go.Proofs.YtckkmafppfcecaaGreatDoor.pipelineComposes
set_option linter.unusedVariables false

theorem kf12 : ((Rows.pipelineComposesRow.named == Tryz.prog.varsNamed 4)) = true := by kernel_rfl
theorem kf13 : ((Rows.pipelineComposesRow.maps == (Tryz.f4.params.toList ++ (OpenSpec.ofChange Rows.pipelineComposesSpec).bare.plain.varTypes Tryz.prog).any (Tryz.prog.mapsRec ·))) = true := by kernel_rfl
theorem kf14 : ((Rows.pipelineComposesRow.ifaces == (Tryz.f4.params.toList ++ (OpenSpec.ofChange Rows.pipelineComposesSpec).bare.plain.varTypes Tryz.prog).any (Tryz.prog.ifacesRec ·))) = true := by kernel_rfl
theorem kf15 : ((Rows.pipelineComposesRow.mapsOut == Tryz.prog.mapsAmong Tryz.f4.resultTypes.toList)) = true := by kernel_rfl
theorem kf16 : ((Rows.pipelineComposesRow.loops == (Tryz.f4.params.toList ++ (OpenSpec.ofChange Rows.pipelineComposesSpec).bare.plain.varTypes Tryz.prog).any (Tryz.prog.loopsFrom ·))) = true := by kernel_rfl
theorem kf17 : ((Rows.pipelineComposesRow.wideKeys == (Tryz.f4.params.toList ++ (OpenSpec.ofChange Rows.pipelineComposesSpec).bare.plain.varTypes Tryz.prog ++ Tryz.f4.resultTypes.toList).any (Tryz.prog.wideKeysFrom ·))) = true := by kernel_rfl
theorem kf18 : ((OpenSpec.ofChange Rows.pipelineComposesSpec).bare.vars.all (Tryz.prog.varReadable ·)) = true := by kernel_rfl
theorem kf19 : (Tryz.f4.resultTypes.all (fun t => Tryz.prog.readableRec t && decide (t < Tryz.prog.types.size))) = true := by kernel_rfl
theorem kf20 : ((Rows.pipelineComposesRow.ifacesOut == Tryz.f4.resultTypes.toList.any (Tryz.prog.ifacesRec ·))) = true := by kernel_rfl
theorem kf21 : ((Rows.pipelineComposesRow.loopsOut == Tryz.f4.resultTypes.toList.any (Tryz.prog.loopsFrom ·))) = true := by kernel_rfl
theorem kf22 : ((Rows.pipelineComposesRow.plainKeys == Tryz.prog.plainKeys)) = true := by kernel_rfl
theorem kf23 : (Rows.pipelineComposesRow.shortTexts.isNone) = true := by kernel_rfl
theorem kf24 : (Tryz.prog.stopsHeard) = true := by kernel_rfl
theorem kf25 : (Tryz.prog.mayEnter) = true := by kernel_rfl
theorem kf26 : ((Rows.pipelineComposesRow.lifted == Tryz.prog.liftsFinal)) = true := by kernel_rfl
theorem kf27 : ((Tryz.prog.make == some Rows.pipelineComposesRow.make)) = true := by kernel_rfl
theorem kf28 : ((Rows.pipelineComposesRow.kinds == (if Rows.pipelineComposesRow.domain.isEmpty then [] else Tryz.f4.params.toList.map fun t => match Tryz.prog.underlying t with | some (.int k) => some k | _ => none))) = true := by kernel_rfl
theorem kf29 : ((Rows.pipelineComposesRow.pinned == Rows.pipelineComposesRow.pinnedBy)) = true := by kernel_rfl
theorem kf30 : ((Rows.pipelineComposesRow.veiled == (Tryz.f4.params.toList ++ (OpenSpec.ofChange Rows.pipelineComposesSpec).bare.plain.varTypes Tryz.prog ++ Tryz.f4.resultTypes.toList).any (Tryz.prog.veiledRec ·))) = true := by kernel_rfl
theorem kf31 : (Rows.pipelineComposesRow.veiledFits Tryz.prog Tryz.f4.params.toList (Tryz.f4.params.toList ++ (OpenSpec.ofChange Rows.pipelineComposesSpec).bare.plain.varTypes Tryz.prog ++ Tryz.f4.resultTypes.toList)) = true := by kernel_rfl
end Go.Proofs.YtckkmafppfcecaaGreatDoor.pipelineComposes

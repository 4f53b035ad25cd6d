/- The closed facts of the row of PipelineTexts, part 3. -/
import Derived.Test.YtckkmafppfcecaaGreatDoorRows
import Derived.JoinedCond
import Derived.WalkKit
import Derived.KernelRfl
namespace Go.Proofs.YtckkmafppfcecaaGreatDoor.pipelineTexts
set_option linter.unusedVariables false

theorem kf12 : ((Rows.pipelineTextsRow.named == Tryz.prog.varsNamed 9)) = true := by kernel_rfl
theorem kf13 : ((Rows.pipelineTextsRow.maps == (Tryz.f9.params.toList ++ (OpenSpec.ofChange Rows.pipelineTextsSpec).bare.plain.varTypes Tryz.prog).any (Tryz.prog.mapsRec ·))) = true := by kernel_rfl
theorem kf14 : ((Rows.pipelineTextsRow.ifaces == (Tryz.f9.params.toList ++ (OpenSpec.ofChange Rows.pipelineTextsSpec).bare.plain.varTypes Tryz.prog).any (Tryz.prog.ifacesRec ·))) = true := by kernel_rfl
theorem kf15 : ((Rows.pipelineTextsRow.mapsOut == Tryz.prog.mapsAmong Tryz.f9.resultTypes.toList)) = true := by kernel_rfl
theorem kf16 : ((Rows.pipelineTextsRow.loops == (Tryz.f9.params.toList ++ (OpenSpec.ofChange Rows.pipelineTextsSpec).bare.plain.varTypes Tryz.prog).any (Tryz.prog.loopsFrom ·))) = true := by kernel_rfl
theorem kf17 : ((Rows.pipelineTextsRow.wideKeys == (Tryz.f9.params.toList ++ (OpenSpec.ofChange Rows.pipelineTextsSpec).bare.plain.varTypes Tryz.prog ++ Tryz.f9.resultTypes.toList).any (Tryz.prog.wideKeysFrom ·))) = true := by kernel_rfl
theorem kf18 : ((OpenSpec.ofChange Rows.pipelineTextsSpec).bare.vars.all (Tryz.prog.varReadable ·)) = true := by kernel_rfl
theorem kf19 : (Tryz.f9.resultTypes.all (fun t => Tryz.prog.readableRec t && decide (t < Tryz.prog.types.size))) = true := by kernel_rfl
theorem kf20 : ((Rows.pipelineTextsRow.ifacesOut == Tryz.f9.resultTypes.toList.any (Tryz.prog.ifacesRec ·))) = true := by kernel_rfl
theorem kf21 : ((Rows.pipelineTextsRow.loopsOut == Tryz.f9.resultTypes.toList.any (Tryz.prog.loopsFrom ·))) = true := by kernel_rfl
theorem kf22 : ((Rows.pipelineTextsRow.plainKeys == Tryz.prog.plainKeys)) = true := by kernel_rfl
theorem kf23 : (Rows.pipelineTextsRow.shortTexts.isNone) = true := by kernel_rfl
theorem kf24 : (Tryz.prog.stopsHeard) = true := by kernel_rfl
theorem kf25 : (Tryz.prog.mayEnter) = true := by kernel_rfl
theorem kf26 : ((Rows.pipelineTextsRow.lifted == Tryz.prog.liftsFinal)) = true := by kernel_rfl
theorem kf27 : ((Tryz.prog.make == some Rows.pipelineTextsRow.make)) = true := by kernel_rfl
theorem kf28 : ((Rows.pipelineTextsRow.kinds == (if Rows.pipelineTextsRow.domain.isEmpty then [] else Tryz.f9.params.toList.map fun t => match Tryz.prog.underlying t with | some (.int k) => some k | _ => none))) = true := by kernel_rfl
theorem kf29 : ((Rows.pipelineTextsRow.pinned == Rows.pipelineTextsRow.pinnedBy)) = true := by kernel_rfl
theorem kf30 : ((Rows.pipelineTextsRow.veiled == (Tryz.f9.params.toList ++ (OpenSpec.ofChange Rows.pipelineTextsSpec).bare.plain.varTypes Tryz.prog ++ Tryz.f9.resultTypes.toList).any (Tryz.prog.veiledRec ·))) = true := by kernel_rfl
theorem kf31 : (Rows.pipelineTextsRow.veiledFits Tryz.prog Tryz.f9.params.toList (Tryz.f9.params.toList ++ (OpenSpec.ofChange Rows.pipelineTextsSpec).bare.plain.varTypes Tryz.prog ++ Tryz.f9.resultTypes.toList)) = true := by kernel_rfl
end Go.Proofs.YtckkmafppfcecaaGreatDoor.pipelineTexts

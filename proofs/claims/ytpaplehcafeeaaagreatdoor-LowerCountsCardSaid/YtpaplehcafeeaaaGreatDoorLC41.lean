/- LowerCountsFact0 LowerCountsFact1 LowerCountsFact2 LowerCountsFacts. -/
import Derived.Test.YtpaplehcafeeaaaGreatDoorRows
import Derived.JoinedCond
import Derived.WalkKit
import Derived.KernelRfl
set_option maxRecDepth 100000
set_option maxHeartbeats 40000000
set_option linter.unusedVariables false
set_option linter.unusedSimpArgs false
namespace Go.Proofs.YtpaplehcafeeaaaGreatDoor.lowerCounts
theorem kf0:(Rows.lowerCountsRow.wf (OpenSpec.ofChange (OpenSpec.ofChange Rows.lowerCountsSpec).bare))=true:=by kernel_rfl
theorem kf1:(laidOutB Tryz.prog)=true:=by kernel_rfl
theorem kf2:(mapsRowed Tryz.prog)=true:=by kernel_rfl
theorem kf3:(Tryz.f5.params.all (Tryz.prog.readableRec ·))=true:=by kernel_rfl
theorem kf4:(namedTie Tryz.prog Rows.lowerCountsRow.named (OpenSpec.ofChange Rows.lowerCountsSpec).bare.vars)=true:=by kernel_rfl
theorem kf5:((Rows.lowerCountsRow.stops==[]))=true:=by kernel_rfl
theorem kf6:((Tryz.prog.stops==[]))=true:=by kernel_rfl
theorem kf7:((Rows.lowerCountsRow.knobs==[]))=true:=by kernel_rfl
theorem kf8:((Tryz.prog.stopKnobs==[]))=true:=by kernel_rfl
theorem kf9:((Rows.lowerCountsRow.inPlace==Tryz.prog.inPlace 5))=true:=by kernel_rfl
theorem kf10:((Rows.lowerCountsRow.unfollowed==Tryz.prog.unfollowed 5))=true:=by kernel_rfl
theorem kf11:((Rows.lowerCountsRow.recurses==Tryz.prog.recurses 5))=true:=by kernel_rfl
theorem kf12:((Rows.lowerCountsRow.named==Tryz.prog.varsNamed 5))=true:=by kernel_rfl
theorem kf13:((Rows.lowerCountsRow.maps==(Tryz.f5.params.toList++(OpenSpec.ofChange Rows.lowerCountsSpec).bare.plain.varTypes Tryz.prog).any (Tryz.prog.mapsRec ·)))=true:=by kernel_rfl
theorem kf14:((Rows.lowerCountsRow.ifaces==(Tryz.f5.params.toList++(OpenSpec.ofChange Rows.lowerCountsSpec).bare.plain.varTypes Tryz.prog).any (Tryz.prog.ifacesRec ·)))=true:=by kernel_rfl
theorem kf15:((Rows.lowerCountsRow.mapsOut==Tryz.prog.mapsAmong Tryz.f5.resultTypes.toList))=true:=by kernel_rfl
theorem kf16:((Rows.lowerCountsRow.loops==(Tryz.f5.params.toList++(OpenSpec.ofChange Rows.lowerCountsSpec).bare.plain.varTypes Tryz.prog).any (Tryz.prog.loopsFrom ·)))=true:=by kernel_rfl
theorem kf17:((Rows.lowerCountsRow.wideKeys==(Tryz.f5.params.toList++(OpenSpec.ofChange Rows.lowerCountsSpec).bare.plain.varTypes Tryz.prog++Tryz.f5.resultTypes.toList).any (Tryz.prog.wideKeysFrom ·)))=true:=by kernel_rfl
theorem kf18:((OpenSpec.ofChange Rows.lowerCountsSpec).bare.vars.all (Tryz.prog.varReadable ·))=true:=by kernel_rfl
theorem kf19:(Tryz.f5.resultTypes.all (fun t=>Tryz.prog.readableRec t && decide (t < Tryz.prog.types.size)))=true:=by kernel_rfl
theorem kf20:((Rows.lowerCountsRow.ifacesOut==Tryz.f5.resultTypes.toList.any (Tryz.prog.ifacesRec ·)))=true:=by kernel_rfl
theorem kf21:((Rows.lowerCountsRow.loopsOut==Tryz.f5.resultTypes.toList.any (Tryz.prog.loopsFrom ·)))=true:=by kernel_rfl
theorem kf22:((Rows.lowerCountsRow.plainKeys==Tryz.prog.plainKeys))=true:=by kernel_rfl
theorem kf23:(Rows.lowerCountsRow.shortTexts.isNone)=true:=by kernel_rfl
theorem kf24:(Tryz.prog.stopsHeard)=true:=by kernel_rfl
theorem kf25:(Tryz.prog.mayEnter)=true:=by kernel_rfl
theorem kf26:((Rows.lowerCountsRow.lifted==Tryz.prog.liftsFinal))=true:=by kernel_rfl
theorem kf27:((Tryz.prog.make==some Rows.lowerCountsRow.make))=true:=by kernel_rfl
theorem kf28:((Rows.lowerCountsRow.kinds==(if Rows.lowerCountsRow.domain.isEmpty then [] else Tryz.f5.params.toList.map fun t=>match Tryz.prog.underlying t with | some (.int k)=>some k | _=>none)))=true:=by kernel_rfl
theorem kf29:((Rows.lowerCountsRow.pinned==Rows.lowerCountsRow.pinnedBy))=true:=by kernel_rfl
theorem kf30:((Rows.lowerCountsRow.veiled==(Tryz.f5.params.toList++(OpenSpec.ofChange Rows.lowerCountsSpec).bare.plain.varTypes Tryz.prog++Tryz.f5.resultTypes.toList).any (Tryz.prog.veiledRec ·)))=true:=by kernel_rfl
theorem kf31:(Rows.lowerCountsRow.veiledFits Tryz.prog Tryz.f5.params.toList (Tryz.f5.params.toList++(OpenSpec.ofChange Rows.lowerCountsSpec).bare.plain.varTypes Tryz.prog++Tryz.f5.resultTypes.toList))=true:=by kernel_rfl
theorem bothT{a b:Bool}(ha:a=true)(hb:b=true):(a && b)=true:=by rw [ha,hb];rfl
theorem closedT:joinedFacts Tryz.prog 5 Tryz.f5 (OpenSpec.ofChange Rows.lowerCountsSpec).bare Rows.lowerCountsRow=true:=(bothT (bothT (bothT (bothT (bothT (bothT (bothT (bothT (bothT (bothT (bothT (bothT (bothT (bothT (bothT (bothT (bothT (bothT (bothT (bothT (bothT (bothT (bothT (bothT (bothT (bothT (bothT (bothT (bothT (bothT (bothT kf0 kf1) kf2) kf3) kf4) kf5) kf6) kf7) kf8) kf9) kf10) kf11) kf12) kf13) kf14) kf15) kf16) kf17) kf18) kf19) kf20) kf21) kf22) kf23) kf24) kf25) kf26) kf27) kf28) kf29) kf30) kf31)
end Go.Proofs.YtpaplehcafeeaaaGreatDoor.lowerCounts

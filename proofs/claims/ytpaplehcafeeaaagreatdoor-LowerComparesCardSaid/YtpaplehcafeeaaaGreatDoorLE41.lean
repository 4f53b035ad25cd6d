/- LowerWritesFact0 LowerWritesFact1 LowerWritesFact2 LowerWritesFacts LowerComparesFact0 LowerComparesFact1 LowerComparesFact2 LowerComparesFacts. -/
import Derived.Test.YtpaplehcafeeaaaGreatDoorRows
import Derived.JoinedCond
import Derived.WalkKit
import Derived.KernelRfl
set_option maxRecDepth 100000
set_option maxHeartbeats 40000000
set_option linter.unusedVariables false
set_option linter.unusedSimpArgs false
namespace Go.Proofs.YtpaplehcafeeaaaGreatDoor.lowerWrites
theorem kf0:(Rows.lowerWritesRow.wf (OpenSpec.ofChange (OpenSpec.ofChange Rows.lowerWritesSpec).bare))=true:=by kernel_rfl
theorem kf1:(laidOutB Tryz.prog)=true:=by kernel_rfl
theorem kf2:(mapsRowed Tryz.prog)=true:=by kernel_rfl
theorem kf3:(Tryz.f6.params.all (Tryz.prog.readableRec ·))=true:=by kernel_rfl
theorem kf4:(namedTie Tryz.prog Rows.lowerWritesRow.named (OpenSpec.ofChange Rows.lowerWritesSpec).bare.vars)=true:=by kernel_rfl
theorem kf5:((Rows.lowerWritesRow.stops==[]))=true:=by kernel_rfl
theorem kf6:((Tryz.prog.stops==[]))=true:=by kernel_rfl
theorem kf7:((Rows.lowerWritesRow.knobs==[]))=true:=by kernel_rfl
theorem kf8:((Tryz.prog.stopKnobs==[]))=true:=by kernel_rfl
theorem kf9:((Rows.lowerWritesRow.inPlace==Tryz.prog.inPlace 6))=true:=by kernel_rfl
theorem kf10:((Rows.lowerWritesRow.unfollowed==Tryz.prog.unfollowed 6))=true:=by kernel_rfl
theorem kf11:((Rows.lowerWritesRow.recurses==Tryz.prog.recurses 6))=true:=by kernel_rfl
theorem kf12:((Rows.lowerWritesRow.named==Tryz.prog.varsNamed 6))=true:=by kernel_rfl
theorem kf13:((Rows.lowerWritesRow.maps==(Tryz.f6.params.toList++(OpenSpec.ofChange Rows.lowerWritesSpec).bare.plain.varTypes Tryz.prog).any (Tryz.prog.mapsRec ·)))=true:=by kernel_rfl
theorem kf14:((Rows.lowerWritesRow.ifaces==(Tryz.f6.params.toList++(OpenSpec.ofChange Rows.lowerWritesSpec).bare.plain.varTypes Tryz.prog).any (Tryz.prog.ifacesRec ·)))=true:=by kernel_rfl
theorem kf15:((Rows.lowerWritesRow.mapsOut==Tryz.prog.mapsAmong Tryz.f6.resultTypes.toList))=true:=by kernel_rfl
theorem kf16:((Rows.lowerWritesRow.loops==(Tryz.f6.params.toList++(OpenSpec.ofChange Rows.lowerWritesSpec).bare.plain.varTypes Tryz.prog).any (Tryz.prog.loopsFrom ·)))=true:=by kernel_rfl
theorem kf17:((Rows.lowerWritesRow.wideKeys==(Tryz.f6.params.toList++(OpenSpec.ofChange Rows.lowerWritesSpec).bare.plain.varTypes Tryz.prog++Tryz.f6.resultTypes.toList).any (Tryz.prog.wideKeysFrom ·)))=true:=by kernel_rfl
theorem kf18:((OpenSpec.ofChange Rows.lowerWritesSpec).bare.vars.all (Tryz.prog.varReadable ·))=true:=by kernel_rfl
theorem kf19:(Tryz.f6.resultTypes.all (fun t=>Tryz.prog.readableRec t && decide (t < Tryz.prog.types.size)))=true:=by kernel_rfl
theorem kf20:((Rows.lowerWritesRow.ifacesOut==Tryz.f6.resultTypes.toList.any (Tryz.prog.ifacesRec ·)))=true:=by kernel_rfl
theorem kf21:((Rows.lowerWritesRow.loopsOut==Tryz.f6.resultTypes.toList.any (Tryz.prog.loopsFrom ·)))=true:=by kernel_rfl
theorem kf22:((Rows.lowerWritesRow.plainKeys==Tryz.prog.plainKeys))=true:=by kernel_rfl
theorem kf23:(Rows.lowerWritesRow.shortTexts.isNone)=true:=by kernel_rfl
theorem kf24:(Tryz.prog.stopsHeard)=true:=by kernel_rfl
theorem kf25:(Tryz.prog.mayEnter)=true:=by kernel_rfl
theorem kf26:((Rows.lowerWritesRow.lifted==Tryz.prog.liftsFinal))=true:=by kernel_rfl
theorem kf27:((Tryz.prog.make==some Rows.lowerWritesRow.make))=true:=by kernel_rfl
theorem kf28:((Rows.lowerWritesRow.kinds==(if Rows.lowerWritesRow.domain.isEmpty then [] else Tryz.f6.params.toList.map fun t=>match Tryz.prog.underlying t with | some (.int k)=>some k | _=>none)))=true:=by kernel_rfl
theorem kf29:((Rows.lowerWritesRow.pinned==Rows.lowerWritesRow.pinnedBy))=true:=by kernel_rfl
theorem kf30:((Rows.lowerWritesRow.veiled==(Tryz.f6.params.toList++(OpenSpec.ofChange Rows.lowerWritesSpec).bare.plain.varTypes Tryz.prog++Tryz.f6.resultTypes.toList).any (Tryz.prog.veiledRec ·)))=true:=by kernel_rfl
theorem kf31:(Rows.lowerWritesRow.veiledFits Tryz.prog Tryz.f6.params.toList (Tryz.f6.params.toList++(OpenSpec.ofChange Rows.lowerWritesSpec).bare.plain.varTypes Tryz.prog++Tryz.f6.resultTypes.toList))=true:=by kernel_rfl
theorem bothT{a b:Bool}(ha:a=true)(hb:b=true):(a && b)=true:=by rw [ha,hb];rfl
theorem closedT:joinedFacts Tryz.prog 6 Tryz.f6 (OpenSpec.ofChange Rows.lowerWritesSpec).bare Rows.lowerWritesRow=true:=(bothT (bothT (bothT (bothT (bothT (bothT (bothT (bothT (bothT (bothT (bothT (bothT (bothT (bothT (bothT (bothT (bothT (bothT (bothT (bothT (bothT (bothT (bothT (bothT (bothT (bothT (bothT (bothT (bothT (bothT (bothT kf0 kf1) kf2) kf3) kf4) kf5) kf6) kf7) kf8) kf9) kf10) kf11) kf12) kf13) kf14) kf15) kf16) kf17) kf18) kf19) kf20) kf21) kf22) kf23) kf24) kf25) kf26) kf27) kf28) kf29) kf30) kf31)
end Go.Proofs.YtpaplehcafeeaaaGreatDoor.lowerWrites
namespace Go.Proofs.YtpaplehcafeeaaaGreatDoor.lowerCompares
theorem kf0:(Rows.lowerComparesRow.wf (OpenSpec.ofChange (OpenSpec.ofChange Rows.lowerComparesSpec).bare))=true:=by kernel_rfl
theorem kf1:(laidOutB Tryz.prog)=true:=by kernel_rfl
theorem kf2:(mapsRowed Tryz.prog)=true:=by kernel_rfl
theorem kf3:(Tryz.f7.params.all (Tryz.prog.readableRec ·))=true:=by kernel_rfl
theorem kf4:(namedTie Tryz.prog Rows.lowerComparesRow.named (OpenSpec.ofChange Rows.lowerComparesSpec).bare.vars)=true:=by kernel_rfl
theorem kf5:((Rows.lowerComparesRow.stops==[]))=true:=by kernel_rfl
theorem kf6:((Tryz.prog.stops==[]))=true:=by kernel_rfl
theorem kf7:((Rows.lowerComparesRow.knobs==[]))=true:=by kernel_rfl
theorem kf8:((Tryz.prog.stopKnobs==[]))=true:=by kernel_rfl
theorem kf9:((Rows.lowerComparesRow.inPlace==Tryz.prog.inPlace 7))=true:=by kernel_rfl
theorem kf10:((Rows.lowerComparesRow.unfollowed==Tryz.prog.unfollowed 7))=true:=by kernel_rfl
theorem kf11:((Rows.lowerComparesRow.recurses==Tryz.prog.recurses 7))=true:=by kernel_rfl
theorem kf12:((Rows.lowerComparesRow.named==Tryz.prog.varsNamed 7))=true:=by kernel_rfl
theorem kf13:((Rows.lowerComparesRow.maps==(Tryz.f7.params.toList++(OpenSpec.ofChange Rows.lowerComparesSpec).bare.plain.varTypes Tryz.prog).any (Tryz.prog.mapsRec ·)))=true:=by kernel_rfl
theorem kf14:((Rows.lowerComparesRow.ifaces==(Tryz.f7.params.toList++(OpenSpec.ofChange Rows.lowerComparesSpec).bare.plain.varTypes Tryz.prog).any (Tryz.prog.ifacesRec ·)))=true:=by kernel_rfl
theorem kf15:((Rows.lowerComparesRow.mapsOut==Tryz.prog.mapsAmong Tryz.f7.resultTypes.toList))=true:=by kernel_rfl
theorem kf16:((Rows.lowerComparesRow.loops==(Tryz.f7.params.toList++(OpenSpec.ofChange Rows.lowerComparesSpec).bare.plain.varTypes Tryz.prog).any (Tryz.prog.loopsFrom ·)))=true:=by kernel_rfl
theorem kf17:((Rows.lowerComparesRow.wideKeys==(Tryz.f7.params.toList++(OpenSpec.ofChange Rows.lowerComparesSpec).bare.plain.varTypes Tryz.prog++Tryz.f7.resultTypes.toList).any (Tryz.prog.wideKeysFrom ·)))=true:=by kernel_rfl
theorem kf18:((OpenSpec.ofChange Rows.lowerComparesSpec).bare.vars.all (Tryz.prog.varReadable ·))=true:=by kernel_rfl
theorem kf19:(Tryz.f7.resultTypes.all (fun t=>Tryz.prog.readableRec t && decide (t < Tryz.prog.types.size)))=true:=by kernel_rfl
theorem kf20:((Rows.lowerComparesRow.ifacesOut==Tryz.f7.resultTypes.toList.any (Tryz.prog.ifacesRec ·)))=true:=by kernel_rfl
theorem kf21:((Rows.lowerComparesRow.loopsOut==Tryz.f7.resultTypes.toList.any (Tryz.prog.loopsFrom ·)))=true:=by kernel_rfl
theorem kf22:((Rows.lowerComparesRow.plainKeys==Tryz.prog.plainKeys))=true:=by kernel_rfl
theorem kf23:(Rows.lowerComparesRow.shortTexts.isNone)=true:=by kernel_rfl
theorem kf24:(Tryz.prog.stopsHeard)=true:=by kernel_rfl
theorem kf25:(Tryz.prog.mayEnter)=true:=by kernel_rfl
theorem kf26:((Rows.lowerComparesRow.lifted==Tryz.prog.liftsFinal))=true:=by kernel_rfl
theorem kf27:((Tryz.prog.make==some Rows.lowerComparesRow.make))=true:=by kernel_rfl
theorem kf28:((Rows.lowerComparesRow.kinds==(if Rows.lowerComparesRow.domain.isEmpty then [] else Tryz.f7.params.toList.map fun t=>match Tryz.prog.underlying t with | some (.int k)=>some k | _=>none)))=true:=by kernel_rfl
theorem kf29:((Rows.lowerComparesRow.pinned==Rows.lowerComparesRow.pinnedBy))=true:=by kernel_rfl
theorem kf30:((Rows.lowerComparesRow.veiled==(Tryz.f7.params.toList++(OpenSpec.ofChange Rows.lowerComparesSpec).bare.plain.varTypes Tryz.prog++Tryz.f7.resultTypes.toList).any (Tryz.prog.veiledRec ·)))=true:=by kernel_rfl
theorem kf31:(Rows.lowerComparesRow.veiledFits Tryz.prog Tryz.f7.params.toList (Tryz.f7.params.toList++(OpenSpec.ofChange Rows.lowerComparesSpec).bare.plain.varTypes Tryz.prog++Tryz.f7.resultTypes.toList))=true:=by kernel_rfl
theorem bothT{a b:Bool}(ha:a=true)(hb:b=true):(a && b)=true:=by rw [ha,hb];rfl
theorem closedT:joinedFacts Tryz.prog 7 Tryz.f7 (OpenSpec.ofChange Rows.lowerComparesSpec).bare Rows.lowerComparesRow=true:=(bothT (bothT (bothT (bothT (bothT (bothT (bothT (bothT (bothT (bothT (bothT (bothT (bothT (bothT (bothT (bothT (bothT (bothT (bothT (bothT (bothT (bothT (bothT (bothT (bothT (bothT (bothT (bothT (bothT (bothT (bothT kf0 kf1) kf2) kf3) kf4) kf5) kf6) kf7) kf8) kf9) kf10) kf11) kf12) kf13) kf14) kf15) kf16) kf17) kf18) kf19) kf20) kf21) kf22) kf23) kf24) kf25) kf26) kf27) kf28) kf29) kf30) kf31)
end Go.Proofs.YtpaplehcafeeaaaGreatDoor.lowerCompares

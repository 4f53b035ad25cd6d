/- LowerKeepsFact0 LowerKeepsFact1 LowerKeepsFact2 LowerKeepsFacts. -/
import Derived.Test.YtpaplehcafeeaaaGreatDoorRows
import Derived.JoinedCond
import Derived.WalkKit
import Derived.KernelRfl
set_option maxRecDepth 100000
set_option maxHeartbeats 40000000
set_option linter.unusedVariables false
set_option linter.unusedSimpArgs false
namespace Go.Proofs.YtpaplehcafeeaaaGreatDoor.lowerKeeps
theorem kf0:(Rows.lowerKeepsRow.wf (OpenSpec.ofChange (OpenSpec.ofChange Rows.lowerKeepsSpec).bare))=true:=by kernel_rfl
theorem kf1:(laidOutB Tryz.prog)=true:=by kernel_rfl
theorem kf2:(mapsRowed Tryz.prog)=true:=by kernel_rfl
theorem kf3:(Tryz.f4.params.all (Tryz.prog.readableRec ·))=true:=by kernel_rfl
theorem kf4:(namedTie Tryz.prog Rows.lowerKeepsRow.named (OpenSpec.ofChange Rows.lowerKeepsSpec).bare.vars)=true:=by kernel_rfl
theorem kf5:((Rows.lowerKeepsRow.stops==[]))=true:=by kernel_rfl
theorem kf6:((Tryz.prog.stops==[]))=true:=by kernel_rfl
theorem kf7:((Rows.lowerKeepsRow.knobs==[]))=true:=by kernel_rfl
theorem kf8:((Tryz.prog.stopKnobs==[]))=true:=by kernel_rfl
theorem kf9:((Rows.lowerKeepsRow.inPlace==Tryz.prog.inPlace 4))=true:=by kernel_rfl
theorem kf10:((Rows.lowerKeepsRow.unfollowed==Tryz.prog.unfollowed 4))=true:=by kernel_rfl
theorem kf11:((Rows.lowerKeepsRow.recurses==Tryz.prog.recurses 4))=true:=by kernel_rfl
theorem kf12:((Rows.lowerKeepsRow.named==Tryz.prog.varsNamed 4))=true:=by kernel_rfl
theorem kf13:((Rows.lowerKeepsRow.maps==(Tryz.f4.params.toList++(OpenSpec.ofChange Rows.lowerKeepsSpec).bare.plain.varTypes Tryz.prog).any (Tryz.prog.mapsRec ·)))=true:=by kernel_rfl
theorem kf14:((Rows.lowerKeepsRow.ifaces==(Tryz.f4.params.toList++(OpenSpec.ofChange Rows.lowerKeepsSpec).bare.plain.varTypes Tryz.prog).any (Tryz.prog.ifacesRec ·)))=true:=by kernel_rfl
theorem kf15:((Rows.lowerKeepsRow.mapsOut==Tryz.prog.mapsAmong Tryz.f4.resultTypes.toList))=true:=by kernel_rfl
theorem kf16:((Rows.lowerKeepsRow.loops==(Tryz.f4.params.toList++(OpenSpec.ofChange Rows.lowerKeepsSpec).bare.plain.varTypes Tryz.prog).any (Tryz.prog.loopsFrom ·)))=true:=by kernel_rfl
theorem kf17:((Rows.lowerKeepsRow.wideKeys==(Tryz.f4.params.toList++(OpenSpec.ofChange Rows.lowerKeepsSpec).bare.plain.varTypes Tryz.prog++Tryz.f4.resultTypes.toList).any (Tryz.prog.wideKeysFrom ·)))=true:=by kernel_rfl
theorem kf18:((OpenSpec.ofChange Rows.lowerKeepsSpec).bare.vars.all (Tryz.prog.varReadable ·))=true:=by kernel_rfl
theorem kf19:(Tryz.f4.resultTypes.all (fun t=>Tryz.prog.readableRec t && decide (t < Tryz.prog.types.size)))=true:=by kernel_rfl
theorem kf20:((Rows.lowerKeepsRow.ifacesOut==Tryz.f4.resultTypes.toList.any (Tryz.prog.ifacesRec ·)))=true:=by kernel_rfl
theorem kf21:((Rows.lowerKeepsRow.loopsOut==Tryz.f4.resultTypes.toList.any (Tryz.prog.loopsFrom ·)))=true:=by kernel_rfl
theorem kf22:((Rows.lowerKeepsRow.plainKeys==Tryz.prog.plainKeys))=true:=by kernel_rfl
theorem kf23:(Rows.lowerKeepsRow.shortTexts.isNone)=true:=by kernel_rfl
theorem kf24:(Tryz.prog.stopsHeard)=true:=by kernel_rfl
theorem kf25:(Tryz.prog.mayEnter)=true:=by kernel_rfl
theorem kf26:((Rows.lowerKeepsRow.lifted==Tryz.prog.liftsFinal))=true:=by kernel_rfl
theorem kf27:((Tryz.prog.make==some Rows.lowerKeepsRow.make))=true:=by kernel_rfl
theorem kf28:((Rows.lowerKeepsRow.kinds==(if Rows.lowerKeepsRow.domain.isEmpty then [] else Tryz.f4.params.toList.map fun t=>match Tryz.prog.underlying t with | some (.int k)=>some k | _=>none)))=true:=by kernel_rfl
theorem kf29:((Rows.lowerKeepsRow.pinned==Rows.lowerKeepsRow.pinnedBy))=true:=by kernel_rfl
theorem kf30:((Rows.lowerKeepsRow.veiled==(Tryz.f4.params.toList++(OpenSpec.ofChange Rows.lowerKeepsSpec).bare.plain.varTypes Tryz.prog++Tryz.f4.resultTypes.toList).any (Tryz.prog.veiledRec ·)))=true:=by kernel_rfl
theorem kf31:(Rows.lowerKeepsRow.veiledFits Tryz.prog Tryz.f4.params.toList (Tryz.f4.params.toList++(OpenSpec.ofChange Rows.lowerKeepsSpec).bare.plain.varTypes Tryz.prog++Tryz.f4.resultTypes.toList))=true:=by kernel_rfl
theorem bothT{a b:Bool}(ha:a=true)(hb:b=true):(a && b)=true:=by rw [ha,hb];rfl
theorem closedT:joinedFacts Tryz.prog 4 Tryz.f4 (OpenSpec.ofChange Rows.lowerKeepsSpec).bare Rows.lowerKeepsRow=true:=(bothT (bothT (bothT (bothT (bothT (bothT (bothT (bothT (bothT (bothT (bothT (bothT (bothT (bothT (bothT (bothT (bothT (bothT (bothT (bothT (bothT (bothT (bothT (bothT (bothT (bothT (bothT (bothT (bothT (bothT (bothT kf0 kf1) kf2) kf3) kf4) kf5) kf6) kf7) kf8) kf9) kf10) kf11) kf12) kf13) kf14) kf15) kf16) kf17) kf18) kf19) kf20) kf21) kf22) kf23) kf24) kf25) kf26) kf27) kf28) kf29) kf30) kf31)
end Go.Proofs.YtpaplehcafeeaaaGreatDoor.lowerKeeps

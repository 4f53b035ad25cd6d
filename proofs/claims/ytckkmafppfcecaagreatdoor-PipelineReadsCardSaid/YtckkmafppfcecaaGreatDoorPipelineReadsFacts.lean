/- The closed facts of the row of PipelineReads, joined. -/
import Derived.Test.YtckkmafppfcecaaGreatDoorRows
import Derived.JoinedCond
import Derived.WalkKit
import Derived.KernelRfl
import Derived.Test.YtckkmafppfcecaaGreatDoorPipelineReadsFact0
import Derived.Test.YtckkmafppfcecaaGreatDoorPipelineReadsFact1
import Derived.Test.YtckkmafppfcecaaGreatDoorPipelineReadsFact2
namespace Go.Proofs.YtckkmafppfcecaaGreatDoor.pipelineReads
set_option linter.unusedVariables false

theorem bothT {a b : Bool} (ha : a = true) (hb : b = true) : (a && b) = true := by rw [ha, hb]; rfl
set_option maxRecDepth 100000 in
theorem closedT : joinedFacts Tryz.prog 8 Tryz.f8 (OpenSpec.ofChange Rows.pipelineReadsSpec).bare Rows.pipelineReadsRow = true := (bothT (bothT (bothT (bothT (bothT (bothT (bothT (bothT (bothT (bothT (bothT (bothT (bothT (bothT (bothT (bothT (bothT (bothT (bothT (bothT (bothT (bothT (bothT (bothT (bothT (bothT (bothT (bothT (bothT (bothT (bothT kf0 kf1) kf2) kf3) kf4) kf5) kf6) kf7) kf8) kf9) kf10) kf11) kf12) kf13) kf14) kf15) kf16) kf17) kf18) kf19) kf20) kf21) kf22) kf23) kf24) kf25) kf26) kf27) kf28) kf29) kf30) kf31)
end Go.Proofs.YtckkmafppfcecaaGreatDoor.pipelineReads

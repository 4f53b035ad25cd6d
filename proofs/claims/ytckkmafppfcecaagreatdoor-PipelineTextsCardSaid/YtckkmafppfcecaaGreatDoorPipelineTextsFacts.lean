/- The closed facts of the row of PipelineTexts, joined. -/
import Derived.Test.YtckkmafppfcecaaGreatDoorRows
import Derived.JoinedCond
import Derived.WalkKit
import Derived.KernelRfl
import Derived.Test.YtckkmafppfcecaaGreatDoorPipelineTextsFact0
import Derived.Test.YtckkmafppfcecaaGreatDoorPipelineTextsFact1
import Derived.Test.YtckkmafppfcecaaGreatDoorPipelineTextsFact2
namespace Go.Proofs.YtckkmafppfcecaaGreatDoor.pipelineTexts
set_option linter.unusedVariables false

theorem bothT {a b : Bool} (ha : a = true) (hb : b = true) : (a && b) = true := by rw [ha, hb]; rfl
set_option maxRecDepth 100000 in
theorem closedT : joinedFacts Tryz.prog 9 Tryz.f9 (OpenSpec.ofChange Rows.pipelineTextsSpec).bare Rows.pipelineTextsRow = true := (bothT (bothT (bothT (bothT (bothT (bothT (bothT (bothT (bothT (bothT (bothT (bothT (bothT (bothT (bothT (bothT (bothT (bothT (bothT (bothT (bothT (bothT (bothT (bothT (bothT (bothT (bothT (bothT (bothT (bothT (bothT kf0 kf1) kf2) kf3) kf4) kf5) kf6) kf7) kf8) kf9) kf10) kf11) kf12) kf13) kf14) kf15) kf16) kf17) kf18) kf19) kf20) kf21) kf22) kf23) kf24) kf25) kf26) kf27) kf28) kf29) kf30) kf31)
end Go.Proofs.YtckkmafppfcecaaGreatDoor.pipelineTexts

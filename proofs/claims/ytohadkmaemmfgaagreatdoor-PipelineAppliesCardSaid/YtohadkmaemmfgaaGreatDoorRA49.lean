/- PipelineAppliesFacts. -/
import Derived.Test.YtohadkmaemmfgaaGreatDoorRows
import Derived.JoinedCond
import Derived.WalkKit
import Derived.KernelRfl
import Derived.Test.YtohadkmaemmfgaaGreatDoorRA47
import Derived.Test.YtohadkmaemmfgaaGreatDoorRA48
set_option maxRecDepth 100000
set_option maxHeartbeats 4000000
namespace Go.Proofs.YtohadkmaemmfgaaGreatDoor.pipelineApplies
set_option linter.unusedVariables false
theorem bothT {a b : Bool} (ha : a = true) (hb : b = true) : (a && b) = true := by rw [ha, hb]; rfl
theorem closedT : joinedFacts Tryz.prog 3 Tryz.f3 (OpenSpec.ofChange Rows.pipelineAppliesSpec).bare Rows.pipelineAppliesRow = true := (bothT (bothT (bothT (bothT (bothT (bothT (bothT (bothT (bothT (bothT (bothT (bothT (bothT (bothT (bothT (bothT (bothT (bothT (bothT (bothT (bothT (bothT (bothT (bothT (bothT (bothT (bothT (bothT (bothT (bothT (bothT kf0 kf1) kf2) kf3) kf4) kf5) kf6) kf7) kf8) kf9) kf10) kf11) kf12) kf13) kf14) kf15) kf16) kf17) kf18) kf19) kf20) kf21) kf22) kf23) kf24) kf25) kf26) kf27) kf28) kf29) kf30) kf31)
end Go.Proofs.YtohadkmaemmfgaaGreatDoor.pipelineApplies

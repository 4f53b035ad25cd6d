/- Wa Wb Wd We Wf. -/
import Derived.Test.YtohadkmaemmfgaaGreatDoorProg
import Derived.Test.YtohadkmaemmfgaaGreatDoorRI55
import Derived.WalkLawsBesides
import Derived.Deep.RegionLaw
set_option maxRecDepth 100000
set_option maxHeartbeats 4000000
namespace Go.Proofs.YtohadkmaemmfgaaGreatDoor.Bwt
open Go.RowKit Go.Proofs
set_option linter.unusedVariables false
theorem tB : Tryz.prog.underlying 23 = some (.slice (Tryz.prog.elem 23)) := by kernel_rfl
theorem eB : Tryz.prog.elem 23 = 5 := by kernel_rfl
theorem sB : ∀ W : World, (sizeOf 5).run Tryz.prog W = .ok 1 W := fun _ => by kernel_rfl
theorem uB : Tryz.prog.underlying 23 = some (.slice 5) := by kernel_rfl
theorem u8 : Tryz.prog.underlying 5 = some (.int .u8) := by kernel_rfl
theorem uS : Tryz.prog.underlying 9 = some .string := by kernel_rfl
theorem sI : ∀ W : World, (sizeOf 3).run Tryz.prog W = .ok 1 W := fun _ => by kernel_rfl
theorem uI : Tryz.prog.underlying 52 = some (.slice 3) := by kernel_rfl
theorem infoI : (Tryz.prog.info? 3).map (fun i => (i.zero, i.size, i.bytes)) = some (some (.int .i64 0), 1, 8) := by kernel_rfl


theorem _root_.Go.Proofs.YtohadkmaemmfgaaGreatDoor.Own.src {w : World} {B : Nat} {e : TypeId} {A : Option Addr} {n c : Nat} {zs : List Int} (h : Ints w A n c zs) : Cells w A n (fun i => Value.int .i64 (zs.getD i 0)) := h.2.2
end Go.Proofs.YtohadkmaemmfgaaGreatDoor.Bwt

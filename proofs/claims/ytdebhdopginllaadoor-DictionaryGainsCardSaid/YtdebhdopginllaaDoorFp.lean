/- The tables of the rune decoder, off the cell 'laid'; a world that holds them. -/
import Derived.Test.YtdebhdopginllaaDoorRows
import Derived.Test.YtdebhdopginllaaDoorFc
import Derived.Test.YtdebhdopginllaaDoorOp
import Derived.Lib.LaidIn
import Derived.Lib.LaidU8T
import Derived.PinnedBridge
namespace Go.Proofs.YtdebhdopginllaaDoor
open Go.RowKit Go.Proofs Go.Lib
set_option linter.unusedVariables false

def u8_ren : Go.Shelf.Ren := ⟨fun n => n, fun | 5 => 5 | 119 => 99 | 138 => 101 | 139 => 102 | n => n, fun | 3 => 0 | 4 => 1 | n => n⟩
theorem u8_types : U8Types Tryd.prog u8_ren := ⟨by kernel_rfl, by kernel_rfl, by kernel_rfl, by kernel_rfl⟩
theorem u8_extra : U8Extra Tryd.prog u8_ren := ⟨by kernel_rfl, by kernel_rfl, by kernel_rfl, by kernel_rfl, by kernel_rfl, by kernel_rfl, by kernel_rfl⟩
theorem acc_eq : (Rows.laid_unicode_utf8_acceptRanges : DataW Unit) = acceptData := by kernel_rfl
theorem first_eq : Rows.laid_unicode_utf8_first = firstData := Pinned.utf8First_eq
theorem tabs_of {w : World} (h3 : VarReads Tryd.prog w "unicode/utf8.first" firstData) (h4 : VarReads Tryd.prog w "unicode/utf8.acceptRanges" acceptData) : Tabs w := utf8Tabs_of_readsT u8_types u8_extra h3 h4
/-- the settled world, the two variables holding what their initialisers lay. -/
noncomputable def laidWorld (os : Os) : World :=
  let w0 := World.holding Tryd.prog os ⟨#[], #[], []⟩
  let put (h : Array Obj) (g : Nat) (cs : Array Value) : Array Obj := h.modify g fun
    | .cells _ t frozen => .cells cs t frozen
    | o => o
  let h1 := put w0.heap 0 (Lib.firstTab.map fun z => Value.int .u8 z).toArray
  let h2 := put h1 1 ((List.range 16).flatMap fun i => [Value.int .u8 (Lib.accLo i), Value.int .u8 (Lib.accHi i)]).toArray
  { w0 with heap := h2 }
theorem laid_met0 (os : Os) (args : Array Value) : laidMet Tryd.prog [("unicode/utf8.acceptRanges", acceptData), ("unicode/utf8.first", firstData)] ((laidWorld os).forCall (fun _ _ => 0) ⟨#[], args, []⟩).memory :=
  (LaidIn.of_run (l := [("unicode/utf8.acceptRanges", acceptData), ("unicode/utf8.first", firstData)]) [1, 0] 8 (by kernel_rfl) (by kernel_rfl) (by kernel_rfl) (by kernel_rfl)).met
end Go.Proofs.YtdebhdopginllaaDoor

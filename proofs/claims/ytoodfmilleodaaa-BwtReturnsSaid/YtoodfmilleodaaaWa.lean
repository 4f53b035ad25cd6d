/- Contracts of leaves: SameInts, Begins, common, comparisons. -/
import Derived.Test.YtoodfmilleodaaaProg
import Derived.Test.YtoodfmilleodaaaKit
import Derived.WalkLawsBesides
namespace Go.Proofs.Ytoodfmilleodaaa
open Go.RowKit Go.Proofs
set_option linter.unusedVariables false

theorem tB : Try.prog.underlying 22 = some (.slice (Try.prog.elem 22)) := by kernel_rfl
theorem eB : Try.prog.elem 22 = 5 := by kernel_rfl
theorem sB : ∀ W : World, (sizeOf 5).run Try.prog W = .ok 1 W := fun _ => by kernel_rfl
theorem uB : Try.prog.underlying 22 = some (.slice 5) := by kernel_rfl
theorem u8 : Try.prog.underlying 5 = some (.int .u8) := by kernel_rfl
theorem uS : Try.prog.underlying 9 = some .string := by kernel_rfl
theorem tI : Try.prog.underlying 31 = some (.slice (Try.prog.elem 31)) := by kernel_rfl
theorem eI : Try.prog.elem 31 = 3 := by kernel_rfl
theorem sI : ∀ W : World, (sizeOf 3).run Try.prog W = .ok 1 W := fun _ => by kernel_rfl

theorem gi_ext {xs ys : List Int} (hl : xs.length = ys.length) (h : ∀ i, i < xs.length → gi xs i = gi ys i) : xs = ys := by
  apply List.ext_getElem hl
  intro i h1 h2
  have := h i h1
  simpa [gi, List.getD, h1, h2] using this

end Go.Proofs.Ytoodfmilleodaaa

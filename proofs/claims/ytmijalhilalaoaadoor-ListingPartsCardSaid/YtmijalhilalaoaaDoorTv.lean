/- The five listed tables of the law ListingParts; the library's variable MaxLen off the world's shape. -/
import Derived.Test.YtmijalhilalaoaaDoorTp
import Derived.Test.YtmijalhilalaoaaDoorTt
import Derived.Lib.LaidU8T
import Derived.HandedShaped
namespace Go.Proofs.YtmijalhilalaoaaDoor
open Go.RowKit Go.Proofs Go.Lib
set_option linter.unusedVariables false

theorem acc_eqP : (Rows.laid_unicode_utf8_acceptRanges : DataW Unit) = acceptData := by kernel_rfl
theorem first_eqP : Rows.laid_unicode_utf8_first = firstData := Pinned.utf8First_eq
def laidP : List (String × DataW Unit) := [("math/bits.deBruijn32tab", Rows.laid_math_bits_deBruijn32tab), ("math/bits.deBruijn64tab", Rows.laid_math_bits_deBruijn64tab), ("internal/strconv.uint64pow10", Rows.laid_internal_strconv_uint64pow10), ("unicode/utf8.acceptRanges", acceptData), ("unicode/utf8.first", firstData)]
theorem laidP_eq : Rows.listingPartsRow.laid = laidP := by
  show [("math/bits.deBruijn32tab", Rows.laid_math_bits_deBruijn32tab), ("math/bits.deBruijn64tab", Rows.laid_math_bits_deBruijn64tab), ("internal/strconv.uint64pow10", Rows.laid_internal_strconv_uint64pow10), ("unicode/utf8.acceptRanges", Rows.laid_unicode_utf8_acceptRanges), ("unicode/utf8.first", Rows.laid_unicode_utf8_first)] = _
  rw [acc_eqP, first_eqP]; rfl
def TabP (w : World) : Prop := TabI w ∧ MaxL w
theorem tabP_of {W : World} (h : laidMet Tryd.prog Rows.listingPartsRow.laid W) (hs : W.ShapedOpen Tryd.prog) : TabP W := by
  rw [laidP_eq] at h
  have h1 := h.filter (fun x => x.1 == "internal/strconv.uint64pow10")
  have e : laidP.filter (fun x => x.1 == "internal/strconv.uint64pow10") = [("internal/strconv.uint64pow10", tabData .u64 Lib.pow10Tab)] := by kernel_rfl
  rw [e] at h1
  exact ⟨tabIs_of_head (g := 3) (t := 138) (e := 76) (n := 20) (by kernel_rfl) (by kernel_rfl) (by kernel_rfl) (by kernel_rfl) (by kernel_rfl) (by kernel_rfl) h1,
    cell_of_shapedOpen_int (P := Tryd.prog) (g := 0) (t := 3) (zero := #[.int .i64 0]) hs (of_decide_eq_true (by kernel_rfl)) (by kernel_rfl) rfl (by kernel_rfl) (by kernel_rfl) Tryd.underlying3⟩
noncomputable def laidWorldP (os : Os) : World :=
  let w0 := World.holding Tryd.prog os ⟨#[], #[], []⟩
  let put (h : Array Obj) (g : Nat) (cs : Array Value) : Array Obj := h.modify g fun
    | .cells _ t frozen => .cells cs t frozen
    | o => o
  let h1 := put w0.heap 4 (cellsD Rows.laid_math_bits_deBruijn32tab).toArray
  let h2 := put h1 5 (cellsD Rows.laid_math_bits_deBruijn64tab).toArray
  let h3 := put h2 3 (cellsD Rows.laid_internal_strconv_uint64pow10).toArray
  let h4 := put h3 1 (Lib.firstTab.map fun z => Value.int .u8 z).toArray
  let h5 := put h4 2 ((List.range 16).flatMap fun i => [Value.int .u8 (Lib.accLo i), Value.int .u8 (Lib.accHi i)]).toArray
  { w0 with heap := h5 }
theorem laid_metP (os : Os) (args : Array Value) : laidMet Tryd.prog Rows.listingPartsRow.laid ((laidWorldP os).forCall (fun _ _ => 0) ⟨#[], args, []⟩).memory := by
  rw [laidP_eq]
  exact (LaidIn.of_run (l := laidP) [4, 5, 3, 2, 1] 8 (by kernel_rfl) (by kernel_rfl) (by kernel_rfl) (by kernel_rfl)).met
end Go.Proofs.YtmijalhilalaoaaDoor

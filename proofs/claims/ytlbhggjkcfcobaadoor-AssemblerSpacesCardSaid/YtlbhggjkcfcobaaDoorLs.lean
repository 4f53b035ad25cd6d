/- The laid variables of AssemblerSpaces: five tables, two errors. -/
import Derived.Test.YtlbhggjkcfcobaaDoorLt
import Derived.Lib.LaidU8T
import Derived.HandedShaped
import Derived.PinnedBridge
namespace Go.Proofs.YtlbhggjkcfcobaaDoor
open Go.RowKit Go.Proofs Go.Lib
set_option linter.unusedVariables false

theorem acc_eqS : (Rows.laid_unicode_utf8_acceptRanges : DataW Unit) = acceptData := by kernel_rfl
theorem first_eqS : Rows.laid_unicode_utf8_first = firstData := Pinned.utf8First_eq
def laidS : List (String × DataW Unit) := [("math/bits.deBruijn32tab", Rows.laid_math_bits_deBruijn32tab), ("math/bits.deBruijn64tab", Rows.laid_math_bits_deBruijn64tab), ("internal/strconv.uint64pow10", Rows.laid_internal_strconv_uint64pow10), ("unicode/utf8.acceptRanges", acceptData), ("strconv.ErrRange", Rows.laid_strconv_ErrRange), ("strconv.ErrSyntax", Rows.laid_strconv_ErrSyntax), ("unicode/utf8.first", firstData)]
theorem laidS_eq : Rows.assemblerSpacesRow.laid = laidS := by
  show [("math/bits.deBruijn32tab", Rows.laid_math_bits_deBruijn32tab), ("math/bits.deBruijn64tab", Rows.laid_math_bits_deBruijn64tab), ("internal/strconv.uint64pow10", Rows.laid_internal_strconv_uint64pow10), ("unicode/utf8.acceptRanges", Rows.laid_unicode_utf8_acceptRanges), ("strconv.ErrRange", Rows.laid_strconv_ErrRange), ("strconv.ErrSyntax", Rows.laid_strconv_ErrSyntax), ("unicode/utf8.first", Rows.laid_unicode_utf8_first)] = _
  rw [acc_eqS, first_eqS]; rfl
def TabS (w : World) : Prop := ErrR w ∧ w.ShapedOpen Tryd.prog
theorem tabS_of {W : World} (h : laidMet Tryd.prog Rows.assemblerSpacesRow.laid W) (hs : W.ShapedOpen Tryd.prog) : TabS W := by
  rw [laidS_eq] at h
  refine ⟨?_, hs⟩
  have h1 := h.filter (fun x => x.1 == "strconv.ErrRange")
  have e : laidS.filter (fun x => x.1 == "strconv.ErrRange") = [("strconv.ErrRange", Rows.laid_strconv_ErrRange)] := by kernel_rfl
  rw [e] at h1
  have gE : Tryd.prog.globalNamed "strconv.ErrRange" = some 7 := by kernel_rfl
  obtain ⟨a0, s0, hv0, -, -, -⟩ := laid_sentinel (tp := 182) (te := 184) (ts := 9) h1 gE (by kernel_rfl) Tryd.underlying49 rowE Tryd.underlying182 Tryd.underlying184 rfl rfl Tryd.underlying9 (by kernel_rfl) (by kernel_rfl)
  exact ⟨_, by have h0 := World.var?_cell gE hv0 0; simpa using h0, Or.inr ⟨_, _, rfl⟩⟩
noncomputable def laidWorldS (os : Os) : World :=
  let w0 := World.holding Tryd.prog os ⟨#[.cells #[.string rangeS] 184, .cells #[.string syntaxS] 184], #[], []⟩
  let put (h : Array Obj) (g : Nat) (cs : Array Value) : Array Obj := h.modify g fun
    | .cells _ t frozen => .cells cs t frozen
    | o => o
  let h1 := put w0.heap 4 (cellsD Rows.laid_math_bits_deBruijn32tab).toArray
  let h2 := put h1 5 (cellsD Rows.laid_math_bits_deBruijn64tab).toArray
  let h3 := put h2 0 (cellsD Rows.laid_internal_strconv_uint64pow10).toArray
  let h4 := put h3 7 #[.iface 182 (.pointer (some ⟨lowE, 0, none⟩))]
  let h5 := put h4 6 #[.iface 182 (.pointer (some ⟨lowE + 1, 0, none⟩))]
  let h6 := put h5 2 (Lib.firstTab.map fun z => Value.int .u8 z).toArray
  let h7 := put h6 3 ((List.range 16).flatMap fun i => [Value.int .u8 (Lib.accLo i), Value.int .u8 (Lib.accHi i)]).toArray
  { w0 with heap := h7 }
theorem laid_metS (os : Os) (args : Array Value) : laidMet Tryd.prog Rows.assemblerSpacesRow.laid ((laidWorldS os).forCall (fun _ _ => 0) ⟨#[], args, []⟩).memory := by
  rw [laidS_eq]
  exact (LaidIn.of_run (l := laidS) [4, 5, 0, 3, 7, 6, 2, lowE, lowE + 1] 8 (by kernel_rfl) (by kernel_rfl) (by kernel_rfl) (by kernel_rfl)).met
end Go.Proofs.YtlbhggjkcfcobaaDoor

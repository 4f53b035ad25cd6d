/- The laid variables of the assembler's laws: three tables, two errors. -/
import Derived.Test.YtlbhggjkcfcobaaDoorGm
import Derived.Test.YtlbhggjkcfcobaaDoorRows
import Derived.Lib.LaidIn
import Derived.LaidSub
import Derived.Stop.LaidErr
namespace Go.Proofs.YtlbhggjkcfcobaaDoor
open Go.RowKit Go.Proofs Go.Lib
set_option linter.unusedVariables false

theorem starE : "*" ++ "errors.errorString" = "*errors.errorString" := by decide
theorem rowE (u : TypeId) (h : Tryd.prog.typeName? 3 u = some "*errors.errorString") : u = 182 :=
  typeName_ptr_named (nm := "errors.errorString") (by rw [starE]; kernel_rfl) (by kernel_rfl) (by decide) u (by rw [starE]; exact h)
def laidE : List (String × DataW Unit) := [("math/bits.deBruijn32tab", Rows.laid_math_bits_deBruijn32tab), ("math/bits.deBruijn64tab", Rows.laid_math_bits_deBruijn64tab), ("internal/strconv.uint64pow10", Rows.laid_internal_strconv_uint64pow10), ("strconv.ErrRange", Rows.laid_strconv_ErrRange), ("strconv.ErrSyntax", Rows.laid_strconv_ErrSyntax)]
theorem errR_of {W : World} (h : laidMet Tryd.prog laidE W) : ErrR W := by
  have h1 := h.filter (fun x => x.1 == "strconv.ErrRange")
  have e : laidE.filter (fun x => x.1 == "strconv.ErrRange") = [("strconv.ErrRange", Rows.laid_strconv_ErrRange)] := by kernel_rfl
  rw [e] at h1
  have gE : Tryd.prog.globalNamed "strconv.ErrRange" = some 7 := by kernel_rfl
  obtain ⟨a0, s0, hv0, -, -, -⟩ := laid_sentinel (tp := 182) (te := 184) (ts := 9) h1 gE (by kernel_rfl) Tryd.underlying49 rowE Tryd.underlying182 Tryd.underlying184 rfl rfl Tryd.underlying9 (by kernel_rfl) (by kernel_rfl)
  exact ⟨_, by have h0 := World.var?_cell gE hv0 0; simpa using h0, Or.inr ⟨_, _, rfl⟩⟩
def litV : DataW Unit → Value
  | .lit (.int k z) => .int k z
  | _ => .bool false
def cellsD : DataW Unit → List Value
  | .agg l => l.map litV
  | _ => []
abbrev rangeS : ByteArray := { data := #[118, 97, 108, 117, 101, 32, 111, 117, 116, 32, 111, 102, 32, 114, 97, 110, 103, 101] }
abbrev syntaxS : ByteArray := { data := #[105, 110, 118, 97, 108, 105, 100, 32, 115, 121, 110, 116, 97, 120] }
noncomputable def lowE : Nat := (World.holding Tryd.prog default ⟨#[], #[], []⟩).heap.size
noncomputable def laidWorldE (os : Os) : World :=
  let w0 := World.holding Tryd.prog os ⟨#[.cells #[.string rangeS] 184, .cells #[.string syntaxS] 184], #[], []⟩
  let put (h : Array Obj) (g : Nat) (cs : Array Value) : Array Obj := h.modify g fun
    | .cells _ t frozen => .cells cs t frozen
    | o => o
  let h1 := put w0.heap 4 (cellsD Rows.laid_math_bits_deBruijn32tab).toArray
  let h2 := put h1 5 (cellsD Rows.laid_math_bits_deBruijn64tab).toArray
  let h3 := put h2 0 (cellsD Rows.laid_internal_strconv_uint64pow10).toArray
  let h4 := put h3 7 #[.iface 182 (.pointer (some ⟨lowE, 0, none⟩))]
  let h5 := put h4 6 #[.iface 182 (.pointer (some ⟨lowE + 1, 0, none⟩))]
  { w0 with heap := h5 }
theorem laid_metE (os : Os) (args : Array Value) : laidMet Tryd.prog laidE ((laidWorldE os).forCall (fun _ _ => 0) ⟨#[], args, []⟩).memory :=
  (LaidIn.of_run (l := laidE) [4, 5, 0, 7, 6, lowE, lowE + 1] 8 (by kernel_rfl) (by kernel_rfl) (by kernel_rfl) (by kernel_rfl)).met
end Go.Proofs.YtlbhggjkcfcobaaDoor

/-
  No cell of these rows narrows 'for every input' (looked for: loops, veiled, ifaces, maps, wideKeys, modest, calm, conditions, laid).
  DERIVED. THE GIVEN ROWS OF THIS SEAT. 7 by the template 'for every input the law returns true; each argument reads behind the call as it read before'; 0 by the template 'total and deterministic' (their statements: YtkndcbnajkiceaaTotals.lean).
  GIVEN WITH THE SEED: the statements are not yours to turn. If you find one false, say at which input.
  Laid BY PROGRAM, IN A SANDBOX (cutbox-rows.mjs): the forced cells as the released guide's own fill.sh prints them over the translation 8bd797c222e5242c… (all of the seat's roots in one cut). By AI agents, Wed Nov 11 2026. No macro, syntax, notation, axiom, sorry.
-/
import Derived.Test.YtkndcbnajkiceaaChecked
import GoSem.Claim
import GoSem.ClaimJoined
import GoSem.ClaimMapViews
import Derived.JoinedTies
import Derived.KernelRfl
namespace Go.Proofs.Ytkndcbnajkiceaa
/- THE CELL 'sum', in the pinned program and in every row, IS THE sha256 OF THE DUMP (.gsa) THAT YtkndcbnajkiceaaProg.lean LOADS. Nothing in Lean hashes anything: it is a label: what it is worth is what the hold of that sum in a sandbox is worth. -/
noncomputable def Try.pinned : Pinned := { name := "ytkndcbnajkiceaa", sum := "8bd797c222e5242c412013e206bd7abbe15f3ddd6e5325ecbf8204adf1e9b265", checked := Try.checked }
namespace Rows
def none {H : Type} : Left H := { results := [], args := [] }

/-- 'compactorlaw32.SuffixSorts': WHATEVER THE INPUT: true; the input reads as it did. -/
def suffixSortsSpec : ChangeSpec := { name := "suffixSorts", fn := fun _ => fun
  | [d] => { results := [.lit (.bool true)], args := [d] }
  | _ => none }
def suffixSortsRow : OpenClaim := { program := "ytkndcbnajkiceaa", sum := "8bd797c222e5242c412013e206bd7abbe15f3ddd6e5325ecbf8204adf1e9b265", func := "compactor/compactorlaw32.SuffixSorts", spec := "suffixSorts", unfollowed := true, recurses := true, apart := false }
def SuffixSortsSaid : Prop := suffixSortsRow.holds Try.pinned (OpenSpec.ofChange suffixSortsSpec)

/-- ITS FALSE NEIGHBOUR: 'it returns false'. Refute it at one input. -/
def suffixSortsWrong : ChangeSpec := { name := "suffixSorts", fn := fun _ => fun
  | [d] => { results := [.lit (.bool false)], args := [d] }
  | _ => none }
def SuffixSortsWrongFalsely : Prop := suffixSortsRow.holds Try.pinned (OpenSpec.ofChange suffixSortsWrong)

/-- 'compactorlaw32.SuffixChecks': WHATEVER THE INPUT: true; the input reads as it did. -/
def suffixChecksSpec : ChangeSpec := { name := "suffixChecks", fn := fun _ => fun
  | [d1, d2] => { results := [.lit (.bool true)], args := [d1, d2] }
  | _ => none }
def suffixChecksRow : OpenClaim := { program := "ytkndcbnajkiceaa", sum := "8bd797c222e5242c412013e206bd7abbe15f3ddd6e5325ecbf8204adf1e9b265", func := "compactor/compactorlaw32.SuffixChecks", spec := "suffixChecks", unfollowed := true, recurses := true, apart := false }
def SuffixChecksSaid : Prop := suffixChecksRow.holds Try.pinned (OpenSpec.ofChange suffixChecksSpec)

/-- ITS FALSE NEIGHBOUR: 'it returns false'. Refute it at one input. -/
def suffixChecksWrong : ChangeSpec := { name := "suffixChecks", fn := fun _ => fun
  | [d1, d2] => { results := [.lit (.bool false)], args := [d1, d2] }
  | _ => none }
def SuffixChecksWrongFalsely : Prop := suffixChecksRow.holds Try.pinned (OpenSpec.ofChange suffixChecksWrong)

/-- 'compactorlaw32.SuffixFinds': WHATEVER THE INPUT: true; the input reads as it did. -/
def suffixFindsSpec : ChangeSpec := { name := "suffixFinds", fn := fun _ => fun
  | [d1, d2, d3] => { results := [.lit (.bool true)], args := [d1, d2, d3] }
  | _ => none }
def suffixFindsRow : OpenClaim := { program := "ytkndcbnajkiceaa", sum := "8bd797c222e5242c412013e206bd7abbe15f3ddd6e5325ecbf8204adf1e9b265", func := "compactor/compactorlaw32.SuffixFinds", spec := "suffixFinds", unfollowed := true, recurses := true, apart := false }
def SuffixFindsSaid : Prop := suffixFindsRow.holds Try.pinned (OpenSpec.ofChange suffixFindsSpec)

/-- ITS FALSE NEIGHBOUR: 'it returns false'. Refute it at one input. -/
def suffixFindsWrong : ChangeSpec := { name := "suffixFinds", fn := fun _ => fun
  | [d1, d2, d3] => { results := [.lit (.bool false)], args := [d1, d2, d3] }
  | _ => none }
def SuffixFindsWrongFalsely : Prop := suffixFindsRow.holds Try.pinned (OpenSpec.ofChange suffixFindsWrong)

/-- 'compactorlaw32.SuffixUnique': WHATEVER THE INPUT: true; the input reads as it did. -/
def suffixUniqueSpec : ChangeSpec := { name := "suffixUnique", fn := fun _ => fun
  | [d1, d2, d3] => { results := [.lit (.bool true)], args := [d1, d2, d3] }
  | _ => none }
def suffixUniqueRow : OpenClaim := { program := "ytkndcbnajkiceaa", sum := "8bd797c222e5242c412013e206bd7abbe15f3ddd6e5325ecbf8204adf1e9b265", func := "compactor/compactorlaw32.SuffixUnique", spec := "suffixUnique", unfollowed := true, recurses := true, apart := false }
def SuffixUniqueSaid : Prop := suffixUniqueRow.holds Try.pinned (OpenSpec.ofChange suffixUniqueSpec)

/-- ITS FALSE NEIGHBOUR: 'it returns false'. Refute it at one input. -/
def suffixUniqueWrong : ChangeSpec := { name := "suffixUnique", fn := fun _ => fun
  | [d1, d2, d3] => { results := [.lit (.bool false)], args := [d1, d2, d3] }
  | _ => none }
def SuffixUniqueWrongFalsely : Prop := suffixUniqueRow.holds Try.pinned (OpenSpec.ofChange suffixUniqueWrong)

/-- 'compactorlaw32.SuffixRepeats': WHATEVER THE INPUT: true; the input reads as it did. -/
def suffixRepeatsSpec : ChangeSpec := { name := "suffixRepeats", fn := fun _ => fun
  | [d] => { results := [.lit (.bool true)], args := [d] }
  | _ => none }
def suffixRepeatsRow : OpenClaim := { program := "ytkndcbnajkiceaa", sum := "8bd797c222e5242c412013e206bd7abbe15f3ddd6e5325ecbf8204adf1e9b265", func := "compactor/compactorlaw32.SuffixRepeats", spec := "suffixRepeats", unfollowed := true, recurses := true, apart := false }
def SuffixRepeatsSaid : Prop := suffixRepeatsRow.holds Try.pinned (OpenSpec.ofChange suffixRepeatsSpec)

/-- ITS FALSE NEIGHBOUR: 'it returns false'. Refute it at one input. -/
def suffixRepeatsWrong : ChangeSpec := { name := "suffixRepeats", fn := fun _ => fun
  | [d] => { results := [.lit (.bool false)], args := [d] }
  | _ => none }
def SuffixRepeatsWrongFalsely : Prop := suffixRepeatsRow.holds Try.pinned (OpenSpec.ofChange suffixRepeatsWrong)

/-- 'compactorlaw32.SuffixAscends': WHATEVER THE INPUT: true; the input reads as it did. -/
def suffixAscendsSpec : ChangeSpec := { name := "suffixAscends", fn := fun _ => fun
  | [d] => { results := [.lit (.bool true)], args := [d] }
  | _ => none }
def suffixAscendsRow : OpenClaim := { program := "ytkndcbnajkiceaa", sum := "8bd797c222e5242c412013e206bd7abbe15f3ddd6e5325ecbf8204adf1e9b265", func := "compactor/compactorlaw32.SuffixAscends", spec := "suffixAscends", inPlace := ["internal/bytealg.Compare"], unfollowed := true, recurses := true, apart := false }
def SuffixAscendsSaid : Prop := suffixAscendsRow.holds Try.pinned (OpenSpec.ofChange suffixAscendsSpec)

/-- ITS FALSE NEIGHBOUR: 'it returns false'. Refute it at one input. -/
def suffixAscendsWrong : ChangeSpec := { name := "suffixAscends", fn := fun _ => fun
  | [d] => { results := [.lit (.bool false)], args := [d] }
  | _ => none }
def SuffixAscendsWrongFalsely : Prop := suffixAscendsRow.holds Try.pinned (OpenSpec.ofChange suffixAscendsWrong)

/-- 'compactorlaw32.SuffixCounts': WHATEVER THE INPUT: true; the input reads as it did. -/
def suffixCountsSpec : ChangeSpec := { name := "suffixCounts", fn := fun _ => fun
  | [d1, d2] => { results := [.lit (.bool true)], args := [d1, d2] }
  | _ => none }
def suffixCountsRow : OpenClaim := { program := "ytkndcbnajkiceaa", sum := "8bd797c222e5242c412013e206bd7abbe15f3ddd6e5325ecbf8204adf1e9b265", func := "compactor/compactorlaw32.SuffixCounts", spec := "suffixCounts", unfollowed := true, recurses := true, apart := false }
def SuffixCountsSaid : Prop := suffixCountsRow.holds Try.pinned (OpenSpec.ofChange suffixCountsSpec)

/-- ITS FALSE NEIGHBOUR: 'it returns false'. Refute it at one input. -/
def suffixCountsWrong : ChangeSpec := { name := "suffixCounts", fn := fun _ => fun
  | [d1, d2] => { results := [.lit (.bool false)], args := [d1, d2] }
  | _ => none }
def SuffixCountsWrongFalsely : Prop := suffixCountsRow.holds Try.pinned (OpenSpec.ofChange suffixCountsWrong)

/- THE SECOND FORM. 'bulk': how many values and letters a reading holds, each counted each time it is reached (what is shared counts as often as it is met; a slice's spare places count too). A statement '..UptoSaid' is the law's where the arguments, and the package variables that the reading takes, are together of bulk at most 1048576: NARROWER than '..Said'. Prove '..Said' where nothing that the law and all that it calls make is longer than what came in: it says more and counts as full. Else prove '..UptoSaid'. A law counts once. -/
mutual
def uptoBulk {H : Type} : DataW H → Nat
  | .lit (.string bytes) => bytes.length + 1
  | .lit _ => 1
  | .nil => 1
  | .ptr d => uptoBulk d + 1
  | .slice elems spare => uptoBulkAll elems + uptoBulkAll spare + 1
  | .agg parts => uptoBulkAll parts + 1
  | .iface _ d => uptoBulk d + 1
  | .map entries => uptoBulkEntries entries + 1
  | .held _ => 1
def uptoBulkAll {H : Type} : List (DataW H) → Nat
  | [] => 0
  | d :: r => uptoBulk d + uptoBulkAll r
def uptoBulkEntries {H : Type} : List (Lit × DataW H) → Nat
  | [] => 0
  | x :: r => uptoBulkEntry x + uptoBulkEntries r
def uptoBulkEntry {H : Type} : Lit × DataW H → Nat
  | (.string bytes, d) => bytes.length + uptoBulk d + 1
  | (_, d) => uptoBulk d + 1
 end
def uptoSmall : (H : Type) → List (DataW H) → Bool := fun _ ds => decide (uptoBulkAll ds ≤ 1048576)
def OpenSpec.upto (s : _root_.Go.ChangeSpec) : _root_.Go.OpenSpec := { _root_.Go.OpenSpec.ofChange s with cond := some uptoSmall }

/-- 'compactorlaw32.SuffixSorts', WHERE WHAT IT READS IS OF BULK AT MOST 1048576: true; the input reads as it did. -/
def suffixSortsUptoRow : OpenClaim := { program := "ytkndcbnajkiceaa", sum := "8bd797c222e5242c412013e206bd7abbe15f3ddd6e5325ecbf8204adf1e9b265", func := "compactor/compactorlaw32.SuffixSorts", spec := "suffixSorts", unfollowed := true, recurses := true, apart := false, narrowed := true }
def SuffixSortsUptoSaid : Prop := suffixSortsUptoRow.holds Try.pinned (OpenSpec.upto suffixSortsSpec)

/-- 'compactorlaw32.SuffixChecks', WHERE WHAT IT READS IS OF BULK AT MOST 1048576: true; the input reads as it did. -/
def suffixChecksUptoRow : OpenClaim := { program := "ytkndcbnajkiceaa", sum := "8bd797c222e5242c412013e206bd7abbe15f3ddd6e5325ecbf8204adf1e9b265", func := "compactor/compactorlaw32.SuffixChecks", spec := "suffixChecks", unfollowed := true, recurses := true, apart := false, narrowed := true }
def SuffixChecksUptoSaid : Prop := suffixChecksUptoRow.holds Try.pinned (OpenSpec.upto suffixChecksSpec)

/-- 'compactorlaw32.SuffixFinds', WHERE WHAT IT READS IS OF BULK AT MOST 1048576: true; the input reads as it did. -/
def suffixFindsUptoRow : OpenClaim := { program := "ytkndcbnajkiceaa", sum := "8bd797c222e5242c412013e206bd7abbe15f3ddd6e5325ecbf8204adf1e9b265", func := "compactor/compactorlaw32.SuffixFinds", spec := "suffixFinds", unfollowed := true, recurses := true, apart := false, narrowed := true }
def SuffixFindsUptoSaid : Prop := suffixFindsUptoRow.holds Try.pinned (OpenSpec.upto suffixFindsSpec)

/-- 'compactorlaw32.SuffixUnique', WHERE WHAT IT READS IS OF BULK AT MOST 1048576: true; the input reads as it did. -/
def suffixUniqueUptoRow : OpenClaim := { program := "ytkndcbnajkiceaa", sum := "8bd797c222e5242c412013e206bd7abbe15f3ddd6e5325ecbf8204adf1e9b265", func := "compactor/compactorlaw32.SuffixUnique", spec := "suffixUnique", unfollowed := true, recurses := true, apart := false, narrowed := true }
def SuffixUniqueUptoSaid : Prop := suffixUniqueUptoRow.holds Try.pinned (OpenSpec.upto suffixUniqueSpec)

/-- 'compactorlaw32.SuffixRepeats', WHERE WHAT IT READS IS OF BULK AT MOST 1048576: true; the input reads as it did. -/
def suffixRepeatsUptoRow : OpenClaim := { program := "ytkndcbnajkiceaa", sum := "8bd797c222e5242c412013e206bd7abbe15f3ddd6e5325ecbf8204adf1e9b265", func := "compactor/compactorlaw32.SuffixRepeats", spec := "suffixRepeats", unfollowed := true, recurses := true, apart := false, narrowed := true }
def SuffixRepeatsUptoSaid : Prop := suffixRepeatsUptoRow.holds Try.pinned (OpenSpec.upto suffixRepeatsSpec)

/-- 'compactorlaw32.SuffixAscends', WHERE WHAT IT READS IS OF BULK AT MOST 1048576: true; the input reads as it did. -/
def suffixAscendsUptoRow : OpenClaim := { program := "ytkndcbnajkiceaa", sum := "8bd797c222e5242c412013e206bd7abbe15f3ddd6e5325ecbf8204adf1e9b265", func := "compactor/compactorlaw32.SuffixAscends", spec := "suffixAscends", inPlace := ["internal/bytealg.Compare"], unfollowed := true, recurses := true, apart := false, narrowed := true }
def SuffixAscendsUptoSaid : Prop := suffixAscendsUptoRow.holds Try.pinned (OpenSpec.upto suffixAscendsSpec)

/-- 'compactorlaw32.SuffixCounts', WHERE WHAT IT READS IS OF BULK AT MOST 1048576: true; the input reads as it did. -/
def suffixCountsUptoRow : OpenClaim := { program := "ytkndcbnajkiceaa", sum := "8bd797c222e5242c412013e206bd7abbe15f3ddd6e5325ecbf8204adf1e9b265", func := "compactor/compactorlaw32.SuffixCounts", spec := "suffixCounts", unfollowed := true, recurses := true, apart := false, narrowed := true }
def SuffixCountsUptoSaid : Prop := suffixCountsUptoRow.holds Try.pinned (OpenSpec.upto suffixCountsSpec)

end Rows
end Go.Proofs.Ytkndcbnajkiceaa

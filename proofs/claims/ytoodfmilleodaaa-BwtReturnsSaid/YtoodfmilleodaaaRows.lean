/-
  No cell of these rows narrows 'for every input' (looked for: loops, veiled, ifaces, maps, wideKeys, modest, calm, conditions, laid).
  DERIVED. THE GIVEN ROWS OF THIS SEAT. 9 by the template 'for every input the law returns true; each argument reads behind the call as it read before'; 0 by the template 'total and deterministic' (their statements: YtoodfmilleodaaaTotals.lean).
  GIVEN WITH THE SEED: the statements are not yours to turn. If you find one false, say at which input.
  Laid BY PROGRAM, IN A SANDBOX (cutbox-rows.mjs): the forced cells as the released guide's own fill.sh prints them over the translation f4f1e6d554946aa3… (all of the seat's roots in one cut). By AI agents, Wed Nov 11 2026. No macro, syntax, notation, axiom, sorry.
-/
import Derived.Test.YtoodfmilleodaaaChecked
import GoSem.Claim
import GoSem.ClaimJoined
import GoSem.ClaimMapViews
import Derived.JoinedTies
import Derived.KernelRfl
namespace Go.Proofs.Ytoodfmilleodaaa
/- THE CELL 'sum', in the pinned program and in every row, IS THE sha256 OF THE DUMP (.gsa) THAT YtoodfmilleodaaaProg.lean LOADS. Nothing in Lean hashes anything: it is a label: what it is worth is what the hold of that sum in a sandbox is worth. -/
noncomputable def Try.pinned : Pinned := { name := "ytoodfmilleodaaa", sum := "f4f1e6d554946aa3250a6de03ea5dce0342464df62d9f602e0bae05a47d85245", checked := Try.checked }
namespace Rows
def none {H : Type} : Left H := { results := [], args := [] }

/-- 'compactorlaw33.BwtAccepts': WHATEVER THE INPUT: true; the input reads as it did. -/
def bwtAcceptsSpec : ChangeSpec := { name := "bwtAccepts", fn := fun _ => fun
  | [d1, d2] => { results := [.lit (.bool true)], args := [d1, d2] }
  | _ => none }
def bwtAcceptsRow : OpenClaim := { program := "ytoodfmilleodaaa", sum := "f4f1e6d554946aa3250a6de03ea5dce0342464df62d9f602e0bae05a47d85245", func := "compactor/compactorlaw33.BwtAccepts", spec := "bwtAccepts", unfollowed := true, recurses := true, apart := false }
def BwtAcceptsSaid : Prop := bwtAcceptsRow.holds Try.pinned (OpenSpec.ofChange bwtAcceptsSpec)

/-- ITS FALSE NEIGHBOUR: 'it returns false'. Refute it at one input. -/
def bwtAcceptsWrong : ChangeSpec := { name := "bwtAccepts", fn := fun _ => fun
  | [d1, d2] => { results := [.lit (.bool false)], args := [d1, d2] }
  | _ => none }
def BwtAcceptsWrongFalsely : Prop := bwtAcceptsRow.holds Try.pinned (OpenSpec.ofChange bwtAcceptsWrong)

/-- 'compactorlaw33.BwtSearches': WHATEVER THE INPUT: true; the input reads as it did. -/
def bwtSearchesSpec : ChangeSpec := { name := "bwtSearches", fn := fun _ => fun
  | [d1, d2, d3] => { results := [.lit (.bool true)], args := [d1, d2, d3] }
  | _ => none }
def bwtSearchesRow : OpenClaim := { program := "ytoodfmilleodaaa", sum := "f4f1e6d554946aa3250a6de03ea5dce0342464df62d9f602e0bae05a47d85245", func := "compactor/compactorlaw33.BwtSearches", spec := "bwtSearches", unfollowed := true, recurses := true, apart := false }
def BwtSearchesSaid : Prop := bwtSearchesRow.holds Try.pinned (OpenSpec.ofChange bwtSearchesSpec)

/-- ITS FALSE NEIGHBOUR: 'it returns false'. Refute it at one input. -/
def bwtSearchesWrong : ChangeSpec := { name := "bwtSearches", fn := fun _ => fun
  | [d1, d2, d3] => { results := [.lit (.bool false)], args := [d1, d2, d3] }
  | _ => none }
def BwtSearchesWrongFalsely : Prop := bwtSearchesRow.holds Try.pinned (OpenSpec.ofChange bwtSearchesWrong)

/-- 'compactorlaw33.BwtCounts': WHATEVER THE INPUT: true; the input reads as it did. -/
def bwtCountsSpec : ChangeSpec := { name := "bwtCounts", fn := fun _ => fun
  | [d1, d2, d3] => { results := [.lit (.bool true)], args := [d1, d2, d3] }
  | _ => none }
def bwtCountsRow : OpenClaim := { program := "ytoodfmilleodaaa", sum := "f4f1e6d554946aa3250a6de03ea5dce0342464df62d9f602e0bae05a47d85245", func := "compactor/compactorlaw33.BwtCounts", spec := "bwtCounts", unfollowed := true, recurses := true, apart := false }
def BwtCountsSaid : Prop := bwtCountsRow.holds Try.pinned (OpenSpec.ofChange bwtCountsSpec)

/-- ITS FALSE NEIGHBOUR: 'it returns false'. Refute it at one input. -/
def bwtCountsWrong : ChangeSpec := { name := "bwtCounts", fn := fun _ => fun
  | [d1, d2, d3] => { results := [.lit (.bool false)], args := [d1, d2, d3] }
  | _ => none }
def BwtCountsWrongFalsely : Prop := bwtCountsRow.holds Try.pinned (OpenSpec.ofChange bwtCountsWrong)

/-- 'compactorlaw33.BwtPermutes': WHATEVER THE INPUT: true; the input reads as it did. -/
def bwtPermutesSpec : ChangeSpec := { name := "bwtPermutes", fn := fun _ => fun
  | [d1, d2] => { results := [.lit (.bool true)], args := [d1, d2] }
  | _ => none }
def bwtPermutesRow : OpenClaim := { program := "ytoodfmilleodaaa", sum := "f4f1e6d554946aa3250a6de03ea5dce0342464df62d9f602e0bae05a47d85245", func := "compactor/compactorlaw33.BwtPermutes", spec := "bwtPermutes", unfollowed := true, recurses := true, apart := false }
def BwtPermutesSaid : Prop := bwtPermutesRow.holds Try.pinned (OpenSpec.ofChange bwtPermutesSpec)

/-- ITS FALSE NEIGHBOUR: 'it returns false'. Refute it at one input. -/
def bwtPermutesWrong : ChangeSpec := { name := "bwtPermutes", fn := fun _ => fun
  | [d1, d2] => { results := [.lit (.bool false)], args := [d1, d2] }
  | _ => none }
def BwtPermutesWrongFalsely : Prop := bwtPermutesRow.holds Try.pinned (OpenSpec.ofChange bwtPermutesWrong)

/-- 'compactorlaw33.BwtForward': WHATEVER THE INPUT: true; the input reads as it did. -/
def bwtForwardSpec : ChangeSpec := { name := "bwtForward", fn := fun _ => fun
  | [d] => { results := [.lit (.bool true)], args := [d] }
  | _ => none }
def bwtForwardRow : OpenClaim := { program := "ytoodfmilleodaaa", sum := "f4f1e6d554946aa3250a6de03ea5dce0342464df62d9f602e0bae05a47d85245", func := "compactor/compactorlaw33.BwtForward", spec := "bwtForward", unfollowed := true, recurses := true, apart := false }
def BwtForwardSaid : Prop := bwtForwardRow.holds Try.pinned (OpenSpec.ofChange bwtForwardSpec)

/-- ITS FALSE NEIGHBOUR: 'it returns false'. Refute it at one input. -/
def bwtForwardWrong : ChangeSpec := { name := "bwtForward", fn := fun _ => fun
  | [d] => { results := [.lit (.bool false)], args := [d] }
  | _ => none }
def BwtForwardWrongFalsely : Prop := bwtForwardRow.holds Try.pinned (OpenSpec.ofChange bwtForwardWrong)

/-- 'compactorlaw33.BwtInverse': WHATEVER THE INPUT: true; the input reads as it did. -/
def bwtInverseSpec : ChangeSpec := { name := "bwtInverse", fn := fun _ => fun
  | [d1, d2] => { results := [.lit (.bool true)], args := [d1, d2] }
  | _ => none }
def bwtInverseRow : OpenClaim := { program := "ytoodfmilleodaaa", sum := "f4f1e6d554946aa3250a6de03ea5dce0342464df62d9f602e0bae05a47d85245", func := "compactor/compactorlaw33.BwtInverse", spec := "bwtInverse", unfollowed := true, recurses := true, apart := false }
def BwtInverseSaid : Prop := bwtInverseRow.holds Try.pinned (OpenSpec.ofChange bwtInverseSpec)

/-- ITS FALSE NEIGHBOUR: 'it returns false'. Refute it at one input. -/
def bwtInverseWrong : ChangeSpec := { name := "bwtInverse", fn := fun _ => fun
  | [d1, d2] => { results := [.lit (.bool false)], args := [d1, d2] }
  | _ => none }
def BwtInverseWrongFalsely : Prop := bwtInverseRow.holds Try.pinned (OpenSpec.ofChange bwtInverseWrong)

/-- 'compactorlaw33.BwtPacks': WHATEVER THE INPUT: true; the input reads as it did. -/
def bwtPacksSpec : ChangeSpec := { name := "bwtPacks", fn := fun _ => fun
  | [d] => { results := [.lit (.bool true)], args := [d] }
  | _ => none }
def bwtPacksRow : OpenClaim := { program := "ytoodfmilleodaaa", sum := "f4f1e6d554946aa3250a6de03ea5dce0342464df62d9f602e0bae05a47d85245", func := "compactor/compactorlaw33.BwtPacks", spec := "bwtPacks", unfollowed := true, recurses := true, apart := false }
def BwtPacksSaid : Prop := bwtPacksRow.holds Try.pinned (OpenSpec.ofChange bwtPacksSpec)

/-- ITS FALSE NEIGHBOUR: 'it returns false'. Refute it at one input. -/
def bwtPacksWrong : ChangeSpec := { name := "bwtPacks", fn := fun _ => fun
  | [d] => { results := [.lit (.bool false)], args := [d] }
  | _ => none }
def BwtPacksWrongFalsely : Prop := bwtPacksRow.holds Try.pinned (OpenSpec.ofChange bwtPacksWrong)

/-- 'compactorlaw33.BwtGathers': WHATEVER THE INPUT: true; the input reads as it did. -/
def bwtGathersSpec : ChangeSpec := { name := "bwtGathers", fn := fun _ => fun
  | [d1, d2] => { results := [.lit (.bool true)], args := [d1, d2] }
  | _ => none }
def bwtGathersRow : OpenClaim := { program := "ytoodfmilleodaaa", sum := "f4f1e6d554946aa3250a6de03ea5dce0342464df62d9f602e0bae05a47d85245", func := "compactor/compactorlaw33.BwtGathers", spec := "bwtGathers", inPlace := ["internal/bytealg.IndexByte", "internal/bytealg.MakeNoZero"], unfollowed := true, recurses := true, apart := false }
def BwtGathersSaid : Prop := bwtGathersRow.holds Try.pinned (OpenSpec.ofChange bwtGathersSpec)

/-- ITS FALSE NEIGHBOUR: 'it returns false'. Refute it at one input. -/
def bwtGathersWrong : ChangeSpec := { name := "bwtGathers", fn := fun _ => fun
  | [d1, d2] => { results := [.lit (.bool false)], args := [d1, d2] }
  | _ => none }
def BwtGathersWrongFalsely : Prop := bwtGathersRow.holds Try.pinned (OpenSpec.ofChange bwtGathersWrong)

/-- 'compactorlaw33.BwtReturns': WHATEVER THE INPUT: true; the input reads as it did. -/
def bwtReturnsSpec : ChangeSpec := { name := "bwtReturns", fn := fun _ => fun
  | [d] => { results := [.lit (.bool true)], args := [d] }
  | _ => none }
def bwtReturnsRow : OpenClaim := { program := "ytoodfmilleodaaa", sum := "f4f1e6d554946aa3250a6de03ea5dce0342464df62d9f602e0bae05a47d85245", func := "compactor/compactorlaw33.BwtReturns", spec := "bwtReturns", unfollowed := true, recurses := true, apart := false }
def BwtReturnsSaid : Prop := bwtReturnsRow.holds Try.pinned (OpenSpec.ofChange bwtReturnsSpec)

/-- ITS FALSE NEIGHBOUR: 'it returns false'. Refute it at one input. -/
def bwtReturnsWrong : ChangeSpec := { name := "bwtReturns", fn := fun _ => fun
  | [d] => { results := [.lit (.bool false)], args := [d] }
  | _ => none }
def BwtReturnsWrongFalsely : Prop := bwtReturnsRow.holds Try.pinned (OpenSpec.ofChange bwtReturnsWrong)

/- THE SECOND FORM. 'bulk': how many values and letters a reading holds, each counted each time it is reached (what is shared counts as often as it is met; a slice's spare places count too). A statement '..UptoSaid' is the law's where the arguments, and the package variables that the reading takes, are together of bulk at most 1048576: NARROWER than '..Said'. Prove '..Said' where nothing that the law and all that it calls make is longer than what came in: it says more and counts as full. Else prove '..UptoSaid'. A law counts once. -/
mutual
def uptoBulk {H : Type} : DataW H → Nat
  | .lit (.string bytes) => bytes.length + 1
  | .lit _ => 1
  | .nil => 1
  | .ptr d => uptoBulk d + 1
  | .slice elems spare => uptoBulkAll elems + uptoBulkAll spare + 1
  | .agg parts => uptoBulkAll parts + 1
  | .iface _ d => uptoBulk d + 1
  | .map entries => uptoBulkEntries entries + 1
  | .held _ => 1
def uptoBulkAll {H : Type} : List (DataW H) → Nat
  | [] => 0
  | d :: r => uptoBulk d + uptoBulkAll r
def uptoBulkEntries {H : Type} : List (Lit × DataW H) → Nat
  | [] => 0
  | x :: r => uptoBulkEntry x + uptoBulkEntries r
def uptoBulkEntry {H : Type} : Lit × DataW H → Nat
  | (.string bytes, d) => bytes.length + uptoBulk d + 1
  | (_, d) => uptoBulk d + 1
 end
def uptoSmall : (H : Type) → List (DataW H) → Bool := fun _ ds => decide (uptoBulkAll ds ≤ 1048576)
def OpenSpec.upto (s : _root_.Go.ChangeSpec) : _root_.Go.OpenSpec := { _root_.Go.OpenSpec.ofChange s with cond := some uptoSmall }

/-- 'compactorlaw33.BwtAccepts', WHERE WHAT IT READS IS OF BULK AT MOST 1048576: true; the input reads as it did. -/
def bwtAcceptsUptoRow : OpenClaim := { program := "ytoodfmilleodaaa", sum := "f4f1e6d554946aa3250a6de03ea5dce0342464df62d9f602e0bae05a47d85245", func := "compactor/compactorlaw33.BwtAccepts", spec := "bwtAccepts", unfollowed := true, recurses := true, apart := false, narrowed := true }
def BwtAcceptsUptoSaid : Prop := bwtAcceptsUptoRow.holds Try.pinned (OpenSpec.upto bwtAcceptsSpec)

/-- 'compactorlaw33.BwtSearches', WHERE WHAT IT READS IS OF BULK AT MOST 1048576: true; the input reads as it did. -/
def bwtSearchesUptoRow : OpenClaim := { program := "ytoodfmilleodaaa", sum := "f4f1e6d554946aa3250a6de03ea5dce0342464df62d9f602e0bae05a47d85245", func := "compactor/compactorlaw33.BwtSearches", spec := "bwtSearches", unfollowed := true, recurses := true, apart := false, narrowed := true }
def BwtSearchesUptoSaid : Prop := bwtSearchesUptoRow.holds Try.pinned (OpenSpec.upto bwtSearchesSpec)

/-- 'compactorlaw33.BwtCounts', WHERE WHAT IT READS IS OF BULK AT MOST 1048576: true; the input reads as it did. -/
def bwtCountsUptoRow : OpenClaim := { program := "ytoodfmilleodaaa", sum := "f4f1e6d554946aa3250a6de03ea5dce0342464df62d9f602e0bae05a47d85245", func := "compactor/compactorlaw33.BwtCounts", spec := "bwtCounts", unfollowed := true, recurses := true, apart := false, narrowed := true }
def BwtCountsUptoSaid : Prop := bwtCountsUptoRow.holds Try.pinned (OpenSpec.upto bwtCountsSpec)

/-- 'compactorlaw33.BwtPermutes', WHERE WHAT IT READS IS OF BULK AT MOST 1048576: true; the input reads as it did. -/
def bwtPermutesUptoRow : OpenClaim := { program := "ytoodfmilleodaaa", sum := "f4f1e6d554946aa3250a6de03ea5dce0342464df62d9f602e0bae05a47d85245", func := "compactor/compactorlaw33.BwtPermutes", spec := "bwtPermutes", unfollowed := true, recurses := true, apart := false, narrowed := true }
def BwtPermutesUptoSaid : Prop := bwtPermutesUptoRow.holds Try.pinned (OpenSpec.upto bwtPermutesSpec)

/-- 'compactorlaw33.BwtForward', WHERE WHAT IT READS IS OF BULK AT MOST 1048576: true; the input reads as it did. -/
def bwtForwardUptoRow : OpenClaim := { program := "ytoodfmilleodaaa", sum := "f4f1e6d554946aa3250a6de03ea5dce0342464df62d9f602e0bae05a47d85245", func := "compactor/compactorlaw33.BwtForward", spec := "bwtForward", unfollowed := true, recurses := true, apart := false, narrowed := true }
def BwtForwardUptoSaid : Prop := bwtForwardUptoRow.holds Try.pinned (OpenSpec.upto bwtForwardSpec)

/-- 'compactorlaw33.BwtInverse', WHERE WHAT IT READS IS OF BULK AT MOST 1048576: true; the input reads as it did. -/
def bwtInverseUptoRow : OpenClaim := { program := "ytoodfmilleodaaa", sum := "f4f1e6d554946aa3250a6de03ea5dce0342464df62d9f602e0bae05a47d85245", func := "compactor/compactorlaw33.BwtInverse", spec := "bwtInverse", unfollowed := true, recurses := true, apart := false, narrowed := true }
def BwtInverseUptoSaid : Prop := bwtInverseUptoRow.holds Try.pinned (OpenSpec.upto bwtInverseSpec)

/-- 'compactorlaw33.BwtPacks', WHERE WHAT IT READS IS OF BULK AT MOST 1048576: true; the input reads as it did. -/
def bwtPacksUptoRow : OpenClaim := { program := "ytoodfmilleodaaa", sum := "f4f1e6d554946aa3250a6de03ea5dce0342464df62d9f602e0bae05a47d85245", func := "compactor/compactorlaw33.BwtPacks", spec := "bwtPacks", unfollowed := true, recurses := true, apart := false, narrowed := true }
def BwtPacksUptoSaid : Prop := bwtPacksUptoRow.holds Try.pinned (OpenSpec.upto bwtPacksSpec)

/-- 'compactorlaw33.BwtGathers', WHERE WHAT IT READS IS OF BULK AT MOST 1048576: true; the input reads as it did. -/
def bwtGathersUptoRow : OpenClaim := { program := "ytoodfmilleodaaa", sum := "f4f1e6d554946aa3250a6de03ea5dce0342464df62d9f602e0bae05a47d85245", func := "compactor/compactorlaw33.BwtGathers", spec := "bwtGathers", inPlace := ["internal/bytealg.IndexByte", "internal/bytealg.MakeNoZero"], unfollowed := true, recurses := true, apart := false, narrowed := true }
def BwtGathersUptoSaid : Prop := bwtGathersUptoRow.holds Try.pinned (OpenSpec.upto bwtGathersSpec)

/-- 'compactorlaw33.BwtReturns', WHERE WHAT IT READS IS OF BULK AT MOST 1048576: true; the input reads as it did. -/
def bwtReturnsUptoRow : OpenClaim := { program := "ytoodfmilleodaaa", sum := "f4f1e6d554946aa3250a6de03ea5dce0342464df62d9f602e0bae05a47d85245", func := "compactor/compactorlaw33.BwtReturns", spec := "bwtReturns", unfollowed := true, recurses := true, apart := false, narrowed := true }
def BwtReturnsUptoSaid : Prop := bwtReturnsUptoRow.holds Try.pinned (OpenSpec.upto bwtReturnsSpec)

end Rows
end Go.Proofs.Ytoodfmilleodaaa

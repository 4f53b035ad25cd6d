/-
  No cell of these rows narrows 'for every input' (looked for: loops, veiled, ifaces, maps, wideKeys, modest, calm, conditions, laid).
  DERIVED. THE GIVEN ROWS OF THIS SEAT. 5 by the template 'for every input the law returns true; each argument reads behind the call as it read before'; 0 by the template 'total and deterministic' (their statements: YtdebhdopginllaaTotals.lean).
  GIVEN WITH THE SEED: the statements are not yours to turn. If you find one false, say at which input.
  Laid BY PROGRAM, IN A SANDBOX (cutbox-rows.mjs): the forced cells as the released guide's own fill.sh prints them over the translation f8c7d6bfba4ac30e… (all of the seat's roots in one cut). By AI agents, Wed Nov 11 2026. No macro, syntax, notation, axiom, sorry.
-/
import Derived.Test.YtdebhdopginllaaChecked
import GoSem.Claim
import GoSem.ClaimJoined
import GoSem.ClaimMapViews
import Derived.JoinedTies
import Derived.KernelRfl
namespace Go.Proofs.Ytdebhdopginllaa
/- THE CELL 'sum', in the pinned program and in every row, IS THE sha256 OF THE DUMP (.gsa) THAT YtdebhdopginllaaProg.lean LOADS. Nothing in Lean hashes anything: it is a label: what it is worth is what the hold of that sum in a sandbox is worth. -/
noncomputable def Try.pinned : Pinned := { name := "ytdebhdopginllaa", sum := "f8c7d6bfba4ac30eeff0aaae68c5bd7306e740cbb5212b6f050e4b2a635d52ed", checked := Try.checked }
namespace Rows
def none {H : Type} : Left H := { results := [], args := [] }

/-- 'compactorlaw37.DictionaryLearns': WHATEVER THE INPUT: true; the input reads as it did. -/
def dictionaryLearnsSpec : ChangeSpec := { name := "dictionaryLearns", fn := fun _ => fun
  | [d1, d2] => { results := [.lit (.bool true)], args := [d1, d2] }
  | _ => none }
def dictionaryLearnsRow : OpenClaim := { program := "ytdebhdopginllaa", sum := "f8c7d6bfba4ac30eeff0aaae68c5bd7306e740cbb5212b6f050e4b2a635d52ed", func := "compactor/compactorlaw37.DictionaryLearns", spec := "dictionaryLearns", unfollowed := true, recurses := true, apart := false }
def DictionaryLearnsSaid : Prop := dictionaryLearnsRow.holds Try.pinned (OpenSpec.ofChange dictionaryLearnsSpec)

/-- ITS FALSE NEIGHBOUR: 'it returns false'. Refute it at one input. -/
def dictionaryLearnsWrong : ChangeSpec := { name := "dictionaryLearns", fn := fun _ => fun
  | [d1, d2] => { results := [.lit (.bool false)], args := [d1, d2] }
  | _ => none }
def DictionaryLearnsWrongFalsely : Prop := dictionaryLearnsRow.holds Try.pinned (OpenSpec.ofChange dictionaryLearnsWrong)

/-- 'compactorlaw37.DictionaryCodes': WHATEVER THE INPUT: true; the input reads as it did. -/
def dictionaryCodesSpec : ChangeSpec := { name := "dictionaryCodes", fn := fun _ => fun
  | [d1, d2] => { results := [.lit (.bool true)], args := [d1, d2] }
  | _ => none }
def dictionaryCodesRow : OpenClaim := { program := "ytdebhdopginllaa", sum := "f8c7d6bfba4ac30eeff0aaae68c5bd7306e740cbb5212b6f050e4b2a635d52ed", func := "compactor/compactorlaw37.DictionaryCodes", spec := "dictionaryCodes", unfollowed := true, recurses := true, apart := false }
def DictionaryCodesSaid : Prop := dictionaryCodesRow.holds Try.pinned (OpenSpec.ofChange dictionaryCodesSpec)

/-- ITS FALSE NEIGHBOUR: 'it returns false'. Refute it at one input. -/
def dictionaryCodesWrong : ChangeSpec := { name := "dictionaryCodes", fn := fun _ => fun
  | [d1, d2] => { results := [.lit (.bool false)], args := [d1, d2] }
  | _ => none }
def DictionaryCodesWrongFalsely : Prop := dictionaryCodesRow.holds Try.pinned (OpenSpec.ofChange dictionaryCodesWrong)

/-- 'compactorlaw37.DictionaryUncodes': WHATEVER THE INPUT: true; the input reads as it did. -/
def dictionaryUncodesSpec : ChangeSpec := { name := "dictionaryUncodes", fn := fun _ => fun
  | [d1, d2] => { results := [.lit (.bool true)], args := [d1, d2] }
  | _ => none }
def dictionaryUncodesRow : OpenClaim := { program := "ytdebhdopginllaa", sum := "f8c7d6bfba4ac30eeff0aaae68c5bd7306e740cbb5212b6f050e4b2a635d52ed", func := "compactor/compactorlaw37.DictionaryUncodes", spec := "dictionaryUncodes", unfollowed := true, recurses := true, apart := false }
def DictionaryUncodesSaid : Prop := dictionaryUncodesRow.holds Try.pinned (OpenSpec.ofChange dictionaryUncodesSpec)

/-- ITS FALSE NEIGHBOUR: 'it returns false'. Refute it at one input. -/
def dictionaryUncodesWrong : ChangeSpec := { name := "dictionaryUncodes", fn := fun _ => fun
  | [d1, d2] => { results := [.lit (.bool false)], args := [d1, d2] }
  | _ => none }
def DictionaryUncodesWrongFalsely : Prop := dictionaryUncodesRow.holds Try.pinned (OpenSpec.ofChange dictionaryUncodesWrong)

/-- 'compactorlaw37.DictionaryForwards': WHATEVER THE INPUT: true; the input reads as it did. -/
def dictionaryForwardsSpec : ChangeSpec := { name := "dictionaryForwards", fn := fun _ => fun
  | [d] => { results := [.lit (.bool true)], args := [d] }
  | _ => none }
def dictionaryForwardsRow : OpenClaim := { program := "ytdebhdopginllaa", sum := "f8c7d6bfba4ac30eeff0aaae68c5bd7306e740cbb5212b6f050e4b2a635d52ed", func := "compactor/compactorlaw37.DictionaryForwards", spec := "dictionaryForwards", unfollowed := true, recurses := true, apart := false }
def DictionaryForwardsSaid : Prop := dictionaryForwardsRow.holds Try.pinned (OpenSpec.ofChange dictionaryForwardsSpec)

/-- ITS FALSE NEIGHBOUR: 'it returns false'. Refute it at one input. -/
def dictionaryForwardsWrong : ChangeSpec := { name := "dictionaryForwards", fn := fun _ => fun
  | [d] => { results := [.lit (.bool false)], args := [d] }
  | _ => none }
def DictionaryForwardsWrongFalsely : Prop := dictionaryForwardsRow.holds Try.pinned (OpenSpec.ofChange dictionaryForwardsWrong)

/-- 'compactorlaw37.DictionaryReturns': WHATEVER THE INPUT: true; the input reads as it did. -/
def dictionaryReturnsSpec : ChangeSpec := { name := "dictionaryReturns", fn := fun _ => fun
  | [d] => { results := [.lit (.bool true)], args := [d] }
  | _ => none }
def dictionaryReturnsRow : OpenClaim := { program := "ytdebhdopginllaa", sum := "f8c7d6bfba4ac30eeff0aaae68c5bd7306e740cbb5212b6f050e4b2a635d52ed", func := "compactor/compactorlaw37.DictionaryReturns", spec := "dictionaryReturns", unfollowed := true, recurses := true, apart := false }
def DictionaryReturnsSaid : Prop := dictionaryReturnsRow.holds Try.pinned (OpenSpec.ofChange dictionaryReturnsSpec)

/-- ITS FALSE NEIGHBOUR: 'it returns false'. Refute it at one input. -/
def dictionaryReturnsWrong : ChangeSpec := { name := "dictionaryReturns", fn := fun _ => fun
  | [d] => { results := [.lit (.bool false)], args := [d] }
  | _ => none }
def DictionaryReturnsWrongFalsely : Prop := dictionaryReturnsRow.holds Try.pinned (OpenSpec.ofChange dictionaryReturnsWrong)

/- THE SECOND FORM. 'bulk': how many values and letters a reading holds, each counted each time it is reached (what is shared counts as often as it is met; a slice's spare places count too). A statement '..UptoSaid' is the law's where the arguments, and the package variables that the reading takes, are together of bulk at most 1048576: NARROWER than '..Said'. Prove '..Said' where nothing that the law and all that it calls make is longer than what came in: it says more and counts as full. Else prove '..UptoSaid'. A law counts once. -/
mutual
def uptoBulk {H : Type} : DataW H → Nat
  | .lit (.string bytes) => bytes.length + 1
  | .lit _ => 1
  | .nil => 1
  | .ptr d => uptoBulk d + 1
  | .slice elems spare => uptoBulkAll elems + uptoBulkAll spare + 1
  | .agg parts => uptoBulkAll parts + 1
  | .iface _ d => uptoBulk d + 1
  | .map entries => uptoBulkEntries entries + 1
  | .held _ => 1
def uptoBulkAll {H : Type} : List (DataW H) → Nat
  | [] => 0
  | d :: r => uptoBulk d + uptoBulkAll r
def uptoBulkEntries {H : Type} : List (Lit × DataW H) → Nat
  | [] => 0
  | x :: r => uptoBulkEntry x + uptoBulkEntries r
def uptoBulkEntry {H : Type} : Lit × DataW H → Nat
  | (.string bytes, d) => bytes.length + uptoBulk d + 1
  | (_, d) => uptoBulk d + 1
 end
def uptoSmall : (H : Type) → List (DataW H) → Bool := fun _ ds => decide (uptoBulkAll ds ≤ 1048576)
def OpenSpec.upto (s : _root_.Go.ChangeSpec) : _root_.Go.OpenSpec := { _root_.Go.OpenSpec.ofChange s with cond := some uptoSmall }

/-- 'compactorlaw37.DictionaryLearns', WHERE WHAT IT READS IS OF BULK AT MOST 1048576: true; the input reads as it did. -/
def dictionaryLearnsUptoRow : OpenClaim := { program := "ytdebhdopginllaa", sum := "f8c7d6bfba4ac30eeff0aaae68c5bd7306e740cbb5212b6f050e4b2a635d52ed", func := "compactor/compactorlaw37.DictionaryLearns", spec := "dictionaryLearns", unfollowed := true, recurses := true, apart := false, narrowed := true }
def DictionaryLearnsUptoSaid : Prop := dictionaryLearnsUptoRow.holds Try.pinned (OpenSpec.upto dictionaryLearnsSpec)

/-- 'compactorlaw37.DictionaryCodes', WHERE WHAT IT READS IS OF BULK AT MOST 1048576: true; the input reads as it did. -/
def dictionaryCodesUptoRow : OpenClaim := { program := "ytdebhdopginllaa", sum := "f8c7d6bfba4ac30eeff0aaae68c5bd7306e740cbb5212b6f050e4b2a635d52ed", func := "compactor/compactorlaw37.DictionaryCodes", spec := "dictionaryCodes", unfollowed := true, recurses := true, apart := false, narrowed := true }
def DictionaryCodesUptoSaid : Prop := dictionaryCodesUptoRow.holds Try.pinned (OpenSpec.upto dictionaryCodesSpec)

/-- 'compactorlaw37.DictionaryUncodes', WHERE WHAT IT READS IS OF BULK AT MOST 1048576: true; the input reads as it did. -/
def dictionaryUncodesUptoRow : OpenClaim := { program := "ytdebhdopginllaa", sum := "f8c7d6bfba4ac30eeff0aaae68c5bd7306e740cbb5212b6f050e4b2a635d52ed", func := "compactor/compactorlaw37.DictionaryUncodes", spec := "dictionaryUncodes", unfollowed := true, recurses := true, apart := false, narrowed := true }
def DictionaryUncodesUptoSaid : Prop := dictionaryUncodesUptoRow.holds Try.pinned (OpenSpec.upto dictionaryUncodesSpec)

/-- 'compactorlaw37.DictionaryForwards', WHERE WHAT IT READS IS OF BULK AT MOST 1048576: true; the input reads as it did. -/
def dictionaryForwardsUptoRow : OpenClaim := { program := "ytdebhdopginllaa", sum := "f8c7d6bfba4ac30eeff0aaae68c5bd7306e740cbb5212b6f050e4b2a635d52ed", func := "compactor/compactorlaw37.DictionaryForwards", spec := "dictionaryForwards", unfollowed := true, recurses := true, apart := false, narrowed := true }
def DictionaryForwardsUptoSaid : Prop := dictionaryForwardsUptoRow.holds Try.pinned (OpenSpec.upto dictionaryForwardsSpec)

/-- 'compactorlaw37.DictionaryReturns', WHERE WHAT IT READS IS OF BULK AT MOST 1048576: true; the input reads as it did. -/
def dictionaryReturnsUptoRow : OpenClaim := { program := "ytdebhdopginllaa", sum := "f8c7d6bfba4ac30eeff0aaae68c5bd7306e740cbb5212b6f050e4b2a635d52ed", func := "compactor/compactorlaw37.DictionaryReturns", spec := "dictionaryReturns", unfollowed := true, recurses := true, apart := false, narrowed := true }
def DictionaryReturnsUptoSaid : Prop := dictionaryReturnsUptoRow.holds Try.pinned (OpenSpec.upto dictionaryReturnsSpec)

end Rows
end Go.Proofs.Ytdebhdopginllaa

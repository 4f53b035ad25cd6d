/-
  DERIVED. GIVEN WITH THE SEED: THE CARDS: each row of YtdebhdopginllaaDoorRows.lean that lists a variable, with what it lists TIED to the program's text (the seventh form; the later family's looks); each row that meets fmt, with fmt's text TOLD by the authors' own Lean function (tested against real Go, not proved from fmt's source: count such statements apart). THE CARD IS WHAT COUNTS. Prove the row's statement (the work); the ties are given (YtdebhdopginllaaDoorTie.lean); close each card by the builder's one call (the guide's Derived/Test/ToyasCard.lean, 'card_holds'). Laid BY PROGRAM, IN A SANDBOX (cutbox-door.mjs). By AI agents, Wed Nov 11 2026. No macro, syntax, notation, axiom, sorry.
-/
import Derived.Test.YtdebhdopginllaaDoorRows
import GoSem.ClaimSeven
namespace Go.Proofs.YtdebhdopginllaaDoor
namespace Rows

/-- THE TIED CARD OF 'compactorlaw37.DictionaryGains'. -/
def dictionaryGainsCard : Claim7 := { stood := { row := dictionaryGainsRow, standIns := [], harness := (true, "5ae7074bffd9baae2a7a576d2a30d177f118f59ab50c57c922a349456af61853"), looks := false }, kinds := [], alts := [], laidByText := true, laidKinds := [.data, .pinned], laidTests := true, laidLooks := .later }
def DictionaryGainsCardSaid : Prop := Claim7.holds Tryd.pinned (.plain (OpenSpec.ofChange dictionaryGainsSpec)) dictionaryGainsCard

/-- THE TIED CARD OF 'compactorlaw37.DictionaryShortens'. -/
def dictionaryShortensCard : Claim7 := { stood := { row := dictionaryShortensRow, standIns := [], harness := (true, "5ae7074bffd9baae2a7a576d2a30d177f118f59ab50c57c922a349456af61853"), looks := false }, kinds := [], alts := [], laidByText := true, laidKinds := [.data, .pinned], laidTests := true, laidLooks := .later }
def DictionaryShortensCardSaid : Prop := Claim7.holds Tryd.pinned (.plain (OpenSpec.ofChange dictionaryShortensSpec)) dictionaryShortensCard

/-- THE SECOND FORM's CARD OF 'compactorlaw37.DictionaryGains'. -/
def dictionaryGainsUptoCard : Claim7 := { stood := { row := dictionaryGainsUptoRow, standIns := [], harness := (true, "5ae7074bffd9baae2a7a576d2a30d177f118f59ab50c57c922a349456af61853"), looks := false }, kinds := [], alts := [], laidByText := true, laidKinds := [.data, .pinned], laidTests := true, laidLooks := .later }
def DictionaryGainsUptoCardSaid : Prop := Claim7.holds Tryd.pinned (.plain (OpenSpec.upto dictionaryGainsSpec)) dictionaryGainsUptoCard

/-- THE SECOND FORM's CARD OF 'compactorlaw37.DictionaryShortens'. -/
def dictionaryShortensUptoCard : Claim7 := { stood := { row := dictionaryShortensUptoRow, standIns := [], harness := (true, "5ae7074bffd9baae2a7a576d2a30d177f118f59ab50c57c922a349456af61853"), looks := false }, kinds := [], alts := [], laidByText := true, laidKinds := [.data, .pinned], laidTests := true, laidLooks := .later }
def DictionaryShortensUptoCardSaid : Prop := Claim7.holds Tryd.pinned (.plain (OpenSpec.upto dictionaryShortensSpec)) dictionaryShortensUptoCard
end Rows
end Go.Proofs.YtdebhdopginllaaDoor

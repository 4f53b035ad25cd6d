/-
  DERIVED. GIVEN WITH THE SEED: THE CARDS: each row of YtlbhggjkcfcobaaDoorRows.lean that lists a variable, with what it lists TIED to the program's text (the seventh form; the later family's looks); each row that meets fmt, with fmt's text TOLD by the authors' own Lean function (tested against real Go, not proved from fmt's source: count such statements apart). THE CARD IS WHAT COUNTS. Prove the row's statement (the work); the ties are given (YtlbhggjkcfcobaaDoorTie.lean); close each card by the builder's one call (the guide's Derived/Test/ToyasCard.lean, 'card_holds'). Laid BY PROGRAM, IN A SANDBOX (cutbox-door.mjs). By AI agents, Wed Nov 11 2026. No macro, syntax, notation, axiom, sorry.
-/
import Derived.Test.YtlbhggjkcfcobaaDoorRows
import GoSem.ClaimSeven
namespace Go.Proofs.YtlbhggjkcfcobaaDoor
namespace Rows

/-- THE TIED CARD OF 'compactorlaw16.AssemblerAssembles'. -/
def assemblerAssemblesCard : Claim7 := { stood := { row := assemblerAssemblesRow, standIns := [], harness := (true, "424d4ed5acc8afcf024c8db71c6f7d654622af03ca214787a60bfd3d3576e176"), looks := true }, kinds := [], alts := [], laidByText := true, laidKinds := [.data, .data, .data, .sentinel, .sentinel], laidTests := true, laidLooks := .later }
def AssemblerAssemblesCardSaid : Prop := Claim7.holds Tryd.pinned (.plain (OpenSpec.ofChange assemblerAssemblesSpec)) assemblerAssemblesCard

/-- THE TIED CARD OF 'compactorlaw16.AssemblerNames'. -/
def assemblerNamesCard : Claim7 := { stood := { row := assemblerNamesRow, standIns := [], harness := (true, "424d4ed5acc8afcf024c8db71c6f7d654622af03ca214787a60bfd3d3576e176"), looks := true }, kinds := [], alts := [], laidByText := true, laidKinds := [.data, .data, .data, .sentinel, .sentinel], laidTests := true, laidLooks := .later }
def AssemblerNamesCardSaid : Prop := Claim7.holds Tryd.pinned (.plain (OpenSpec.ofChange assemblerNamesSpec)) assemblerNamesCard

/-- THE TIED CARD OF 'compactorlaw16.AssemblerJoins'. -/
def assemblerJoinsCard : Claim7 := { stood := { row := assemblerJoinsRow, standIns := [], harness := (true, "424d4ed5acc8afcf024c8db71c6f7d654622af03ca214787a60bfd3d3576e176"), looks := true }, kinds := [], alts := [], laidByText := true, laidKinds := [.data, .data, .data, .sentinel, .sentinel], laidTests := true, laidLooks := .later }
def AssemblerJoinsCardSaid : Prop := Claim7.holds Tryd.pinned (.plain (OpenSpec.ofChange assemblerJoinsSpec)) assemblerJoinsCard

/-- THE TIED CARD OF 'compactorlaw16.AssemblerStops'. -/
def assemblerStopsCard : Claim7 := { stood := { row := assemblerStopsRow, standIns := [], harness := (true, "424d4ed5acc8afcf024c8db71c6f7d654622af03ca214787a60bfd3d3576e176"), looks := true }, kinds := [], alts := [], laidByText := true, laidKinds := [.data, .data, .data, .sentinel, .sentinel], laidTests := true, laidLooks := .later }
def AssemblerStopsCardSaid : Prop := Claim7.holds Tryd.pinned (.plain (OpenSpec.ofChange assemblerStopsSpec)) assemblerStopsCard

/-- THE TIED CARD OF 'compactorlaw16.AssemblerBuilds'. -/
def assemblerBuildsCard : Claim7 := { stood := { row := assemblerBuildsRow, standIns := [], harness := (true, "424d4ed5acc8afcf024c8db71c6f7d654622af03ca214787a60bfd3d3576e176"), looks := true }, kinds := [], alts := [], laidByText := true, laidKinds := [.data, .data, .data, .sentinel, .sentinel], laidTests := true, laidLooks := .later }
def AssemblerBuildsCardSaid : Prop := Claim7.holds Tryd.pinned (.plain (OpenSpec.ofChange assemblerBuildsSpec)) assemblerBuildsCard

/-- THE TIED CARD OF 'compactorlaw16.AssemblerForms'. -/
def assemblerFormsCard : Claim7 := { stood := { row := assemblerFormsRow, standIns := [], harness := (true, "424d4ed5acc8afcf024c8db71c6f7d654622af03ca214787a60bfd3d3576e176"), looks := true }, kinds := [], alts := [], laidByText := true, laidKinds := [.data, .data, .data, .sentinel, .sentinel], laidTests := true, laidLooks := .later }
def AssemblerFormsCardSaid : Prop := Claim7.holds Tryd.pinned (.plain (OpenSpec.ofChange assemblerFormsSpec)) assemblerFormsCard

/-- THE TIED CARD OF 'compactorlaw16.AssemblerSpaces'. -/
def assemblerSpacesCard : Claim7 := { stood := { row := assemblerSpacesRow, standIns := [], harness := (true, "424d4ed5acc8afcf024c8db71c6f7d654622af03ca214787a60bfd3d3576e176"), looks := true }, kinds := [], alts := [], laidByText := true, laidKinds := [.data, .data, .data, .data, .sentinel, .sentinel, .pinned], laidTests := true, laidLooks := .later }
def AssemblerSpacesCardSaid : Prop := Claim7.holds Tryd.pinned (.plain (OpenSpec.ofChange assemblerSpacesSpec)) assemblerSpacesCard

/-- THE SECOND FORM's CARD OF 'compactorlaw16.AssemblerAssembles'. -/
def assemblerAssemblesUptoCard : Claim7 := { stood := { row := assemblerAssemblesUptoRow, standIns := [], harness := (true, "424d4ed5acc8afcf024c8db71c6f7d654622af03ca214787a60bfd3d3576e176"), looks := true }, kinds := [], alts := [], laidByText := true, laidKinds := [.data, .data, .data, .sentinel, .sentinel], laidTests := true, laidLooks := .later }
def AssemblerAssemblesUptoCardSaid : Prop := Claim7.holds Tryd.pinned (.plain (OpenSpec.upto assemblerAssemblesSpec)) assemblerAssemblesUptoCard

/-- THE SECOND FORM's CARD OF 'compactorlaw16.AssemblerNames'. -/
def assemblerNamesUptoCard : Claim7 := { stood := { row := assemblerNamesUptoRow, standIns := [], harness := (true, "424d4ed5acc8afcf024c8db71c6f7d654622af03ca214787a60bfd3d3576e176"), looks := true }, kinds := [], alts := [], laidByText := true, laidKinds := [.data, .data, .data, .sentinel, .sentinel], laidTests := true, laidLooks := .later }
def AssemblerNamesUptoCardSaid : Prop := Claim7.holds Tryd.pinned (.plain (OpenSpec.upto assemblerNamesSpec)) assemblerNamesUptoCard

/-- THE SECOND FORM's CARD OF 'compactorlaw16.AssemblerJoins'. -/
def assemblerJoinsUptoCard : Claim7 := { stood := { row := assemblerJoinsUptoRow, standIns := [], harness := (true, "424d4ed5acc8afcf024c8db71c6f7d654622af03ca214787a60bfd3d3576e176"), looks := true }, kinds := [], alts := [], laidByText := true, laidKinds := [.data, .data, .data, .sentinel, .sentinel], laidTests := true, laidLooks := .later }
def AssemblerJoinsUptoCardSaid : Prop := Claim7.holds Tryd.pinned (.plain (OpenSpec.upto assemblerJoinsSpec)) assemblerJoinsUptoCard

/-- THE SECOND FORM's CARD OF 'compactorlaw16.AssemblerStops'. -/
def assemblerStopsUptoCard : Claim7 := { stood := { row := assemblerStopsUptoRow, standIns := [], harness := (true, "424d4ed5acc8afcf024c8db71c6f7d654622af03ca214787a60bfd3d3576e176"), looks := true }, kinds := [], alts := [], laidByText := true, laidKinds := [.data, .data, .data, .sentinel, .sentinel], laidTests := true, laidLooks := .later }
def AssemblerStopsUptoCardSaid : Prop := Claim7.holds Tryd.pinned (.plain (OpenSpec.upto assemblerStopsSpec)) assemblerStopsUptoCard

/-- THE SECOND FORM's CARD OF 'compactorlaw16.AssemblerBuilds'. -/
def assemblerBuildsUptoCard : Claim7 := { stood := { row := assemblerBuildsUptoRow, standIns := [], harness := (true, "424d4ed5acc8afcf024c8db71c6f7d654622af03ca214787a60bfd3d3576e176"), looks := true }, kinds := [], alts := [], laidByText := true, laidKinds := [.data, .data, .data, .sentinel, .sentinel], laidTests := true, laidLooks := .later }
def AssemblerBuildsUptoCardSaid : Prop := Claim7.holds Tryd.pinned (.plain (OpenSpec.upto assemblerBuildsSpec)) assemblerBuildsUptoCard

/-- THE SECOND FORM's CARD OF 'compactorlaw16.AssemblerForms'. -/
def assemblerFormsUptoCard : Claim7 := { stood := { row := assemblerFormsUptoRow, standIns := [], harness := (true, "424d4ed5acc8afcf024c8db71c6f7d654622af03ca214787a60bfd3d3576e176"), looks := true }, kinds := [], alts := [], laidByText := true, laidKinds := [.data, .data, .data, .sentinel, .sentinel], laidTests := true, laidLooks := .later }
def AssemblerFormsUptoCardSaid : Prop := Claim7.holds Tryd.pinned (.plain (OpenSpec.upto assemblerFormsSpec)) assemblerFormsUptoCard

/-- THE SECOND FORM's CARD OF 'compactorlaw16.AssemblerSpaces'. -/
def assemblerSpacesUptoCard : Claim7 := { stood := { row := assemblerSpacesUptoRow, standIns := [], harness := (true, "424d4ed5acc8afcf024c8db71c6f7d654622af03ca214787a60bfd3d3576e176"), looks := true }, kinds := [], alts := [], laidByText := true, laidKinds := [.data, .data, .data, .data, .sentinel, .sentinel, .pinned], laidTests := true, laidLooks := .later }
def AssemblerSpacesUptoCardSaid : Prop := Claim7.holds Tryd.pinned (.plain (OpenSpec.upto assemblerSpacesSpec)) assemblerSpacesUptoCard
end Rows
end Go.Proofs.YtlbhggjkcfcobaaDoor

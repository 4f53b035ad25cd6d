/-
  DERIVED. GIVEN WITH THE SEED: THE CARDS: each row of YtckkmafppfcecaaGreatDoorRows.lean that lists a variable, with what it lists TIED to the program's text (the seventh form; the later family's looks); each row that meets fmt, with fmt's text TOLD by the authors' own Lean function (tested against real Go, not proved from fmt's source: count such statements apart). THE CARD IS WHAT COUNTS. Prove the row's statement (the work); the ties are given (YtckkmafppfcecaaGreatDoorTie.lean); close each card by the builder's one call (the guide's Derived/Test/ToyasCard.lean, 'card_holds'). Laid BY PROGRAM, IN A SANDBOX (cutbox-door.mjs). By AI agents, Wed Nov 11 2026. No macro, syntax, notation, axiom, sorry.
-/
import Derived.Test.YtckkmafppfcecaaGreatDoorRows
import GoSem.ClaimSeven
namespace Go.Proofs.YtckkmafppfcecaaGreatDoor
namespace Rows

/-- THE TIED CARD OF 'compactorlaw41.PipelineApplies'. -/
def pipelineAppliesCard : Claim7 := { stood := { row := pipelineAppliesRow, standIns := [], harness := (true, "7ac5f7760a162aaf2b8bed3022245ed204f83131ea36e4a4123493497578975b"), looks := true }, kinds := [], alts := [], laidByText := true, laidKinds := [.data, .data, .data, .data, .sentinel, .sentinel, .pinned], laidTests := true, laidLooks := .later }
def PipelineAppliesCardSaid : Prop := Claim7.holds Tryz.pinned (.plain (OpenSpec.ofChange pipelineAppliesSpec)) pipelineAppliesCard

/-- THE TIED CARD OF 'compactorlaw41.PipelineComposes'. -/
def pipelineComposesCard : Claim7 := { stood := { row := pipelineComposesRow, standIns := [], harness := (true, "7ac5f7760a162aaf2b8bed3022245ed204f83131ea36e4a4123493497578975b"), looks := true }, kinds := [], alts := [], laidByText := true, laidKinds := [.data, .data, .data, .data, .sentinel, .sentinel, .pinned], laidTests := true, laidLooks := .later }
def PipelineComposesCardSaid : Prop := Claim7.holds Tryz.pinned (.plain (OpenSpec.ofChange pipelineComposesSpec)) pipelineComposesCard

/-- THE TIED CARD OF 'compactorlaw41.PipelineTypes'. -/
def pipelineTypesCard : Claim7 := { stood := { row := pipelineTypesRow, standIns := [], harness := (true, "7ac5f7760a162aaf2b8bed3022245ed204f83131ea36e4a4123493497578975b"), looks := true }, kinds := [], alts := [], laidByText := true, laidKinds := [.data, .data, .data, .data, .sentinel, .sentinel, .pinned], laidTests := true, laidLooks := .later }
def PipelineTypesCardSaid : Prop := Claim7.holds Tryz.pinned (.plain (OpenSpec.ofChange pipelineTypesSpec)) pipelineTypesCard

/-- THE TIED CARD OF 'compactorlaw41.PipelineInverts'. -/
def pipelineInvertsCard : Claim7 := { stood := { row := pipelineInvertsRow, standIns := [], harness := (true, "7ac5f7760a162aaf2b8bed3022245ed204f83131ea36e4a4123493497578975b"), looks := true }, kinds := [], alts := [], laidByText := true, laidKinds := [.data, .data, .data, .data, .sentinel, .sentinel, .pinned], laidTests := true, laidLooks := .later }
def PipelineInvertsCardSaid : Prop := Claim7.holds Tryz.pinned (.plain (OpenSpec.ofChange pipelineInvertsSpec)) pipelineInvertsCard

/-- THE TIED CARD OF 'compactorlaw41.PipelineReturns'. -/
def pipelineReturnsCard : Claim7 := { stood := { row := pipelineReturnsRow, standIns := [], harness := (true, "7ac5f7760a162aaf2b8bed3022245ed204f83131ea36e4a4123493497578975b"), looks := true }, kinds := [], alts := [], laidByText := true, laidKinds := [.data, .data, .data, .data, .sentinel, .sentinel, .pinned], laidTests := true, laidLooks := .later }
def PipelineReturnsCardSaid : Prop := Claim7.holds Tryz.pinned (.plain (OpenSpec.ofChange pipelineReturnsSpec)) pipelineReturnsCard

/-- THE TIED CARD OF 'compactorlaw41.PipelineReads'. -/
def pipelineReadsCard : Claim7 := { stood := { row := pipelineReadsRow, standIns := [], harness := (true, "7ac5f7760a162aaf2b8bed3022245ed204f83131ea36e4a4123493497578975b"), looks := true }, kinds := [], alts := [], laidByText := true, laidKinds := [.data, .data, .data, .data, .sentinel, .sentinel, .pinned], laidTests := true, laidLooks := .later }
def PipelineReadsCardSaid : Prop := Claim7.holds Tryz.pinned (.plain (OpenSpec.ofChange pipelineReadsSpec)) pipelineReadsCard

/-- THE TIED CARD OF 'compactorlaw41.PipelineTexts'. -/
def pipelineTextsCard : Claim7 := { stood := { row := pipelineTextsRow, standIns := [], harness := (true, "7ac5f7760a162aaf2b8bed3022245ed204f83131ea36e4a4123493497578975b"), looks := true }, kinds := [], alts := [], laidByText := true, laidKinds := [.data, .data, .data, .data, .sentinel, .sentinel, .pinned], laidTests := true, laidLooks := .later }
def PipelineTextsCardSaid : Prop := Claim7.holds Tryz.pinned (.plain (OpenSpec.ofChange pipelineTextsSpec)) pipelineTextsCard

/-- THE SECOND FORM's CARD OF 'compactorlaw41.PipelineApplies'. -/
def pipelineAppliesUptoCard : Claim7 := { stood := { row := pipelineAppliesUptoRow, standIns := [], harness := (true, "7ac5f7760a162aaf2b8bed3022245ed204f83131ea36e4a4123493497578975b"), looks := true }, kinds := [], alts := [], laidByText := true, laidKinds := [.data, .data, .data, .data, .sentinel, .sentinel, .pinned], laidTests := true, laidLooks := .later }
def PipelineAppliesUptoCardSaid : Prop := Claim7.holds Tryz.pinned (.plain (OpenSpec.upto pipelineAppliesSpec)) pipelineAppliesUptoCard

/-- THE SECOND FORM's CARD OF 'compactorlaw41.PipelineComposes'. -/
def pipelineComposesUptoCard : Claim7 := { stood := { row := pipelineComposesUptoRow, standIns := [], harness := (true, "7ac5f7760a162aaf2b8bed3022245ed204f83131ea36e4a4123493497578975b"), looks := true }, kinds := [], alts := [], laidByText := true, laidKinds := [.data, .data, .data, .data, .sentinel, .sentinel, .pinned], laidTests := true, laidLooks := .later }
def PipelineComposesUptoCardSaid : Prop := Claim7.holds Tryz.pinned (.plain (OpenSpec.upto pipelineComposesSpec)) pipelineComposesUptoCard

/-- THE SECOND FORM's CARD OF 'compactorlaw41.PipelineTypes'. -/
def pipelineTypesUptoCard : Claim7 := { stood := { row := pipelineTypesUptoRow, standIns := [], harness := (true, "7ac5f7760a162aaf2b8bed3022245ed204f83131ea36e4a4123493497578975b"), looks := true }, kinds := [], alts := [], laidByText := true, laidKinds := [.data, .data, .data, .data, .sentinel, .sentinel, .pinned], laidTests := true, laidLooks := .later }
def PipelineTypesUptoCardSaid : Prop := Claim7.holds Tryz.pinned (.plain (OpenSpec.upto pipelineTypesSpec)) pipelineTypesUptoCard

/-- THE SECOND FORM's CARD OF 'compactorlaw41.PipelineInverts'. -/
def pipelineInvertsUptoCard : Claim7 := { stood := { row := pipelineInvertsUptoRow, standIns := [], harness := (true, "7ac5f7760a162aaf2b8bed3022245ed204f83131ea36e4a4123493497578975b"), looks := true }, kinds := [], alts := [], laidByText := true, laidKinds := [.data, .data, .data, .data, .sentinel, .sentinel, .pinned], laidTests := true, laidLooks := .later }
def PipelineInvertsUptoCardSaid : Prop := Claim7.holds Tryz.pinned (.plain (OpenSpec.upto pipelineInvertsSpec)) pipelineInvertsUptoCard

/-- THE SECOND FORM's CARD OF 'compactorlaw41.PipelineReturns'. -/
def pipelineReturnsUptoCard : Claim7 := { stood := { row := pipelineReturnsUptoRow, standIns := [], harness := (true, "7ac5f7760a162aaf2b8bed3022245ed204f83131ea36e4a4123493497578975b"), looks := true }, kinds := [], alts := [], laidByText := true, laidKinds := [.data, .data, .data, .data, .sentinel, .sentinel, .pinned], laidTests := true, laidLooks := .later }
def PipelineReturnsUptoCardSaid : Prop := Claim7.holds Tryz.pinned (.plain (OpenSpec.upto pipelineReturnsSpec)) pipelineReturnsUptoCard

/-- THE SECOND FORM's CARD OF 'compactorlaw41.PipelineReads'. -/
def pipelineReadsUptoCard : Claim7 := { stood := { row := pipelineReadsUptoRow, standIns := [], harness := (true, "7ac5f7760a162aaf2b8bed3022245ed204f83131ea36e4a4123493497578975b"), looks := true }, kinds := [], alts := [], laidByText := true, laidKinds := [.data, .data, .data, .data, .sentinel, .sentinel, .pinned], laidTests := true, laidLooks := .later }
def PipelineReadsUptoCardSaid : Prop := Claim7.holds Tryz.pinned (.plain (OpenSpec.upto pipelineReadsSpec)) pipelineReadsUptoCard

/-- THE SECOND FORM's CARD OF 'compactorlaw41.PipelineTexts'. -/
def pipelineTextsUptoCard : Claim7 := { stood := { row := pipelineTextsUptoRow, standIns := [], harness := (true, "7ac5f7760a162aaf2b8bed3022245ed204f83131ea36e4a4123493497578975b"), looks := true }, kinds := [], alts := [], laidByText := true, laidKinds := [.data, .data, .data, .data, .sentinel, .sentinel, .pinned], laidTests := true, laidLooks := .later }
def PipelineTextsUptoCardSaid : Prop := Claim7.holds Tryz.pinned (.plain (OpenSpec.upto pipelineTextsSpec)) pipelineTextsUptoCard
end Rows
end Go.Proofs.YtckkmafppfcecaaGreatDoor

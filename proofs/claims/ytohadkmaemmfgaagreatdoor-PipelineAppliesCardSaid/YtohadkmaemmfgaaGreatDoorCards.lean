/-
  DERIVED. GIVEN WITH THE SEED: THE CARDS: each row of YtohadkmaemmfgaaGreatDoorRows.lean that lists a variable, with what it lists TIED to the program's text (the seventh form; the later family's looks); each row that meets fmt, with fmt's text TOLD by the authors' own Lean function (tested against real Go, not proved from fmt's source: count such statements apart). THE CARD IS WHAT COUNTS. Prove the row's statement (the work); the ties are given (YtohadkmaemmfgaaGreatDoorTie.lean); close each card by the builder's one call (the guide's Derived/Test/ToyasCard.lean, 'card_holds'). Laid BY PROGRAM, IN A SANDBOX (cutbox-door.mjs). By AI agents, Wed Nov 11 2026. No macro, syntax, notation, axiom, sorry.
-/
import Derived.Test.YtohadkmaemmfgaaGreatDoorRows
import GoSem.ClaimSeven
namespace Go.Proofs.YtohadkmaemmfgaaGreatDoor
namespace Rows

/-- THE TIED CARD OF 'compactorlaw41.PipelineApplies'. -/
def pipelineAppliesCard : Claim7 := { stood := { row := pipelineAppliesRow, standIns := [], harness := (true, "13f97c3ef643543b9ec00fe926773898e94c5b20df48a46e1213cd6d8cc66544"), looks := true }, kinds := [], alts := [], laidByText := true, laidKinds := [.data, .data, .data, .data, .sentinel, .sentinel, .pinned], laidTests := true, laidLooks := .later }
def PipelineAppliesCardSaid : Prop := Claim7.holds Tryz.pinned (.plain (OpenSpec.ofChange pipelineAppliesSpec)) pipelineAppliesCard

/-- THE TIED CARD OF 'compactorlaw41.PipelineInverts'. -/
def pipelineInvertsCard : Claim7 := { stood := { row := pipelineInvertsRow, standIns := [], harness := (true, "13f97c3ef643543b9ec00fe926773898e94c5b20df48a46e1213cd6d8cc66544"), looks := true }, kinds := [], alts := [], laidByText := true, laidKinds := [.data, .data, .data, .data, .sentinel, .sentinel, .pinned], laidTests := true, laidLooks := .later }
def PipelineInvertsCardSaid : Prop := Claim7.holds Tryz.pinned (.plain (OpenSpec.ofChange pipelineInvertsSpec)) pipelineInvertsCard

/-- THE SECOND FORM's CARD OF 'compactorlaw41.PipelineApplies'. -/
def pipelineAppliesUptoCard : Claim7 := { stood := { row := pipelineAppliesUptoRow, standIns := [], harness := (true, "13f97c3ef643543b9ec00fe926773898e94c5b20df48a46e1213cd6d8cc66544"), looks := true }, kinds := [], alts := [], laidByText := true, laidKinds := [.data, .data, .data, .data, .sentinel, .sentinel, .pinned], laidTests := true, laidLooks := .later }
def PipelineAppliesUptoCardSaid : Prop := Claim7.holds Tryz.pinned (.plain (OpenSpec.upto pipelineAppliesSpec)) pipelineAppliesUptoCard

/-- THE SECOND FORM's CARD OF 'compactorlaw41.PipelineInverts'. -/
def pipelineInvertsUptoCard : Claim7 := { stood := { row := pipelineInvertsUptoRow, standIns := [], harness := (true, "13f97c3ef643543b9ec00fe926773898e94c5b20df48a46e1213cd6d8cc66544"), looks := true }, kinds := [], alts := [], laidByText := true, laidKinds := [.data, .data, .data, .data, .sentinel, .sentinel, .pinned], laidTests := true, laidLooks := .later }
def PipelineInvertsUptoCardSaid : Prop := Claim7.holds Tryz.pinned (.plain (OpenSpec.upto pipelineInvertsSpec)) pipelineInvertsUptoCard
end Rows
end Go.Proofs.YtohadkmaemmfgaaGreatDoor

/-
  DERIVED. GIVEN WITH THE SEED: THE CARDS: each row of YthaampinmelgaaaGreatDoorRows.lean that lists a variable, with what it lists TIED to the program's text (the seventh form; the later family's looks); each row that meets fmt, with fmt's text TOLD by the authors' own Lean function (tested against real Go, not proved from fmt's source: count such statements apart). THE CARD IS WHAT COUNTS. Prove the row's statement (the work); the ties are given (YthaampinmelgaaaGreatDoorTie.lean); close each card by the builder's one call (the guide's Derived/Test/ToyasCard.lean, 'card_holds'). Laid BY PROGRAM, IN A SANDBOX (cutbox-door.mjs). By AI agents, Wed Nov 11 2026. No macro, syntax, notation, axiom, sorry.
-/
import Derived.Test.YthaampinmelgaaaGreatDoorRows
import GoSem.ClaimSeven
namespace Go.Proofs.YthaampinmelgaaaGreatDoor
namespace Rows

/-- THE TIED CARD OF 'surveyorlaw38.WtoGroups'. -/
def wtoGroupsCard : Claim7 := { stood := { row := wtoGroupsRow, standIns := [], harness := (true, "ec638dbc22191562b2076960a4928d4fafa83c2a42ebe248696911b9c0af0860"), looks := true }, kinds := [], alts := [], laidByText := true, laidKinds := [.data, .data, .data], laidTests := true, laidLooks := .later }
def WtoGroupsCardSaid : Prop := Claim7.holds Tryz.pinned (.plain (OpenSpec.ofChange wtoGroupsSpec)) wtoGroupsCard

/-- THE SECOND FORM's CARD OF 'surveyorlaw38.WtoGroups'. -/
def wtoGroupsUptoCard : Claim7 := { stood := { row := wtoGroupsUptoRow, standIns := [], harness := (true, "ec638dbc22191562b2076960a4928d4fafa83c2a42ebe248696911b9c0af0860"), looks := true }, kinds := [], alts := [], laidByText := true, laidKinds := [.data, .data, .data], laidTests := true, laidLooks := .later }
def WtoGroupsUptoCardSaid : Prop := Claim7.holds Tryz.pinned (.plain (OpenSpec.upto wtoGroupsSpec)) wtoGroupsUptoCard
end Rows
end Go.Proofs.YthaampinmelgaaaGreatDoor

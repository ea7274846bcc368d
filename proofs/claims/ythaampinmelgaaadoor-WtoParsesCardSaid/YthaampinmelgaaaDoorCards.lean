/-
  DERIVED. GIVEN WITH THE SEED: THE CARDS: each row of YthaampinmelgaaaDoorRows.lean that lists a variable, with what it lists TIED to the program's text (the seventh form; the later family's looks); each row that meets fmt, with fmt's text TOLD by the authors' own Lean function (tested against real Go, not proved from fmt's source: count such statements apart). THE CARD IS WHAT COUNTS. Prove the row's statement (the work); the ties are given (YthaampinmelgaaaDoorTie.lean); close each card by the builder's one call (the guide's Derived/Test/ToyasCard.lean, 'card_holds'). Laid BY PROGRAM, IN A SANDBOX (cutbox-door.mjs). By AI agents, Wed Nov 11 2026. No macro, syntax, notation, axiom, sorry.
-/
import Derived.Test.YthaampinmelgaaaDoorRows
import GoSem.ClaimSeven
namespace Go.Proofs.YthaampinmelgaaaDoor
namespace Rows

/-- THE TIED CARD OF 'surveyorlaw38.WtoOrders'. -/
def wtoOrdersCard : Claim7 := { stood := { row := wtoOrdersRow, standIns := [], harness := (true, "84137d5ac515baf557f7e721eba2039e5195b515e6f9795b76a4a7a1082d358c"), looks := true }, kinds := [], alts := [], laidByText := true, laidKinds := [.data, .data, .data], laidTests := true, laidLooks := .later }
def WtoOrdersCardSaid : Prop := Claim7.holds Tryd.pinned (.plain (OpenSpec.ofChange wtoOrdersSpec)) wtoOrdersCard

/-- THE TIED CARD OF 'surveyorlaw38.WtoChecks'. -/
def wtoChecksCard : Claim7 := { stood := { row := wtoChecksRow, standIns := [], harness := (true, "84137d5ac515baf557f7e721eba2039e5195b515e6f9795b76a4a7a1082d358c"), looks := true }, kinds := [], alts := [], laidByText := true, laidKinds := [.data, .data, .data], laidTests := true, laidLooks := .later }
def WtoChecksCardSaid : Prop := Claim7.holds Tryd.pinned (.plain (OpenSpec.ofChange wtoChecksSpec)) wtoChecksCard

/-- THE TIED CARD OF 'surveyorlaw38.WtoParses'. -/
def wtoParsesCard : Claim7 := { stood := { row := wtoParsesRow, standIns := [], harness := (true, "84137d5ac515baf557f7e721eba2039e5195b515e6f9795b76a4a7a1082d358c"), looks := true }, kinds := [], alts := [], laidByText := true, laidKinds := [.data, .data, .data], laidTests := true, laidLooks := .later }
def WtoParsesCardSaid : Prop := Claim7.holds Tryd.pinned (.plain (OpenSpec.ofChange wtoParsesSpec)) wtoParsesCard

/-- THE TIED CARD OF 'surveyorlaw38.WtoReturns'. -/
def wtoReturnsCard : Claim7 := { stood := { row := wtoReturnsRow, standIns := [], harness := (true, "84137d5ac515baf557f7e721eba2039e5195b515e6f9795b76a4a7a1082d358c"), looks := true }, kinds := [], alts := [], laidByText := true, laidKinds := [.data, .data, .data], laidTests := true, laidLooks := .later }
def WtoReturnsCardSaid : Prop := Claim7.holds Tryd.pinned (.plain (OpenSpec.ofChange wtoReturnsSpec)) wtoReturnsCard

/-- THE TIED CARD OF 'surveyorlaw38.WtoHolds'. -/
def wtoHoldsCard : Claim7 := { stood := { row := wtoHoldsRow, standIns := [], harness := (true, "84137d5ac515baf557f7e721eba2039e5195b515e6f9795b76a4a7a1082d358c"), looks := true }, kinds := [], alts := [], laidByText := true, laidKinds := [.data, .data, .data], laidTests := true, laidLooks := .later }
def WtoHoldsCardSaid : Prop := Claim7.holds Tryd.pinned (.plain (OpenSpec.ofChange wtoHoldsSpec)) wtoHoldsCard

/-- THE TIED CARD OF 'surveyorlaw38.WtoLists'. -/
def wtoListsCard : Claim7 := { stood := { row := wtoListsRow, standIns := [], harness := (true, "84137d5ac515baf557f7e721eba2039e5195b515e6f9795b76a4a7a1082d358c"), looks := true }, kinds := [], alts := [], laidByText := true, laidKinds := [.data, .data, .data], laidTests := true, laidLooks := .later }
def WtoListsCardSaid : Prop := Claim7.holds Tryd.pinned (.plain (OpenSpec.ofChange wtoListsSpec)) wtoListsCard

/-- THE TIED CARD OF 'surveyorlaw38.WtoNests'. -/
def wtoNestsCard : Claim7 := { stood := { row := wtoNestsRow, standIns := [], harness := (true, "84137d5ac515baf557f7e721eba2039e5195b515e6f9795b76a4a7a1082d358c"), looks := true }, kinds := [], alts := [], laidByText := true, laidKinds := [.data, .data, .data], laidTests := true, laidLooks := .later }
def WtoNestsCardSaid : Prop := Claim7.holds Tryd.pinned (.plain (OpenSpec.ofChange wtoNestsSpec)) wtoNestsCard

/-- THE SECOND FORM's CARD OF 'surveyorlaw38.WtoOrders'. -/
def wtoOrdersUptoCard : Claim7 := { stood := { row := wtoOrdersUptoRow, standIns := [], harness := (true, "84137d5ac515baf557f7e721eba2039e5195b515e6f9795b76a4a7a1082d358c"), looks := true }, kinds := [], alts := [], laidByText := true, laidKinds := [.data, .data, .data], laidTests := true, laidLooks := .later }
def WtoOrdersUptoCardSaid : Prop := Claim7.holds Tryd.pinned (.plain (OpenSpec.upto wtoOrdersSpec)) wtoOrdersUptoCard

/-- THE SECOND FORM's CARD OF 'surveyorlaw38.WtoChecks'. -/
def wtoChecksUptoCard : Claim7 := { stood := { row := wtoChecksUptoRow, standIns := [], harness := (true, "84137d5ac515baf557f7e721eba2039e5195b515e6f9795b76a4a7a1082d358c"), looks := true }, kinds := [], alts := [], laidByText := true, laidKinds := [.data, .data, .data], laidTests := true, laidLooks := .later }
def WtoChecksUptoCardSaid : Prop := Claim7.holds Tryd.pinned (.plain (OpenSpec.upto wtoChecksSpec)) wtoChecksUptoCard

/-- THE SECOND FORM's CARD OF 'surveyorlaw38.WtoParses'. -/
def wtoParsesUptoCard : Claim7 := { stood := { row := wtoParsesUptoRow, standIns := [], harness := (true, "84137d5ac515baf557f7e721eba2039e5195b515e6f9795b76a4a7a1082d358c"), looks := true }, kinds := [], alts := [], laidByText := true, laidKinds := [.data, .data, .data], laidTests := true, laidLooks := .later }
def WtoParsesUptoCardSaid : Prop := Claim7.holds Tryd.pinned (.plain (OpenSpec.upto wtoParsesSpec)) wtoParsesUptoCard

/-- THE SECOND FORM's CARD OF 'surveyorlaw38.WtoReturns'. -/
def wtoReturnsUptoCard : Claim7 := { stood := { row := wtoReturnsUptoRow, standIns := [], harness := (true, "84137d5ac515baf557f7e721eba2039e5195b515e6f9795b76a4a7a1082d358c"), looks := true }, kinds := [], alts := [], laidByText := true, laidKinds := [.data, .data, .data], laidTests := true, laidLooks := .later }
def WtoReturnsUptoCardSaid : Prop := Claim7.holds Tryd.pinned (.plain (OpenSpec.upto wtoReturnsSpec)) wtoReturnsUptoCard

/-- THE SECOND FORM's CARD OF 'surveyorlaw38.WtoHolds'. -/
def wtoHoldsUptoCard : Claim7 := { stood := { row := wtoHoldsUptoRow, standIns := [], harness := (true, "84137d5ac515baf557f7e721eba2039e5195b515e6f9795b76a4a7a1082d358c"), looks := true }, kinds := [], alts := [], laidByText := true, laidKinds := [.data, .data, .data], laidTests := true, laidLooks := .later }
def WtoHoldsUptoCardSaid : Prop := Claim7.holds Tryd.pinned (.plain (OpenSpec.upto wtoHoldsSpec)) wtoHoldsUptoCard

/-- THE SECOND FORM's CARD OF 'surveyorlaw38.WtoLists'. -/
def wtoListsUptoCard : Claim7 := { stood := { row := wtoListsUptoRow, standIns := [], harness := (true, "84137d5ac515baf557f7e721eba2039e5195b515e6f9795b76a4a7a1082d358c"), looks := true }, kinds := [], alts := [], laidByText := true, laidKinds := [.data, .data, .data], laidTests := true, laidLooks := .later }
def WtoListsUptoCardSaid : Prop := Claim7.holds Tryd.pinned (.plain (OpenSpec.upto wtoListsSpec)) wtoListsUptoCard

/-- THE SECOND FORM's CARD OF 'surveyorlaw38.WtoNests'. -/
def wtoNestsUptoCard : Claim7 := { stood := { row := wtoNestsUptoRow, standIns := [], harness := (true, "84137d5ac515baf557f7e721eba2039e5195b515e6f9795b76a4a7a1082d358c"), looks := true }, kinds := [], alts := [], laidByText := true, laidKinds := [.data, .data, .data], laidTests := true, laidLooks := .later }
def WtoNestsUptoCardSaid : Prop := Claim7.holds Tryd.pinned (.plain (OpenSpec.upto wtoNestsSpec)) wtoNestsUptoCard
end Rows
end Go.Proofs.YthaampinmelgaaaDoor

/-
  DERIVED. GIVEN WITH THE SEED: THE CARDS: each row of YtmpbjaodgajnfaaGreatDoorRows.lean that lists a variable, with what it lists TIED to the program's text (the seventh form; the later family's looks); each row that meets fmt, with fmt's text TOLD by the authors' own Lean function (tested against real Go, not proved from fmt's source: count such statements apart). THE CARD IS WHAT COUNTS. Prove the row's statement (the work); the ties are given (YtmpbjaodgajnfaaGreatDoorTie.lean); close each card by the builder's one call (the guide's Derived/Test/ToyasCard.lean, 'card_holds'). Laid BY PROGRAM, IN A SANDBOX (cutbox-door.mjs). By AI agents, Wed Nov 11 2026. No macro, syntax, notation, axiom, sorry.
-/
import Derived.Test.YtmpbjaodgajnfaaGreatDoorRows
import GoSem.ClaimSeven
namespace Go.Proofs.YtmpbjaodgajnfaaGreatDoor
namespace Rows

/-- THE TIED CARD OF 'logtidelaw35.ExtractApply'. -/
def extractApplyCard : Claim7 := { stood := { row := extractApplyRow, standIns := [], harness := (true, "f7ab8ac09ddf0beb2b7f7e73f42c199b0fc403ce30763ecfd4b1f467af5a0f93"), looks := false }, kinds := [], alts := [], laidByText := true, laidKinds := [.called], laidTests := true, laidLooks := .later }
def ExtractApplyCardSaid : Prop := Claim7.holds Tryz.pinned (.plain (OpenSpec.ofChange extractApplySpec)) extractApplyCard

/-- THE TIED CARD OF 'logtidelaw35.ExtractChangesFieldsAlone'. -/
def extractChangesFieldsAloneCard : Claim7 := { stood := { row := extractChangesFieldsAloneRow, standIns := [], harness := (true, "f7ab8ac09ddf0beb2b7f7e73f42c199b0fc403ce30763ecfd4b1f467af5a0f93"), looks := false }, kinds := [], alts := [], laidByText := true, laidKinds := [.called], laidTests := true, laidLooks := .later }
def ExtractChangesFieldsAloneCardSaid : Prop := Claim7.holds Tryz.pinned (.plain (OpenSpec.ofChange extractChangesFieldsAloneSpec)) extractChangesFieldsAloneCard

/-- THE TIED CARD OF 'logtidelaw35.ExtractFullEvents'. -/
def extractFullEventsCard : Claim7 := { stood := { row := extractFullEventsRow, standIns := [], harness := (true, "f7ab8ac09ddf0beb2b7f7e73f42c199b0fc403ce30763ecfd4b1f467af5a0f93"), looks := false }, kinds := [], alts := [], laidByText := true, laidKinds := [.called], laidTests := true, laidLooks := .later }
def ExtractFullEventsCardSaid : Prop := Claim7.holds Tryz.pinned (.plain (OpenSpec.ofChange extractFullEventsSpec)) extractFullEventsCard

/-- THE SECOND FORM's CARD OF 'logtidelaw35.ExtractApply'. -/
def extractApplyUptoCard : Claim7 := { stood := { row := extractApplyUptoRow, standIns := [], harness := (true, "f7ab8ac09ddf0beb2b7f7e73f42c199b0fc403ce30763ecfd4b1f467af5a0f93"), looks := false }, kinds := [], alts := [], laidByText := true, laidKinds := [.called], laidTests := true, laidLooks := .later }
def ExtractApplyUptoCardSaid : Prop := Claim7.holds Tryz.pinned (.plain (OpenSpec.upto extractApplySpec)) extractApplyUptoCard

/-- THE SECOND FORM's CARD OF 'logtidelaw35.ExtractChangesFieldsAlone'. -/
def extractChangesFieldsAloneUptoCard : Claim7 := { stood := { row := extractChangesFieldsAloneUptoRow, standIns := [], harness := (true, "f7ab8ac09ddf0beb2b7f7e73f42c199b0fc403ce30763ecfd4b1f467af5a0f93"), looks := false }, kinds := [], alts := [], laidByText := true, laidKinds := [.called], laidTests := true, laidLooks := .later }
def ExtractChangesFieldsAloneUptoCardSaid : Prop := Claim7.holds Tryz.pinned (.plain (OpenSpec.upto extractChangesFieldsAloneSpec)) extractChangesFieldsAloneUptoCard

/-- THE SECOND FORM's CARD OF 'logtidelaw35.ExtractFullEvents'. -/
def extractFullEventsUptoCard : Claim7 := { stood := { row := extractFullEventsUptoRow, standIns := [], harness := (true, "f7ab8ac09ddf0beb2b7f7e73f42c199b0fc403ce30763ecfd4b1f467af5a0f93"), looks := false }, kinds := [], alts := [], laidByText := true, laidKinds := [.called], laidTests := true, laidLooks := .later }
def ExtractFullEventsUptoCardSaid : Prop := Claim7.holds Tryz.pinned (.plain (OpenSpec.upto extractFullEventsSpec)) extractFullEventsUptoCard
end Rows
end Go.Proofs.YtmpbjaodgajnfaaGreatDoor

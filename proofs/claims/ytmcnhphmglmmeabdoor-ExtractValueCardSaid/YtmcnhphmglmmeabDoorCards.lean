/-
  DERIVED. GIVEN WITH THE SEED: THE CARDS: each row of YtmcnhphmglmmeabDoorRows.lean that lists a variable, with what it lists TIED to the program's text (the seventh form; the later family's looks); each row that meets fmt, with fmt's text TOLD by the authors' own Lean function (tested against real Go, not proved from fmt's source: count such statements apart). THE CARD IS WHAT COUNTS. Prove the row's statement (the work); the ties are given (YtmcnhphmglmmeabDoorTie.lean); close each card by the builder's one call (the guide's Derived/Test/ToyasCard.lean, 'card_holds'). Laid BY PROGRAM, IN A SANDBOX (cutbox-door.mjs). By AI agents, Wed Nov 11 2026. No macro, syntax, notation, axiom, sorry.
-/
import Derived.Test.YtmcnhphmglmmeabDoorRows
import GoSem.ClaimSeven
namespace Go.Proofs.YtmcnhphmglmmeabDoor
namespace Rows

/-- THE TIED CARD OF 'logtidelaw35.ExtractValue'. -/
def extractValueCard : Claim7 := { stood := { row := extractValueRow, standIns := [], harness := (true, "da5e20dabde68886eb5697de4a74cf8f537732cc6f168ee0fd9aca0288c04eab"), looks := false }, kinds := [], alts := [], laidByText := true, laidKinds := [.data, .data, .data], laidTests := true, laidLooks := .later }
def ExtractValueCardSaid : Prop := Claim7.holds Tryd.pinned (.plain (OpenSpec.ofChange extractValueSpec)) extractValueCard

/-- THE SECOND FORM's CARD OF 'logtidelaw35.ExtractValue'. -/
def extractValueUptoCard : Claim7 := { stood := { row := extractValueUptoRow, standIns := [], harness := (true, "da5e20dabde68886eb5697de4a74cf8f537732cc6f168ee0fd9aca0288c04eab"), looks := false }, kinds := [], alts := [], laidByText := true, laidKinds := [.data, .data, .data], laidTests := true, laidLooks := .later }
def ExtractValueUptoCardSaid : Prop := Claim7.holds Tryd.pinned (.plain (OpenSpec.upto extractValueSpec)) extractValueUptoCard
end Rows
end Go.Proofs.YtmcnhphmglmmeabDoor

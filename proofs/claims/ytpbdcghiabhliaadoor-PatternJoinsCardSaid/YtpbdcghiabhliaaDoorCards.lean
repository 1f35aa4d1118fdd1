/-
  DERIVED. GIVEN WITH THE SEED: THE CARDS: each row of YtpbdcghiabhliaaDoorRows.lean that lists a variable, with what it lists TIED to the program's text (the seventh form; the later family's looks); each row that meets fmt, with fmt's text TOLD by the authors' own Lean function (tested against real Go, not proved from fmt's source: count such statements apart). THE CARD IS WHAT COUNTS. Prove the row's statement (the work); the ties are given (YtpbdcghiabhliaaDoorTie.lean); close each card by the builder's one call (the guide's Derived/Test/ToyasCard.lean, 'card_holds'). Laid BY PROGRAM, IN A SANDBOX (cutbox-door.mjs). By AI agents, Wed Nov 11 2026. No macro, syntax, notation, axiom, sorry.
-/
import Derived.Test.YtpbdcghiabhliaaDoorRows
import GoSem.ClaimSeven
namespace Go.Proofs.YtpbdcghiabhliaaDoor
namespace Rows

/-- THE TIED CARD OF 'logtidelaw02.PatternChecks'. -/
def patternChecksCard : Claim7 := { stood := { row := patternChecksRow, standIns := [], harness := (true, "790003cd7067a9d969c851ca7b3d33f95f63a915449554faab303baa964d956e"), looks := false }, kinds := [], alts := [], laidByText := true, laidKinds := [.called], laidTests := true, laidLooks := .later }
def PatternChecksCardSaid : Prop := Claim7.holds Tryd.pinned (.plain (OpenSpec.ofChange patternChecksSpec)) patternChecksCard

/-- THE TIED CARD OF 'logtidelaw02.PatternReturns'. -/
def patternReturnsCard : Claim7 := { stood := { row := patternReturnsRow, standIns := [], harness := (true, "790003cd7067a9d969c851ca7b3d33f95f63a915449554faab303baa964d956e"), looks := false }, kinds := [], alts := [], laidByText := true, laidKinds := [.data, .data, .data, .called], laidTests := true, laidLooks := .later }
def PatternReturnsCardSaid : Prop := Claim7.holds Tryd.pinned (.plain (OpenSpec.ofChange patternReturnsSpec)) patternReturnsCard

/-- THE TIED CARD OF 'logtidelaw02.PatternJoins'. -/
def patternJoinsCard : Claim7 := { stood := { row := patternJoinsRow, standIns := [], harness := (true, "790003cd7067a9d969c851ca7b3d33f95f63a915449554faab303baa964d956e"), looks := false }, kinds := [], alts := [], laidByText := true, laidKinds := [.data, .data, .data, .called], laidTests := true, laidLooks := .later }
def PatternJoinsCardSaid : Prop := Claim7.holds Tryd.pinned (.plain (OpenSpec.ofChange patternJoinsSpec)) patternJoinsCard

/-- THE SECOND FORM's CARD OF 'logtidelaw02.PatternChecks'. -/
def patternChecksUptoCard : Claim7 := { stood := { row := patternChecksUptoRow, standIns := [], harness := (true, "790003cd7067a9d969c851ca7b3d33f95f63a915449554faab303baa964d956e"), looks := false }, kinds := [], alts := [], laidByText := true, laidKinds := [.called], laidTests := true, laidLooks := .later }
def PatternChecksUptoCardSaid : Prop := Claim7.holds Tryd.pinned (.plain (OpenSpec.upto patternChecksSpec)) patternChecksUptoCard

/-- THE SECOND FORM's CARD OF 'logtidelaw02.PatternReturns'. -/
def patternReturnsUptoCard : Claim7 := { stood := { row := patternReturnsUptoRow, standIns := [], harness := (true, "790003cd7067a9d969c851ca7b3d33f95f63a915449554faab303baa964d956e"), looks := false }, kinds := [], alts := [], laidByText := true, laidKinds := [.data, .data, .data, .called], laidTests := true, laidLooks := .later }
def PatternReturnsUptoCardSaid : Prop := Claim7.holds Tryd.pinned (.plain (OpenSpec.upto patternReturnsSpec)) patternReturnsUptoCard

/-- THE SECOND FORM's CARD OF 'logtidelaw02.PatternJoins'. -/
def patternJoinsUptoCard : Claim7 := { stood := { row := patternJoinsUptoRow, standIns := [], harness := (true, "790003cd7067a9d969c851ca7b3d33f95f63a915449554faab303baa964d956e"), looks := false }, kinds := [], alts := [], laidByText := true, laidKinds := [.data, .data, .data, .called], laidTests := true, laidLooks := .later }
def PatternJoinsUptoCardSaid : Prop := Claim7.holds Tryd.pinned (.plain (OpenSpec.upto patternJoinsSpec)) patternJoinsUptoCard
end Rows
end Go.Proofs.YtpbdcghiabhliaaDoor

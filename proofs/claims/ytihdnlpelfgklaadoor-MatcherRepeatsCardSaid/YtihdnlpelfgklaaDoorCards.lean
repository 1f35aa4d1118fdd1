/-
  DERIVED. GIVEN WITH THE SEED: THE CARDS: each row of YtihdnlpelfgklaaDoorRows.lean that lists a variable, with what it lists TIED to the program's text (the seventh form; the later family's looks); each row that meets fmt, with fmt's text TOLD by the authors' own Lean function (tested against real Go, not proved from fmt's source: count such statements apart). THE CARD IS WHAT COUNTS. Prove the row's statement (the work); the ties are given (YtihdnlpelfgklaaDoorTie.lean); close each card by the builder's one call (the guide's Derived/Test/ToyasCard.lean, 'card_holds'). Laid BY PROGRAM, IN A SANDBOX (cutbox-door.mjs). By AI agents, Wed Nov 11 2026. No macro, syntax, notation, axiom, sorry.
-/
import Derived.Test.YtihdnlpelfgklaaDoorRows
import GoSem.ClaimSeven
namespace Go.Proofs.YtihdnlpelfgklaaDoor
namespace Rows

/-- THE TIED CARD OF 'logtidelaw03.MatcherChoices'. -/
def matcherChoicesCard : Claim7 := { stood := { row := matcherChoicesRow, standIns := [], harness := (true, "8186aed45fa45ed328e9bed08f484875c11a90d3554b9803822fc01042b37e88"), looks := false }, kinds := [], alts := [], laidByText := true, laidKinds := [.called], laidTests := true, laidLooks := .later }
def MatcherChoicesCardSaid : Prop := Claim7.holds Tryd.pinned (.plain (OpenSpec.ofChange matcherChoicesSpec)) matcherChoicesCard

/-- THE TIED CARD OF 'logtidelaw03.MatcherRepeats'. -/
def matcherRepeatsCard : Claim7 := { stood := { row := matcherRepeatsRow, standIns := [], harness := (true, "8186aed45fa45ed328e9bed08f484875c11a90d3554b9803822fc01042b37e88"), looks := false }, kinds := [], alts := [], laidByText := true, laidKinds := [.called], laidTests := true, laidLooks := .later }
def MatcherRepeatsCardSaid : Prop := Claim7.holds Tryd.pinned (.plain (OpenSpec.ofChange matcherRepeatsSpec)) matcherRepeatsCard

/-- THE TIED CARD OF 'logtidelaw03.MatcherLiterals'. -/
def matcherLiteralsCard : Claim7 := { stood := { row := matcherLiteralsRow, standIns := [], harness := (true, "8186aed45fa45ed328e9bed08f484875c11a90d3554b9803822fc01042b37e88"), looks := false }, kinds := [], alts := [], laidByText := true, laidKinds := [.called], laidTests := true, laidLooks := .later }
def MatcherLiteralsCardSaid : Prop := Claim7.holds Tryd.pinned (.plain (OpenSpec.ofChange matcherLiteralsSpec)) matcherLiteralsCard

/-- THE SECOND FORM's CARD OF 'logtidelaw03.MatcherChoices'. -/
def matcherChoicesUptoCard : Claim7 := { stood := { row := matcherChoicesUptoRow, standIns := [], harness := (true, "8186aed45fa45ed328e9bed08f484875c11a90d3554b9803822fc01042b37e88"), looks := false }, kinds := [], alts := [], laidByText := true, laidKinds := [.called], laidTests := true, laidLooks := .later }
def MatcherChoicesUptoCardSaid : Prop := Claim7.holds Tryd.pinned (.plain (OpenSpec.upto matcherChoicesSpec)) matcherChoicesUptoCard

/-- THE SECOND FORM's CARD OF 'logtidelaw03.MatcherRepeats'. -/
def matcherRepeatsUptoCard : Claim7 := { stood := { row := matcherRepeatsUptoRow, standIns := [], harness := (true, "8186aed45fa45ed328e9bed08f484875c11a90d3554b9803822fc01042b37e88"), looks := false }, kinds := [], alts := [], laidByText := true, laidKinds := [.called], laidTests := true, laidLooks := .later }
def MatcherRepeatsUptoCardSaid : Prop := Claim7.holds Tryd.pinned (.plain (OpenSpec.upto matcherRepeatsSpec)) matcherRepeatsUptoCard

/-- THE SECOND FORM's CARD OF 'logtidelaw03.MatcherLiterals'. -/
def matcherLiteralsUptoCard : Claim7 := { stood := { row := matcherLiteralsUptoRow, standIns := [], harness := (true, "8186aed45fa45ed328e9bed08f484875c11a90d3554b9803822fc01042b37e88"), looks := false }, kinds := [], alts := [], laidByText := true, laidKinds := [.called], laidTests := true, laidLooks := .later }
def MatcherLiteralsUptoCardSaid : Prop := Claim7.holds Tryd.pinned (.plain (OpenSpec.upto matcherLiteralsSpec)) matcherLiteralsUptoCard
end Rows
end Go.Proofs.YtihdnlpelfgklaaDoor

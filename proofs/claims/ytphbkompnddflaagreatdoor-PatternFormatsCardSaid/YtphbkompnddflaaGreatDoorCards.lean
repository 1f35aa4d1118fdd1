/-
  DERIVED. GIVEN WITH THE SEED: THE CARDS: each row of YtphbkompnddflaaGreatDoorRows.lean that lists a variable, with what it lists TIED to the program's text (the seventh form; the later family's looks); each row that meets fmt, with fmt's text TOLD by the authors' own Lean function (tested against real Go, not proved from fmt's source: count such statements apart). THE CARD IS WHAT COUNTS. Prove the row's statement (the work); the ties are given (YtphbkompnddflaaGreatDoorTie.lean); close each card by the builder's one call (the guide's Derived/Test/ToyasCard.lean, 'card_holds'). Laid BY PROGRAM, IN A SANDBOX (cutbox-door.mjs). By AI agents, Wed Nov 11 2026. No macro, syntax, notation, axiom, sorry.
-/
import Derived.Test.YtphbkompnddflaaGreatDoorRows
import GoSem.ClaimSeven
namespace Go.Proofs.YtphbkompnddflaaGreatDoor
namespace Rows

/-- THE TIED CARD OF 'logtidelaw02.PatternFormats'. -/
def patternFormatsCard : Claim7 := { stood := { row := patternFormatsRow, standIns := [], harness := (true, "7a9e71ca53dd0640aac4ea3607f7ec33463f1920243a4185337c1ff35d0efe61"), looks := false }, kinds := [], alts := [], laidByText := true, laidKinds := [.data, .data, .data, .called], laidTests := true, laidLooks := .later }
def PatternFormatsCardSaid : Prop := Claim7.holds Tryz.pinned (.plain (OpenSpec.ofChange patternFormatsSpec)) patternFormatsCard

/-- THE SECOND FORM's CARD OF 'logtidelaw02.PatternFormats'. -/
def patternFormatsUptoCard : Claim7 := { stood := { row := patternFormatsUptoRow, standIns := [], harness := (true, "7a9e71ca53dd0640aac4ea3607f7ec33463f1920243a4185337c1ff35d0efe61"), looks := false }, kinds := [], alts := [], laidByText := true, laidKinds := [.data, .data, .data, .called], laidTests := true, laidLooks := .later }
def PatternFormatsUptoCardSaid : Prop := Claim7.holds Tryz.pinned (.plain (OpenSpec.upto patternFormatsSpec)) patternFormatsUptoCard
end Rows
end Go.Proofs.YtphbkompnddflaaGreatDoor

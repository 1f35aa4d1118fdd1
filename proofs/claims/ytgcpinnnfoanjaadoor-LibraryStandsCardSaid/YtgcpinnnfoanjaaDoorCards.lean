/-
  DERIVED. GIVEN WITH THE SEED: THE CARDS: each row of YtgcpinnnfoanjaaDoorRows.lean that lists a variable, with what it lists TIED to the program's text (the seventh form; the later family's looks); each row that meets fmt, with fmt's text TOLD by the authors' own Lean function (tested against real Go, not proved from fmt's source: count such statements apart). THE CARD IS WHAT COUNTS. Prove the row's statement (the work); the ties are given (YtgcpinnnfoanjaaDoorTie.lean); close each card by the builder's one call (the guide's Derived/Test/ToyasCard.lean, 'card_holds'). Laid BY PROGRAM, IN A SANDBOX (cutbox-door.mjs). By AI agents, Wed Nov 11 2026. No macro, syntax, notation, axiom, sorry.
-/
import Derived.Test.YtgcpinnnfoanjaaDoorRows
import GoSem.ClaimSeven
namespace Go.Proofs.YtgcpinnnfoanjaaDoor
namespace Rows

/-- THE TIED CARD OF 'logtidelaw04.LibraryStands'. -/
def libraryStandsCard : Claim7 := { stood := { row := libraryStandsRow, standIns := [], harness := (true, "217ad2ebd43f84f853507d975d8c28a588b3d257927bfc9814a4a148cee142e7"), looks := false }, kinds := [], alts := [], laidByText := true, laidKinds := [.called], laidTests := true, laidLooks := .later }
def LibraryStandsCardSaid : Prop := Claim7.holds Tryd.pinned (.plain (OpenSpec.ofChange libraryStandsSpec)) libraryStandsCard

/-- THE SECOND FORM's CARD OF 'logtidelaw04.LibraryStands'. -/
def libraryStandsUptoCard : Claim7 := { stood := { row := libraryStandsUptoRow, standIns := [], harness := (true, "217ad2ebd43f84f853507d975d8c28a588b3d257927bfc9814a4a148cee142e7"), looks := false }, kinds := [], alts := [], laidByText := true, laidKinds := [.called], laidTests := true, laidLooks := .later }
def LibraryStandsUptoCardSaid : Prop := Claim7.holds Tryd.pinned (.plain (OpenSpec.upto libraryStandsSpec)) libraryStandsUptoCard
end Rows
end Go.Proofs.YtgcpinnnfoanjaaDoor

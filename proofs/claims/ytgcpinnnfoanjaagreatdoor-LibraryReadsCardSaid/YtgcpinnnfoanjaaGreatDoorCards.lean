/-
  DERIVED. GIVEN WITH THE SEED: THE CARDS: each row of YtgcpinnnfoanjaaGreatDoorRows.lean that lists a variable, with what it lists TIED to the program's text (the seventh form; the later family's looks); each row that meets fmt, with fmt's text TOLD by the authors' own Lean function (tested against real Go, not proved from fmt's source: count such statements apart). THE CARD IS WHAT COUNTS. Prove the row's statement (the work); the ties are given (YtgcpinnnfoanjaaGreatDoorTie.lean); close each card by the builder's one call (the guide's Derived/Test/ToyasCard.lean, 'card_holds'). Laid BY PROGRAM, IN A SANDBOX (cutbox-door.mjs). By AI agents, Wed Nov 11 2026. No macro, syntax, notation, axiom, sorry.
-/
import Derived.Test.YtgcpinnnfoanjaaGreatDoorRows
import GoSem.ClaimSeven
namespace Go.Proofs.YtgcpinnnfoanjaaGreatDoor
namespace Rows

/-- THE TIED CARD OF 'logtidelaw04.LibraryExpands'. -/
def libraryExpandsCard : Claim7 := { stood := { row := libraryExpandsRow, standIns := [], harness := (true, "ba7f8a012571d0b6c8d9996541e9a423cf140f30d45f50cf8b84bdbddee6c5e8"), looks := false }, kinds := [], alts := [], laidByText := true, laidKinds := [.called], laidTests := true, laidLooks := .later }
def LibraryExpandsCardSaid : Prop := Claim7.holds Tryz.pinned (.plain (OpenSpec.ofChange libraryExpandsSpec)) libraryExpandsCard

/-- THE TIED CARD OF 'logtidelaw04.LibraryReads'. -/
def libraryReadsCard : Claim7 := { stood := { row := libraryReadsRow, standIns := [], harness := (true, "ba7f8a012571d0b6c8d9996541e9a423cf140f30d45f50cf8b84bdbddee6c5e8"), looks := false }, kinds := [], alts := [], laidByText := true, laidKinds := [.data, .called, .pinned], laidTests := true, laidLooks := .later }
def LibraryReadsCardSaid : Prop := Claim7.holds Tryz.pinned (.plain (OpenSpec.ofChange libraryReadsSpec)) libraryReadsCard

/-- THE TIED CARD OF 'logtidelaw04.LibraryReturns'. -/
def libraryReturnsCard : Claim7 := { stood := { row := libraryReturnsRow, standIns := [], harness := (true, "ba7f8a012571d0b6c8d9996541e9a423cf140f30d45f50cf8b84bdbddee6c5e8"), looks := false }, kinds := [], alts := [], laidByText := true, laidKinds := [.data, .called, .pinned], laidTests := true, laidLooks := .later }
def LibraryReturnsCardSaid : Prop := Claim7.holds Tryz.pinned (.plain (OpenSpec.ofChange libraryReturnsSpec)) libraryReturnsCard

/-- THE SECOND FORM's CARD OF 'logtidelaw04.LibraryExpands'. -/
def libraryExpandsUptoCard : Claim7 := { stood := { row := libraryExpandsUptoRow, standIns := [], harness := (true, "ba7f8a012571d0b6c8d9996541e9a423cf140f30d45f50cf8b84bdbddee6c5e8"), looks := false }, kinds := [], alts := [], laidByText := true, laidKinds := [.called], laidTests := true, laidLooks := .later }
def LibraryExpandsUptoCardSaid : Prop := Claim7.holds Tryz.pinned (.plain (OpenSpec.upto libraryExpandsSpec)) libraryExpandsUptoCard

/-- THE SECOND FORM's CARD OF 'logtidelaw04.LibraryReads'. -/
def libraryReadsUptoCard : Claim7 := { stood := { row := libraryReadsUptoRow, standIns := [], harness := (true, "ba7f8a012571d0b6c8d9996541e9a423cf140f30d45f50cf8b84bdbddee6c5e8"), looks := false }, kinds := [], alts := [], laidByText := true, laidKinds := [.data, .called, .pinned], laidTests := true, laidLooks := .later }
def LibraryReadsUptoCardSaid : Prop := Claim7.holds Tryz.pinned (.plain (OpenSpec.upto libraryReadsSpec)) libraryReadsUptoCard

/-- THE SECOND FORM's CARD OF 'logtidelaw04.LibraryReturns'. -/
def libraryReturnsUptoCard : Claim7 := { stood := { row := libraryReturnsUptoRow, standIns := [], harness := (true, "ba7f8a012571d0b6c8d9996541e9a423cf140f30d45f50cf8b84bdbddee6c5e8"), looks := false }, kinds := [], alts := [], laidByText := true, laidKinds := [.data, .called, .pinned], laidTests := true, laidLooks := .later }
def LibraryReturnsUptoCardSaid : Prop := Claim7.holds Tryz.pinned (.plain (OpenSpec.upto libraryReturnsSpec)) libraryReturnsUptoCard
end Rows
end Go.Proofs.YtgcpinnnfoanjaaGreatDoor

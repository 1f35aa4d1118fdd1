/-
  DERIVED. GIVEN WITH THE SEED: THE CARDS: each row of YtloilffkggkgdaaDoorRows.lean that lists a variable, with what it lists TIED to the program's text (the seventh form; the later family's looks); each row that meets fmt, with fmt's text TOLD by the authors' own Lean function (tested against real Go, not proved from fmt's source: count such statements apart). THE CARD IS WHAT COUNTS. Prove the row's statement (the work); the ties are given (YtloilffkggkgdaaDoorTie.lean); close each card by the builder's one call (the guide's Derived/Test/ToyasCard.lean, 'card_holds'). Laid BY PROGRAM, IN A SANDBOX (cutbox-door.mjs). By AI agents, Wed Nov 11 2026. No macro, syntax, notation, axiom, sorry.
-/
import Derived.Test.YtloilffkggkgdaaDoorRows
import GoSem.ClaimSeven
namespace Go.Proofs.YtloilffkggkgdaaDoor
namespace Rows

/-- THE TIED CARD OF 'logtidelaw01.AsciiRepairs'. -/
def asciiRepairsCard : Claim7 := { stood := { row := asciiRepairsRow, standIns := [], harness := (true, "22edadf50046cd340c57806fe3da19e0405b8c616e4da1b2ba5989143936b417"), looks := false }, kinds := [], alts := [], laidByText := true, laidKinds := [.called], laidTests := true, laidLooks := .later }
def AsciiRepairsCardSaid : Prop := Claim7.holds Tryd.pinned (.plain (OpenSpec.ofChange asciiRepairsSpec)) asciiRepairsCard

/-- THE TIED CARD OF 'logtidelaw01.AsciiClasses'. -/
def asciiClassesCard : Claim7 := { stood := { row := asciiClassesRow, standIns := [], harness := (true, "22edadf50046cd340c57806fe3da19e0405b8c616e4da1b2ba5989143936b417"), looks := false }, kinds := [], alts := [], laidByText := true, laidKinds := [.called], laidTests := true, laidLooks := .later }
def AsciiClassesCardSaid : Prop := Claim7.holds Tryd.pinned (.plain (OpenSpec.ofChange asciiClassesSpec)) asciiClassesCard

/-- THE TIED CARD OF 'logtidelaw01.AsciiCuts'. -/
def asciiCutsCard : Claim7 := { stood := { row := asciiCutsRow, standIns := [], harness := (true, "22edadf50046cd340c57806fe3da19e0405b8c616e4da1b2ba5989143936b417"), looks := false }, kinds := [], alts := [], laidByText := true, laidKinds := [.called], laidTests := true, laidLooks := .later }
def AsciiCutsCardSaid : Prop := Claim7.holds Tryd.pinned (.plain (OpenSpec.ofChange asciiCutsSpec)) asciiCutsCard

/-- THE TIED CARD OF 'logtidelaw01.AsciiNumbers'. -/
def asciiNumbersCard : Claim7 := { stood := { row := asciiNumbersRow, standIns := [], harness := (true, "22edadf50046cd340c57806fe3da19e0405b8c616e4da1b2ba5989143936b417"), looks := false }, kinds := [], alts := [], laidByText := true, laidKinds := [.data, .data, .data, .called], laidTests := true, laidLooks := .later }
def AsciiNumbersCardSaid : Prop := Claim7.holds Tryd.pinned (.plain (OpenSpec.ofChange asciiNumbersSpec)) asciiNumbersCard

/-- THE TIED CARD OF 'logtidelaw01.AsciiReturns'. -/
def asciiReturnsCard : Claim7 := { stood := { row := asciiReturnsRow, standIns := [], harness := (true, "22edadf50046cd340c57806fe3da19e0405b8c616e4da1b2ba5989143936b417"), looks := false }, kinds := [], alts := [], laidByText := true, laidKinds := [.data, .data, .data, .called], laidTests := true, laidLooks := .later }
def AsciiReturnsCardSaid : Prop := Claim7.holds Tryd.pinned (.plain (OpenSpec.ofChange asciiReturnsSpec)) asciiReturnsCard

/-- THE TIED CARD OF 'logtidelaw01.AsciiSplits'. -/
def asciiSplitsCard : Claim7 := { stood := { row := asciiSplitsRow, standIns := [], harness := (true, "22edadf50046cd340c57806fe3da19e0405b8c616e4da1b2ba5989143936b417"), looks := false }, kinds := [], alts := [], laidByText := true, laidKinds := [.data, .called, .pinned], laidTests := true, laidLooks := .later }
def AsciiSplitsCardSaid : Prop := Claim7.holds Tryd.pinned (.plain (OpenSpec.ofChange asciiSplitsSpec)) asciiSplitsCard

/-- THE SECOND FORM's CARD OF 'logtidelaw01.AsciiRepairs'. -/
def asciiRepairsUptoCard : Claim7 := { stood := { row := asciiRepairsUptoRow, standIns := [], harness := (true, "22edadf50046cd340c57806fe3da19e0405b8c616e4da1b2ba5989143936b417"), looks := false }, kinds := [], alts := [], laidByText := true, laidKinds := [.called], laidTests := true, laidLooks := .later }
def AsciiRepairsUptoCardSaid : Prop := Claim7.holds Tryd.pinned (.plain (OpenSpec.upto asciiRepairsSpec)) asciiRepairsUptoCard

/-- THE SECOND FORM's CARD OF 'logtidelaw01.AsciiClasses'. -/
def asciiClassesUptoCard : Claim7 := { stood := { row := asciiClassesUptoRow, standIns := [], harness := (true, "22edadf50046cd340c57806fe3da19e0405b8c616e4da1b2ba5989143936b417"), looks := false }, kinds := [], alts := [], laidByText := true, laidKinds := [.called], laidTests := true, laidLooks := .later }
def AsciiClassesUptoCardSaid : Prop := Claim7.holds Tryd.pinned (.plain (OpenSpec.upto asciiClassesSpec)) asciiClassesUptoCard

/-- THE SECOND FORM's CARD OF 'logtidelaw01.AsciiCuts'. -/
def asciiCutsUptoCard : Claim7 := { stood := { row := asciiCutsUptoRow, standIns := [], harness := (true, "22edadf50046cd340c57806fe3da19e0405b8c616e4da1b2ba5989143936b417"), looks := false }, kinds := [], alts := [], laidByText := true, laidKinds := [.called], laidTests := true, laidLooks := .later }
def AsciiCutsUptoCardSaid : Prop := Claim7.holds Tryd.pinned (.plain (OpenSpec.upto asciiCutsSpec)) asciiCutsUptoCard

/-- THE SECOND FORM's CARD OF 'logtidelaw01.AsciiNumbers'. -/
def asciiNumbersUptoCard : Claim7 := { stood := { row := asciiNumbersUptoRow, standIns := [], harness := (true, "22edadf50046cd340c57806fe3da19e0405b8c616e4da1b2ba5989143936b417"), looks := false }, kinds := [], alts := [], laidByText := true, laidKinds := [.data, .data, .data, .called], laidTests := true, laidLooks := .later }
def AsciiNumbersUptoCardSaid : Prop := Claim7.holds Tryd.pinned (.plain (OpenSpec.upto asciiNumbersSpec)) asciiNumbersUptoCard

/-- THE SECOND FORM's CARD OF 'logtidelaw01.AsciiReturns'. -/
def asciiReturnsUptoCard : Claim7 := { stood := { row := asciiReturnsUptoRow, standIns := [], harness := (true, "22edadf50046cd340c57806fe3da19e0405b8c616e4da1b2ba5989143936b417"), looks := false }, kinds := [], alts := [], laidByText := true, laidKinds := [.data, .data, .data, .called], laidTests := true, laidLooks := .later }
def AsciiReturnsUptoCardSaid : Prop := Claim7.holds Tryd.pinned (.plain (OpenSpec.upto asciiReturnsSpec)) asciiReturnsUptoCard

/-- THE SECOND FORM's CARD OF 'logtidelaw01.AsciiSplits'. -/
def asciiSplitsUptoCard : Claim7 := { stood := { row := asciiSplitsUptoRow, standIns := [], harness := (true, "22edadf50046cd340c57806fe3da19e0405b8c616e4da1b2ba5989143936b417"), looks := false }, kinds := [], alts := [], laidByText := true, laidKinds := [.data, .called, .pinned], laidTests := true, laidLooks := .later }
def AsciiSplitsUptoCardSaid : Prop := Claim7.holds Tryd.pinned (.plain (OpenSpec.upto asciiSplitsSpec)) asciiSplitsUptoCard
end Rows
end Go.Proofs.YtloilffkggkgdaaDoor

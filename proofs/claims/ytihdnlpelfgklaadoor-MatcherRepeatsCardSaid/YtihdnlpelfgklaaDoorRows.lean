/-
  NARROWER THAN 'FOR EVERY INPUT', by the rows' own cells (each row's printed sentence says how): MatcherChoices: laid · MatcherRepeats: laid · MatcherLiterals: laid.
  DERIVED. THE GIVEN ROWS OF THIS SEAT. 3 by the template 'for every input the law returns true; each argument reads behind the call as it read before'; 0 by the template 'total and deterministic' (their statements: YtihdnlpelfgklaaDoorTotals.lean).
  GIVEN WITH THE SEED: the statements are not yours to turn. If you find one false, say at which input.
  Laid BY PROGRAM, IN A SANDBOX (cutbox-rows.mjs): the forced cells as the released guide's own fill.sh prints them over the translation 5542de251c6523ff… (all of the seat's roots in one cut). By AI agents, Wed Nov 11 2026. No macro, syntax, notation, axiom, sorry.
-/
import Derived.Test.YtihdnlpelfgklaaDoorChecked
import GoSem.Claim
import GoSem.ClaimJoined
import GoSem.ClaimMapViews
import Derived.JoinedTies
import Derived.KernelRfl
namespace Go.Proofs.YtihdnlpelfgklaaDoor
/- THE CELL 'sum', in the pinned program and in every row, IS THE sha256 OF THE DUMP (.gsa) THAT YtihdnlpelfgklaaDoorProg.lean LOADS. Nothing in Lean hashes anything: it is a label: what it is worth is what the hold of that sum in a sandbox is worth. -/
noncomputable def Tryd.pinned : Pinned := { name := "ytihdnlpelfgklaadoor", sum := "5542de251c6523ffdc16b9e8113849fe9195269974636f9bfda97ea560f04265", checked := Tryd.checked }
namespace Rows
def none {H : Type} : Left H := { results := [], args := [] }

/- WHAT THE LISTED PACKAGE-LEVEL VARIABLES READ AS WHEN THE CALL BEGINS. Each datum BY PROGRAM (the guide's laid-datum.mjs) off the statement by which the dump's own 'gosem.cut.vars' lays the variable. In a bare row this is a premise. The card (YtihdnlpelfgklaaDoorCards.lean) ties it to the program's text. -/
def laid_logtide_ascii_kinds {H : Type} : DataW H := .agg [.lit (.int .u8 0), .lit (.int .u8 0), .lit (.int .u8 0), .lit (.int .u8 0), .lit (.int .u8 0), .lit (.int .u8 0), .lit (.int .u8 0), .lit (.int .u8 0), .lit (.int .u8 0), .lit (.int .u8 4), .lit (.int .u8 0), .lit (.int .u8 0), .lit (.int .u8 0), .lit (.int .u8 0), .lit (.int .u8 0), .lit (.int .u8 0), .lit (.int .u8 0), .lit (.int .u8 0), .lit (.int .u8 0), .lit (.int .u8 0), .lit (.int .u8 0), .lit (.int .u8 0), .lit (.int .u8 0), .lit (.int .u8 0), .lit (.int .u8 0), .lit (.int .u8 0), .lit (.int .u8 0), .lit (.int .u8 0), .lit (.int .u8 0), .lit (.int .u8 0), .lit (.int .u8 0), .lit (.int .u8 0), .lit (.int .u8 4), .lit (.int .u8 0), .lit (.int .u8 0), .lit (.int .u8 0), .lit (.int .u8 0), .lit (.int .u8 0), .lit (.int .u8 0), .lit (.int .u8 0), .lit (.int .u8 0), .lit (.int .u8 0), .lit (.int .u8 0), .lit (.int .u8 0), .lit (.int .u8 0), .lit (.int .u8 0), .lit (.int .u8 0), .lit (.int .u8 0), .lit (.int .u8 1), .lit (.int .u8 1), .lit (.int .u8 1), .lit (.int .u8 1), .lit (.int .u8 1), .lit (.int .u8 1), .lit (.int .u8 1), .lit (.int .u8 1), .lit (.int .u8 1), .lit (.int .u8 1), .lit (.int .u8 0), .lit (.int .u8 0), .lit (.int .u8 0), .lit (.int .u8 0), .lit (.int .u8 0), .lit (.int .u8 0), .lit (.int .u8 0), .lit (.int .u8 2), .lit (.int .u8 2), .lit (.int .u8 2), .lit (.int .u8 2), .lit (.int .u8 2), .lit (.int .u8 2), .lit (.int .u8 2), .lit (.int .u8 2), .lit (.int .u8 2), .lit (.int .u8 2), .lit (.int .u8 2), .lit (.int .u8 2), .lit (.int .u8 2), .lit (.int .u8 2), .lit (.int .u8 2), .lit (.int .u8 2), .lit (.int .u8 2), .lit (.int .u8 2), .lit (.int .u8 2), .lit (.int .u8 2), .lit (.int .u8 2), .lit (.int .u8 2), .lit (.int .u8 2), .lit (.int .u8 2), .lit (.int .u8 2), .lit (.int .u8 2), .lit (.int .u8 0), .lit (.int .u8 0), .lit (.int .u8 0), .lit (.int .u8 0), .lit (.int .u8 0), .lit (.int .u8 0), .lit (.int .u8 2), .lit (.int .u8 2), .lit (.int .u8 2), .lit (.int .u8 2), .lit (.int .u8 2), .lit (.int .u8 2), .lit (.int .u8 2), .lit (.int .u8 2), .lit (.int .u8 2), .lit (.int .u8 2), .lit (.int .u8 2), .lit (.int .u8 2), .lit (.int .u8 2), .lit (.int .u8 2), .lit (.int .u8 2), .lit (.int .u8 2), .lit (.int .u8 2), .lit (.int .u8 2), .lit (.int .u8 2), .lit (.int .u8 2), .lit (.int .u8 2), .lit (.int .u8 2), .lit (.int .u8 2), .lit (.int .u8 2), .lit (.int .u8 2), .lit (.int .u8 2), .lit (.int .u8 0), .lit (.int .u8 0), .lit (.int .u8 0), .lit (.int .u8 0), .lit (.int .u8 0), .lit (.int .u8 0), .lit (.int .u8 0), .lit (.int .u8 0), .lit (.int .u8 0), .lit (.int .u8 0), .lit (.int .u8 0), .lit (.int .u8 0), .lit (.int .u8 0), .lit (.int .u8 0), .lit (.int .u8 0), .lit (.int .u8 0), .lit (.int .u8 0), .lit (.int .u8 0), .lit (.int .u8 0), .lit (.int .u8 0), .lit (.int .u8 0), .lit (.int .u8 0), .lit (.int .u8 0), .lit (.int .u8 0), .lit (.int .u8 0), .lit (.int .u8 0), .lit (.int .u8 0), .lit (.int .u8 0), .lit (.int .u8 0), .lit (.int .u8 0), .lit (.int .u8 0), .lit (.int .u8 0), .lit (.int .u8 0), .lit (.int .u8 0), .lit (.int .u8 0), .lit (.int .u8 0), .lit (.int .u8 0), .lit (.int .u8 0), .lit (.int .u8 0), .lit (.int .u8 0), .lit (.int .u8 0), .lit (.int .u8 0), .lit (.int .u8 0), .lit (.int .u8 0), .lit (.int .u8 0), .lit (.int .u8 0), .lit (.int .u8 0), .lit (.int .u8 0), .lit (.int .u8 0), .lit (.int .u8 0), .lit (.int .u8 0), .lit (.int .u8 0), .lit (.int .u8 0), .lit (.int .u8 0), .lit (.int .u8 0), .lit (.int .u8 0), .lit (.int .u8 0), .lit (.int .u8 0), .lit (.int .u8 0), .lit (.int .u8 0), .lit (.int .u8 0), .lit (.int .u8 0), .lit (.int .u8 0), .lit (.int .u8 0), .lit (.int .u8 0), .lit (.int .u8 0), .lit (.int .u8 0), .lit (.int .u8 0), .lit (.int .u8 0), .lit (.int .u8 0), .lit (.int .u8 0), .lit (.int .u8 0), .lit (.int .u8 0), .lit (.int .u8 0), .lit (.int .u8 0), .lit (.int .u8 0), .lit (.int .u8 0), .lit (.int .u8 0), .lit (.int .u8 0), .lit (.int .u8 0), .lit (.int .u8 0), .lit (.int .u8 0), .lit (.int .u8 0), .lit (.int .u8 0), .lit (.int .u8 0), .lit (.int .u8 0), .lit (.int .u8 0), .lit (.int .u8 0), .lit (.int .u8 0), .lit (.int .u8 0), .lit (.int .u8 0), .lit (.int .u8 0), .lit (.int .u8 0), .lit (.int .u8 0), .lit (.int .u8 0), .lit (.int .u8 0), .lit (.int .u8 0), .lit (.int .u8 0), .lit (.int .u8 0), .lit (.int .u8 0), .lit (.int .u8 0), .lit (.int .u8 0), .lit (.int .u8 0), .lit (.int .u8 0), .lit (.int .u8 0), .lit (.int .u8 0), .lit (.int .u8 0), .lit (.int .u8 0), .lit (.int .u8 0), .lit (.int .u8 0), .lit (.int .u8 0), .lit (.int .u8 0), .lit (.int .u8 0), .lit (.int .u8 0), .lit (.int .u8 0), .lit (.int .u8 0), .lit (.int .u8 0), .lit (.int .u8 0), .lit (.int .u8 0), .lit (.int .u8 0), .lit (.int .u8 0), .lit (.int .u8 0), .lit (.int .u8 0), .lit (.int .u8 0), .lit (.int .u8 0), .lit (.int .u8 0), .lit (.int .u8 0), .lit (.int .u8 0), .lit (.int .u8 0), .lit (.int .u8 0), .lit (.int .u8 0), .lit (.int .u8 0), .lit (.int .u8 0)]

/-- 'logtidelaw03.MatcherChoices': WHATEVER THE INPUT: true; the input reads as it did. -/
def matcherChoicesSpec : ChangeSpec := { name := "matcherChoices", fn := fun _ => fun
  | [d1, d2, d3] => { results := [.lit (.bool true)], args := [d1, d2, d3] }
  | _ => none }
def matcherChoicesRow : OpenClaim := { program := "ytihdnlpelfgklaadoor", sum := "5542de251c6523ffdc16b9e8113849fe9195269974636f9bfda97ea560f04265", func := "logtide/logtidelaw03.MatcherChoices", spec := "matcherChoices", inPlace := ["internal/bytealg.IndexByteString"], unfollowed := true, recurses := true, named := ["logtide/ascii.kinds"], apart := false, laid := [("logtide/ascii.kinds", laid_logtide_ascii_kinds)] }
def MatcherChoicesSaid : Prop := matcherChoicesRow.holds Tryd.pinned (OpenSpec.ofChange matcherChoicesSpec)

/-- ITS FALSE NEIGHBOUR: 'it returns false'. Refute it at one input. -/
def matcherChoicesWrong : ChangeSpec := { name := "matcherChoices", fn := fun _ => fun
  | [d1, d2, d3] => { results := [.lit (.bool false)], args := [d1, d2, d3] }
  | _ => none }
def MatcherChoicesWrongFalsely : Prop := matcherChoicesRow.holds Tryd.pinned (OpenSpec.ofChange matcherChoicesWrong)

/-- 'logtidelaw03.MatcherRepeats': WHATEVER THE INPUT: true; the input reads as it did. -/
def matcherRepeatsSpec : ChangeSpec := { name := "matcherRepeats", fn := fun _ => fun
  | [d1, d2, d3] => { results := [.lit (.bool true)], args := [d1, d2, d3] }
  | _ => none }
def matcherRepeatsRow : OpenClaim := { program := "ytihdnlpelfgklaadoor", sum := "5542de251c6523ffdc16b9e8113849fe9195269974636f9bfda97ea560f04265", func := "logtide/logtidelaw03.MatcherRepeats", spec := "matcherRepeats", inPlace := ["internal/bytealg.IndexByteString"], unfollowed := true, recurses := true, named := ["logtide/ascii.kinds"], apart := false, laid := [("logtide/ascii.kinds", laid_logtide_ascii_kinds)] }
def MatcherRepeatsSaid : Prop := matcherRepeatsRow.holds Tryd.pinned (OpenSpec.ofChange matcherRepeatsSpec)

/-- ITS FALSE NEIGHBOUR: 'it returns false'. Refute it at one input. -/
def matcherRepeatsWrong : ChangeSpec := { name := "matcherRepeats", fn := fun _ => fun
  | [d1, d2, d3] => { results := [.lit (.bool false)], args := [d1, d2, d3] }
  | _ => none }
def MatcherRepeatsWrongFalsely : Prop := matcherRepeatsRow.holds Tryd.pinned (OpenSpec.ofChange matcherRepeatsWrong)

/-- 'logtidelaw03.MatcherLiterals': WHATEVER THE INPUT: true; the input reads as it did. -/
def matcherLiteralsSpec : ChangeSpec := { name := "matcherLiterals", fn := fun _ => fun
  | [d1, d2, d3] => { results := [.lit (.bool true)], args := [d1, d2, d3] }
  | _ => none }
def matcherLiteralsRow : OpenClaim := { program := "ytihdnlpelfgklaadoor", sum := "5542de251c6523ffdc16b9e8113849fe9195269974636f9bfda97ea560f04265", func := "logtide/logtidelaw03.MatcherLiterals", spec := "matcherLiterals", inPlace := ["internal/bytealg.IndexByteString"], unfollowed := true, recurses := true, named := ["logtide/ascii.kinds"], apart := false, laid := [("logtide/ascii.kinds", laid_logtide_ascii_kinds)] }
def MatcherLiteralsSaid : Prop := matcherLiteralsRow.holds Tryd.pinned (OpenSpec.ofChange matcherLiteralsSpec)

/-- ITS FALSE NEIGHBOUR: 'it returns false'. Refute it at one input. -/
def matcherLiteralsWrong : ChangeSpec := { name := "matcherLiterals", fn := fun _ => fun
  | [d1, d2, d3] => { results := [.lit (.bool false)], args := [d1, d2, d3] }
  | _ => none }
def MatcherLiteralsWrongFalsely : Prop := matcherLiteralsRow.holds Tryd.pinned (OpenSpec.ofChange matcherLiteralsWrong)

/- THE SECOND FORM. 'bulk': how many values and letters a reading holds, each counted each time it is reached (what is shared counts as often as it is met; a slice's spare places count too). A statement '..UptoSaid' is the law's where the arguments, and the package variables that the reading takes, are together of bulk at most 1048576: NARROWER than '..Said'. Prove '..Said' where nothing that the law and all that it calls make is longer than what came in: it says more and counts as full. Else prove '..UptoSaid'. A law counts once. -/
mutual
def uptoBulk {H : Type} : DataW H → Nat
  | .lit (.string bytes) => bytes.length + 1
  | .lit _ => 1
  | .nil => 1
  | .ptr d => uptoBulk d + 1
  | .slice elems spare => uptoBulkAll elems + uptoBulkAll spare + 1
  | .agg parts => uptoBulkAll parts + 1
  | .iface _ d => uptoBulk d + 1
  | .map entries => uptoBulkEntries entries + 1
  | .held _ => 1
def uptoBulkAll {H : Type} : List (DataW H) → Nat
  | [] => 0
  | d :: r => uptoBulk d + uptoBulkAll r
def uptoBulkEntries {H : Type} : List (Lit × DataW H) → Nat
  | [] => 0
  | x :: r => uptoBulkEntry x + uptoBulkEntries r
def uptoBulkEntry {H : Type} : Lit × DataW H → Nat
  | (.string bytes, d) => bytes.length + uptoBulk d + 1
  | (_, d) => uptoBulk d + 1
 end
def uptoSmall : (H : Type) → List (DataW H) → Bool := fun _ ds => decide (uptoBulkAll ds ≤ 1048576)
def OpenSpec.upto (s : _root_.Go.ChangeSpec) : _root_.Go.OpenSpec := { _root_.Go.OpenSpec.ofChange s with cond := some uptoSmall }

/-- 'logtidelaw03.MatcherChoices', WHERE WHAT IT READS IS OF BULK AT MOST 1048576: true; the input reads as it did. -/
def matcherChoicesUptoRow : OpenClaim := { program := "ytihdnlpelfgklaadoor", sum := "5542de251c6523ffdc16b9e8113849fe9195269974636f9bfda97ea560f04265", func := "logtide/logtidelaw03.MatcherChoices", spec := "matcherChoices", inPlace := ["internal/bytealg.IndexByteString"], unfollowed := true, recurses := true, named := ["logtide/ascii.kinds"], apart := false, laid := [("logtide/ascii.kinds", laid_logtide_ascii_kinds)], narrowed := true }
def MatcherChoicesUptoSaid : Prop := matcherChoicesUptoRow.holds Tryd.pinned (OpenSpec.upto matcherChoicesSpec)

/-- 'logtidelaw03.MatcherRepeats', WHERE WHAT IT READS IS OF BULK AT MOST 1048576: true; the input reads as it did. -/
def matcherRepeatsUptoRow : OpenClaim := { program := "ytihdnlpelfgklaadoor", sum := "5542de251c6523ffdc16b9e8113849fe9195269974636f9bfda97ea560f04265", func := "logtide/logtidelaw03.MatcherRepeats", spec := "matcherRepeats", inPlace := ["internal/bytealg.IndexByteString"], unfollowed := true, recurses := true, named := ["logtide/ascii.kinds"], apart := false, laid := [("logtide/ascii.kinds", laid_logtide_ascii_kinds)], narrowed := true }
def MatcherRepeatsUptoSaid : Prop := matcherRepeatsUptoRow.holds Tryd.pinned (OpenSpec.upto matcherRepeatsSpec)

/-- 'logtidelaw03.MatcherLiterals', WHERE WHAT IT READS IS OF BULK AT MOST 1048576: true; the input reads as it did. -/
def matcherLiteralsUptoRow : OpenClaim := { program := "ytihdnlpelfgklaadoor", sum := "5542de251c6523ffdc16b9e8113849fe9195269974636f9bfda97ea560f04265", func := "logtide/logtidelaw03.MatcherLiterals", spec := "matcherLiterals", inPlace := ["internal/bytealg.IndexByteString"], unfollowed := true, recurses := true, named := ["logtide/ascii.kinds"], apart := false, laid := [("logtide/ascii.kinds", laid_logtide_ascii_kinds)], narrowed := true }
def MatcherLiteralsUptoSaid : Prop := matcherLiteralsUptoRow.holds Tryd.pinned (OpenSpec.upto matcherLiteralsSpec)

end Rows
end Go.Proofs.YtihdnlpelfgklaaDoor

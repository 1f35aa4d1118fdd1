/-
  The shape of a node, for the program.
-/
import Derived.Test.YtgcpinnnfoanjaaGreatDoorPatEa
import Derived.Test.YtgcpinnnfoanjaaGreatDoorPatEb
import Derived.Test.YtgcpinnnfoanjaaGreatDoorPatEc
import Derived.BigQuiet
namespace Go.Proofs.YtgcpinnnfoanjaaGreatDoor
open Go.RowKit

theorem shape_any (op : Int) (rs : List (UInt8 × UInt8)) (nm : List UInt8) (n : Nat) (mn mx : Int) (ra : Option Addr) (rc : Nat) (a : Option Addr) (c : Nat) (w : World) (hr : RgAt w rs (.slice ra rs.length rc)) :
    Calls Tryz.prog 90 #[.agg #[.int .i64 op, .slice ra rs.length rc, .string ⟨nm.toArray⟩, .slice a n c, .int .i64 mn, .int .i64 mx]] w fun e w' => e = .returned (.bool (shpB op rs nm n mn mx)) ∧ Below w.heap.size w w' := by
  by_cases h0 : op = 0
  · subst h0; exact shape_0 rs nm n mn mx ra rc a c w hr
  by_cases h1 : op = 1
  · subst h1; exact shape_1 rs nm n mn mx ra rc a c w hr
  by_cases h2 : op = 2
  · subst h2; exact shape_2 rs nm n mn mx ra rc a c w hr
  by_cases h3 : op = 3
  · subst h3; exact shape_3 rs nm n mn mx ra rc a c w hr
  by_cases h4 : op = 4
  · subst h4; exact shape_4 rs nm n mn mx ra rc a c w hr
  by_cases h5 : op = 5
  · subst h5; exact shape_5 rs nm n mn mx ra rc a c w hr
  by_cases h6 : op = 6
  · subst h6; exact shape_6 rs nm n mn mx ra rc a c w hr
  by_cases h7 : op = 7
  · subst h7; exact shape_7 rs nm n mn mx ra rc a c w hr
  exact shape_no op rs nm n mn mx ra rc a c w ⟨h0, h1, h2, h3, h4, h5, h6, h7⟩

end Go.Proofs.YtgcpinnnfoanjaaGreatDoor

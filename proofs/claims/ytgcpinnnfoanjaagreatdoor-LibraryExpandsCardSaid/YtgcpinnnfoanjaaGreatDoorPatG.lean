/-
  What a node must not have, for the reference.
-/
import Derived.Test.YtgcpinnnfoanjaaGreatDoorPatE
import Derived.BigQuiet
namespace Go.Proofs.YtgcpinnnfoanjaaGreatDoor
open Go.RowKit

noncomputable def bareB (op : Int) (rs : List (UInt8 × UInt8)) (nm : List UInt8) (mn mx : Int) : Bool :=
  (decide (op = 1) || decide (rs.length = 0)) && ((decide (op = 5) || decide (nm.length = 0)) && (decide (op = 4) || decide (mn = 0 ∧ mx = 0)))
end Go.Proofs.YtgcpinnnfoanjaaGreatDoor

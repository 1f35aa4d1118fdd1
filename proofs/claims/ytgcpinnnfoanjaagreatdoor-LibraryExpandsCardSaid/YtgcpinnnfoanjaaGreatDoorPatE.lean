/-
  A name for the reference; the shape of a node for the program.
-/
import Derived.Test.YtgcpinnnfoanjaaGreatDoorPatD
namespace Go.Proofs.YtgcpinnnfoanjaaGreatDoor
open Go.RowKit

/-- The shape of a node without its kids. -/
noncomputable def shpB (op : Int) (rs : List (UInt8 × UInt8)) (nm : List UInt8) (n : Nat) (mn mx : Int) : Bool :=
  if op = 0 ∨ op = 6 ∨ op = 7 then decide (n = 0) && (decide (rs.length = 0) && (decide (nm.length = 0) && decide (mn = 0 ∧ mx = 0)))
  else if op = 1 then decide (n = 0) && (srtB rs && (decide (nm.length = 0) && decide (mn = 0 ∧ mx = 0)))
  else if op = 2 ∨ op = 3 then decide (2 ≤ n) && (decide (rs.length = 0) && (decide (nm.length = 0) && decide (mn = 0 ∧ mx = 0)))
  else if op = 4 then decide (n = 1) && (decide (rs.length = 0) && decide (nm.length = 0))
  else if op = 5 then decide (n = 1) && (decide (rs.length = 0) && decide (mn = 0 ∧ mx = 0))
  else false

end Go.Proofs.YtgcpinnnfoanjaaGreatDoor

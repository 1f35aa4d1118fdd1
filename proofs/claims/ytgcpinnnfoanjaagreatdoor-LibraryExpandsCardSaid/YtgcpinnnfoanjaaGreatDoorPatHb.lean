/-
  The shape of a node, for the reference (Repeat, Capture).
-/
import Derived.Test.YtgcpinnnfoanjaaGreatDoorPatH
import Derived.BigQuiet
namespace Go.Proofs.YtgcpinnnfoanjaaGreatDoor
open Go.RowKit

end Go.Proofs.YtgcpinnnfoanjaaGreatDoor

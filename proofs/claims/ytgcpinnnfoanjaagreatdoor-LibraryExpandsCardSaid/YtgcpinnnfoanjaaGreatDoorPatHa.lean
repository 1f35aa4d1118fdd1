/-
  The shape of a node, for the reference (Choice, Begin, End, the rest).
-/
import Derived.Test.YtgcpinnnfoanjaaGreatDoorPatH
import Derived.BigQuiet
namespace Go.Proofs.YtgcpinnnfoanjaaGreatDoor
open Go.RowKit

end Go.Proofs.YtgcpinnnfoanjaaGreatDoor

/-
  The shape of a node, for the reference.
-/
import Derived.Test.YtgcpinnnfoanjaaGreatDoorPatHa
import Derived.Test.YtgcpinnnfoanjaaGreatDoorPatHb
import Derived.BigQuiet
namespace Go.Proofs.YtgcpinnnfoanjaaGreatDoor
open Go.RowKit

end Go.Proofs.YtgcpinnnfoanjaaGreatDoor

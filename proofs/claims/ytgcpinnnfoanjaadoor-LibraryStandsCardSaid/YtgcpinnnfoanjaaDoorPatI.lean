/-
  The shape of a node, for the reference.
-/
import Derived.Test.YtgcpinnnfoanjaaDoorPatHa
import Derived.Test.YtgcpinnnfoanjaaDoorPatHb
import Derived.BigQuiet
namespace Go.Proofs.YtgcpinnnfoanjaaDoor
open Go.RowKit

end Go.Proofs.YtgcpinnnfoanjaaDoor

/-
  The shape of a node, for the reference (Repeat, Capture).
-/
import Derived.Test.YtgcpinnnfoanjaaDoorPatH
import Derived.BigQuiet
namespace Go.Proofs.YtgcpinnnfoanjaaDoor
open Go.RowKit

end Go.Proofs.YtgcpinnnfoanjaaDoor

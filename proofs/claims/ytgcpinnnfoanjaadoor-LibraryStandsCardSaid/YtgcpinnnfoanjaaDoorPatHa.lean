/-
  The shape of a node, for the reference (Choice, Begin, End, the rest).
-/
import Derived.Test.YtgcpinnnfoanjaaDoorPatH
import Derived.BigQuiet
namespace Go.Proofs.YtgcpinnnfoanjaaDoor
open Go.RowKit

end Go.Proofs.YtgcpinnnfoanjaaDoor

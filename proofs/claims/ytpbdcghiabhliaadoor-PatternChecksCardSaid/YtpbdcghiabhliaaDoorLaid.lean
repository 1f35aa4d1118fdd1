/-
  What a row's list of variables gives: the tables' cells; and a world that fits it.
-/
import Derived.Test.YtpbdcghiabhliaaDoorCards
import Derived.Test.YtpbdcghiabhliaaDoorTie
import Derived.WalkKit
import Derived.ProofKit
import Derived.OpenShut
import Derived.Deep.DeepHandedRow
import Derived.Lib.LaidTab
import Derived.Stop.LaidErr
namespace Go.Proofs.YtpbdcghiabhliaaDoor
open Go.ChangeShapes Go.WideShapes Go.ChangeAt Go.RowKit

theorem own : ownKnob Tryd.prog.godebug = none := by kernel_rfl

/-- A listed table of integers as cells: for the witness. -/
def litCells : DataW Unit → Array Value
  | .agg l => (l.map fun | .lit (.int k n) => Value.int k n | _ => undef).toArray
  | _ => #[]
def layAt (d : DataW Unit) : Obj → Obj
  | .cells _ t frozen => .cells (litCells d) t frozen
  | o => o

end Go.Proofs.YtpbdcghiabhliaaDoor

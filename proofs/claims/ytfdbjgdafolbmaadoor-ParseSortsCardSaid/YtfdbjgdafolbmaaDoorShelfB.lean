/- CONTRACTS OF Go's LIBRARY, laid at this translation by the kit's tool. -/
import Derived.Shelf.SlSortCmp.InsertionK
import Derived.Test.YtfdbjgdafolbmaaDoorProg
namespace Go.Proofs
open Go.Shelf
def Tryd.insField_ren : Go.Shelf.Ren := ⟨fun | 20 => 62 | n => n, fun | 24 => 30 | 22 => 27 | 3 => 3 | 25 => 58 | 4 => 4 | 0 => 0 | n => n, fun | n => n⟩
theorem Tryd.insField : Go.Proofs.SlLaysF0.n20 Tryd.prog Tryd.insField_ren := {
  mixed := by kernel_rfl
  f20 := ⟨Tryd.f62.name, by decide, Tryd.func62.trans (congrArg some (by kernel_rfl))⟩
  t0 := Tryd.underlying0
  a0 := Tryd.isAgg0
  z0 := Tryd.sizeOf0
  v0 := Tryd.zeroValue0
  t3 := Tryd.underlying3
  a3 := Tryd.isAgg3
  z3 := Tryd.sizeOf3
  v3 := Tryd.zeroValue3
  t4 := Tryd.underlying4
  a4 := Tryd.isAgg4
  z4 := Tryd.sizeOf4
  v4 := Tryd.zeroValue4
  t22 := Tryd.underlying27
  a22 := Tryd.isAgg27
  z22 := Tryd.sizeOf27
  v22 := Tryd.zeroValue27
  t25 := Tryd.underlying58
  a25 := Tryd.isAgg58
  z25 := Tryd.sizeOf58
  v25 := Tryd.zeroValue58 }
end Go.Proofs

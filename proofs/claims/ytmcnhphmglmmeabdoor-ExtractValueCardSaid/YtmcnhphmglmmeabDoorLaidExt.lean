/-
  The table of the powers of ten, out of a row's list; the world of the witness.
-/
import Derived.Test.YtmcnhphmglmmeabDoorLaid
import Derived.Test.YtmcnhphmglmmeabDoorExtB
namespace Go.Proofs.YtmcnhphmglmmeabDoor
open Go.ChangeShapes Go.WideShapes Go.ChangeAt Go.RowKit

def theLaid : List (String × DataW Unit) := [("math/bits.deBruijn32tab", Rows.laid_math_bits_deBruijn32tab), ("math/bits.deBruijn64tab", Rows.laid_math_bits_deBruijn64tab), ("internal/strconv.uint64pow10", Rows.laid_internal_strconv_uint64pow10)]
theorem gPow : Tryd.prog.globalNamed "internal/strconv.uint64pow10" = some 0 := by kernel_rfl
theorem gPowType : (Tryd.prog.globals[0]?).map (·.type) = some 68 := by kernel_rfl
theorem cellsPow : Tryd.prog.cellsOf 68 = 20 := by kernel_rfl
theorem cellsU64 : Tryd.prog.cellsOf 58 = 1 := by kernel_rfl
theorem pow_of_laid {W : World} (h : laidMetH Tryd.prog theLaid W) : Pow W := by
  have h' : laidMet Tryd.prog theLaid W := h
  have h3 : laidMet Tryd.prog [("internal/strconv.uint64pow10", Rows.laid_internal_strconv_uint64pow10)] W := h'.tail.tail
  exact Lib.tabIs_of_head (zs := Lib.pow10Tab) (rest := []) gPow gPowType Tryd.underlying68 Tryd.underlying58 cellsU64 cellsPow h3

/-- A WORLD FOR THE WITNESS: the settled one, the tables holding what their initialisers lay. -/
noncomputable def laidWorld (os : Os) : World :=
  { World.holding Tryd.prog os ⟨#[], #[], []⟩ with heap := (((World.holding Tryd.prog os ⟨#[], #[], []⟩).heap.modify 0 (layAt Rows.laid_internal_strconv_uint64pow10)).modify 1 (layAt Rows.laid_math_bits_deBruijn32tab)).modify 2 (layAt Rows.laid_math_bits_deBruijn64tab) }

end Go.Proofs.YtmcnhphmglmmeabDoor

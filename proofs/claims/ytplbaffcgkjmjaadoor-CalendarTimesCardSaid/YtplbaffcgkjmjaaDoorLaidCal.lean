/-
  The calendar's tables, out of a row's list.
-/
import Derived.Test.YtplbaffcgkjmjaaDoorLaid
import Derived.Test.YtplbaffcgkjmjaaDoorCalI
namespace Go.Proofs.YtplbaffcgkjmjaaDoor
open Go.ChangeShapes Go.WideShapes Go.ChangeAt Go.RowKit

def theLaid : List (String × DataW Unit) := [("math/bits.deBruijn32tab", Rows.laid_math_bits_deBruijn32tab), ("math/bits.deBruijn64tab", Rows.laid_math_bits_deBruijn64tab), ("internal/strconv.uint64pow10", Rows.laid_internal_strconv_uint64pow10), ("logtide/calendar.before", Rows.laid_logtide_calendar_before)]

theorem gBef : Tryd.prog.globalNamed "logtide/calendar.before" = some 0 := by kernel_rfl
theorem gPow : Tryd.prog.globalNamed "internal/strconv.uint64pow10" = some 1 := by kernel_rfl
theorem gBefType : (Tryd.prog.globals[0]?).map (·.type) = some 46 := by kernel_rfl
theorem gPowType : (Tryd.prog.globals[1]?).map (·.type) = some 59 := by kernel_rfl
theorem cellsBef : Tryd.prog.cellsOf 46 = 14 := by kernel_rfl
theorem cellsPow : Tryd.prog.cellsOf 59 = 20 := by kernel_rfl
theorem cellsInt : Tryd.prog.cellsOf 3 = 1 := by kernel_rfl
theorem cellsU64 : Tryd.prog.cellsOf 53 = 1 := by kernel_rfl

theorem g_of_laid {W : World} (h : laidMetH Tryd.prog theLaid W) : G W := by
  have h' : laidMet Tryd.prog theLaid W := h
  have h3 : laidMet Tryd.prog [("internal/strconv.uint64pow10", Rows.laid_internal_strconv_uint64pow10), ("logtide/calendar.before", Rows.laid_logtide_calendar_before)] W := h'.tail.tail
  have hp : Pow W := Lib.tabIs_of_head (zs := Lib.pow10Tab) (rest := [("logtide/calendar.before", Rows.laid_logtide_calendar_before)]) gPow gPowType Tryd.underlying59 Tryd.underlying53 cellsU64 cellsPow h3
  have h4 : laidMet Tryd.prog [("logtide/calendar.before", Rows.laid_logtide_calendar_before)] W := h3.tail
  have ht : Lib.TabIs Tryd.prog W "logtide/calendar.before" .i64 Cal.bef := Lib.tabIs_of_head (zs := Cal.bef) (rest := []) gBef gBefType Tryd.underlying46 Tryd.underlying3 cellsInt cellsBef h4
  exact ⟨fun i hi => ht.cell gBef i hi, hp⟩

/-- A WORLD FOR THE WITNESS: the settled one, the tables holding what their initialisers lay. -/
noncomputable def laidWorld (os : Os) : World :=
  { World.holding Tryd.prog os ⟨#[], #[], []⟩ with heap := ((((World.holding Tryd.prog os ⟨#[], #[], []⟩).heap.modify 0 (layAt Rows.laid_logtide_calendar_before)).modify 1 (layAt Rows.laid_internal_strconv_uint64pow10)).modify 2 (layAt Rows.laid_math_bits_deBruijn32tab)).modify 3 (layAt Rows.laid_math_bits_deBruijn64tab) }

end Go.Proofs.YtplbaffcgkjmjaaDoor

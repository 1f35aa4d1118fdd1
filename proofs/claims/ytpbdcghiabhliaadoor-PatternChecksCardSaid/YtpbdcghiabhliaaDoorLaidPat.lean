/-
  The tables that chapter 2's laws read, out of a row's list.
-/
import Derived.Test.YtpbdcghiabhliaaDoorLaid
import Derived.Test.YtpbdcghiabhliaaDoorKinds
import Derived.Lib.LaidTab
import Derived.Lib.QuietBelow
import Derived.Lib.AppendIntMem
namespace Go.Proofs.YtpbdcghiabhliaaDoor
open Go.ChangeShapes Go.WideShapes Go.ChangeAt Go.RowKit

theorem gKinds : Tryd.prog.globalNamed "logtide/ascii.kinds" = some 0 := by kernel_rfl
theorem gPow : Tryd.prog.globalNamed "internal/strconv.uint64pow10" = some 2 := by kernel_rfl
theorem gKindsType : (Tryd.prog.globals[0]?).map (·.type) = some 105 := by kernel_rfl
theorem gPowType : (Tryd.prog.globals[2]?).map (·.type) = some 123 := by kernel_rfl
theorem cellsKinds : Tryd.prog.cellsOf 105 = 256 := by kernel_rfl
theorem cellsPow : Tryd.prog.cellsOf 123 = 20 := by kernel_rfl
theorem cellsU8 : Tryd.prog.cellsOf 5 = 1 := by kernel_rfl
theorem cellsU64 : Tryd.prog.cellsOf 116 = 1 := by kernel_rfl
theorem kinds_data : (Rows.laid_logtide_ascii_kinds : DataW Unit) = Lib.tabData .u8 Asc.kTab := by kernel_rfl

theorem kinds_of_head {W : World} {rest : List (String × DataW Unit)} (h : laidMet Tryd.prog (("logtide/ascii.kinds", Rows.laid_logtide_ascii_kinds) :: rest) W) : Kinds W := by
  rw [kinds_data] at h
  have ht : Lib.TabIs Tryd.prog W "logtide/ascii.kinds" .u8 Asc.kTab := Lib.tabIs_of_head (zs := Asc.kTab) (rest := rest) gKinds gKindsType Tryd.underlying105 Tryd.underlying5 cellsU8 cellsKinds h
  have hc : ∀ c, c < 256 → W.cell? ⟨0, c, none⟩ = some (.int .u8 (Asc.kind c : Nat)) := fun c hc => by
    rw [← Asc.kTab_at c hc]
    exact ht.cell gKinds c (by simpa [Asc.kTab] using hc)
  exact ⟨World.block_lt_of_cell? W _ (hc 0 (by omega)), hc⟩

/-- The table of the powers of ten is laid. -/
def Pow (w : World) : Prop := Lib.TabIs Tryd.prog w "internal/strconv.uint64pow10" .u64 Lib.pow10Tab
theorem Pow.below {w w' : World} (h : Pow w) (hb : Below w.heap.size w w') : Pow w' := by
  have hc := Lib.TabIs.cell h gPow 0 (by decide)
  exact var?_below hb gPow (World.block_lt_of_cell? w _ hc) h

def laidOne : List (String × DataW Unit) := [("logtide/ascii.kinds", Rows.laid_logtide_ascii_kinds)]
def laidFour : List (String × DataW Unit) := [("math/bits.deBruijn32tab", Rows.laid_math_bits_deBruijn32tab), ("math/bits.deBruijn64tab", Rows.laid_math_bits_deBruijn64tab), ("internal/strconv.uint64pow10", Rows.laid_internal_strconv_uint64pow10), ("logtide/ascii.kinds", Rows.laid_logtide_ascii_kinds)]

theorem k_of_laid {W : World} (h : laidMetH Tryd.prog laidOne W) : Kinds W := kinds_of_head (rest := []) h
theorem kp_of_laid {W : World} (h : laidMetH Tryd.prog laidFour W) : Kinds W ∧ Pow W := by
  have h' : laidMet Tryd.prog laidFour W := h
  have h3 : laidMet Tryd.prog [("internal/strconv.uint64pow10", Rows.laid_internal_strconv_uint64pow10), ("logtide/ascii.kinds", Rows.laid_logtide_ascii_kinds)] W := h'.tail.tail
  have hp : Pow W := Lib.tabIs_of_head (zs := Lib.pow10Tab) (rest := [("logtide/ascii.kinds", Rows.laid_logtide_ascii_kinds)]) gPow gPowType Tryd.underlying123 Tryd.underlying116 cellsU64 cellsPow h3
  exact ⟨kinds_of_head (rest := []) h3.tail, hp⟩

/-- A WORLD FOR THE WITNESS: the settled one, the tables holding what their initialisers lay. -/
noncomputable def laidWorld (os : Os) : World :=
  { World.holding Tryd.prog os ⟨#[], #[], []⟩ with heap := ((((World.holding Tryd.prog os ⟨#[], #[], []⟩).heap.modify 0 (layAt Rows.laid_logtide_ascii_kinds)).modify 2 (layAt Rows.laid_internal_strconv_uint64pow10)).modify 3 (layAt Rows.laid_math_bits_deBruijn32tab)).modify 4 (layAt Rows.laid_math_bits_deBruijn64tab) }

end Go.Proofs.YtpbdcghiabhliaaDoor

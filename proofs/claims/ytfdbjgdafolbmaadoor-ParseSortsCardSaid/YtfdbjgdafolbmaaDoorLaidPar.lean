/-
  The table of kinds, out of a row's list; the world of the witness.
-/
import Derived.Test.YtfdbjgdafolbmaaDoorLaid
import Derived.Test.YtfdbjgdafolbmaaDoorKinds
namespace Go.Proofs.YtfdbjgdafolbmaaDoor
open Go.ChangeShapes Go.WideShapes Go.ChangeAt Go.RowKit

theorem gKinds : Tryd.prog.globalNamed "logtide/ascii.kinds" = some 0 := by kernel_rfl
theorem gKindsType : (Tryd.prog.globals[0]?).map (·.type) = some 85 := by kernel_rfl
theorem cellsKinds : Tryd.prog.cellsOf 85 = 256 := by kernel_rfl
theorem cellsU8 : Tryd.prog.cellsOf 5 = 1 := by kernel_rfl
theorem kinds_data : (Rows.laid_logtide_ascii_kinds : DataW Unit) = Lib.tabData .u8 Asc.kTab := by kernel_rfl

theorem kinds_of_head {W : World} {rest : List (String × DataW Unit)} (h : laidMet Tryd.prog (("logtide/ascii.kinds", Rows.laid_logtide_ascii_kinds) :: rest) W) : Kinds W := by
  rw [kinds_data] at h
  have ht : Lib.TabIs Tryd.prog W "logtide/ascii.kinds" .u8 Asc.kTab := Lib.tabIs_of_head (zs := Asc.kTab) (rest := rest) gKinds gKindsType Tryd.underlying85 Tryd.underlying5 cellsU8 cellsKinds h
  have hc : ∀ c, c < 256 → W.cell? ⟨0, c, none⟩ = some (.int .u8 (Asc.kind c : Nat)) := fun c hc => by
    rw [← Asc.kTab_at c hc]
    exact ht.cell gKinds c (by simpa [Asc.kTab] using hc)
  exact ⟨World.block_lt_of_cell? W _ (hc 0 (by omega)), hc⟩

def laidThree : List (String × DataW Unit) := [("unicode/utf8.acceptRanges", Rows.laid_unicode_utf8_acceptRanges), ("logtide/ascii.kinds", Rows.laid_logtide_ascii_kinds), ("unicode/utf8.first", Rows.laid_unicode_utf8_first)]
theorem k3_of_laid {W : World} (h : laidMetH Tryd.prog laidThree W) : Kinds W := by
  have h' : laidMet Tryd.prog laidThree W := h
  exact kinds_of_head (rest := [("unicode/utf8.first", Rows.laid_unicode_utf8_first)]) h'.tail

/-- A listed table of pairs as cells: for the witness. -/
def litCells2 : DataW Unit → Array Value
  | .agg l => (l.map fun | .agg m => (m.map fun | .lit (.int k n) => Value.int k n | _ => undef) | _ => []).flatten.toArray
  | _ => #[]
def layAt2 (d : DataW Unit) : Obj → Obj
  | .cells _ t frozen => .cells (litCells2 d) t frozen
  | o => o
noncomputable def laidWorld3 (os : Os) : World :=
  { World.holding Tryd.prog os ⟨#[], #[], []⟩ with heap := (((World.holding Tryd.prog os ⟨#[], #[], []⟩).heap.modify 0 (layAt Rows.laid_logtide_ascii_kinds)).modify 3 (layAt2 Rows.laid_unicode_utf8_acceptRanges)).modify 2 (layAt Rows.laid_unicode_utf8_first) }


end Go.Proofs.YtfdbjgdafolbmaaDoor

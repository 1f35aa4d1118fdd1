/-
  AsciiSplits' walk at the arguments as they come in; the world of the witness.
-/
import Derived.Test.YtloilffkggkgdaaDoorAscS
import Derived.Test.YtloilffkggkgdaaDoorStay
namespace Go.Proofs.YtloilffkggkgdaaDoor
open Go.ChangeShapes Go.WideShapes Go.ChangeAt Go.RowKit
open Go.ChangeMaps (open_string shut_string)

def laidThree : List (String × DataW Unit) := [("unicode/utf8.acceptRanges", Rows.laid_unicode_utf8_acceptRanges), ("logtide/ascii.kinds", Rows.laid_logtide_ascii_kinds), ("unicode/utf8.first", Rows.laid_unicode_utf8_first)]
theorem k3_of_laid {W : World} (h : laidMetH Tryd.prog laidThree W) : Kinds W := by
  have h' : laidMet Tryd.prog laidThree W := h
  exact kinds_of_head (rest := [("unicode/utf8.first", Rows.laid_unicode_utf8_first)]) h'.tail

/-- A listed table of pairs as cells: for the witness. -/
def litCells2 : DataW Unit → Array Value
  | .agg l => (l.map fun | .agg m => (m.map fun | .lit (.int k n) => Value.int k n | _ => undef) | _ => []).flatten.toArray
  | _ => #[]
def layAt2 (d : DataW Unit) : Obj → Obj
  | .cells _ t frozen => .cells (litCells2 d) t frozen
  | o => o
noncomputable def laidWorld3 (os : Os) : World :=
  { World.holding Tryd.prog os ⟨#[], #[], []⟩ with heap := (((World.holding Tryd.prog os ⟨#[], #[], []⟩).heap.modify 0 (layAt Rows.laid_logtide_ascii_kinds)).modify 4 (layAt2 Rows.laid_unicode_utf8_acceptRanges)).modify 3 (layAt Rows.laid_unicode_utf8_first) }

theorem splits_law {H : Type} {enc : TypeId × Value → H} {W : World} {base : Nat} {args : Array Value} {ds : List (DataW H)} {p : List MemPlace}
    (hval : ∀ (j : Nat) t v, (#[9, 5] : Array TypeId)[j]? = some t → args[j]? = some v → Value.okWide Tryd.prog W .any base t v)
    (hA : DataW.TrodAll enc Tryd.prog W 0 (fun _ => true) true [9, 5] args.toList ds p) (hbound : Rows.uptoBulkAll ds ≤ 1048576) (hL : laidMetH Tryd.prog laidThree W) :
    Calls Tryd.prog 8 args W fun e w' => e = .returned (.bool true) ∧ Below W.heap.size W w' := by
  obtain ⟨v0, vs0, d0, ds0, p0, q0, hargs, rfl, rfl, h0, r0⟩ := trodAll_cons hA
  obtain ⟨v1, vs1, d1, ds1, p1, q1, rfl, rfl, rfl, h1, r1⟩ := trodAll_cons r0
  obtain ⟨rfl, rfl, rfl⟩ := trodAll_nil r1
  obtain rfl : args = #[v0, v1] := by cases args; simp_all
  obtain ⟨s, rfl, rfl, rfl, ws⟩ := open_string Tryd.underlying9 (hval 0 9 v0 rfl rfl) h0
  obtain ⟨x, rfl, rfl, rfl, wx⟩ := open_int Tryd.underlying5 (hval 1 5 v1 rfl rfl) h1
  obtain ⟨c, hc, rfl⟩ := u8_nat wx
  obtain ⟨l, rfl⟩ : ∃ l : List UInt8, s = ⟨l.toArray⟩ := ⟨s.data.toList, by simp⟩
  simp only [Rows.uptoBulkAll, Rows.uptoBulk] at hbound
  have e : (ByteArray.mk l.toArray).data.toList.length = l.length := by simp
  have e2 : (c : Int) = ((UInt8.ofNat c).toNat : Int) := by rw [Asc.ofNat_toNat8 hc]
  rw [e2]
  exact splits_core l _ W (k3_of_laid hL) (by omega)

end Go.Proofs.YtloilffkggkgdaaDoor

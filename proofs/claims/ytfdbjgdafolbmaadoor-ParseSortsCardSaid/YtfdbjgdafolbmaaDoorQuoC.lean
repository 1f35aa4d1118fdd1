/-
  ParseQuotes' walk at the arguments as they come in.
-/
import Derived.Test.YtfdbjgdafolbmaaDoorParL
import Derived.Test.YtfdbjgdafolbmaaDoorLaidPar
import Derived.Test.YtfdbjgdafolbmaaDoorStay
import Derived.SliceStrings
namespace Go.Proofs.YtfdbjgdafolbmaaDoor
open Go.ChangeShapes Go.WideShapes Go.ChangeAt Go.RowKit
open Go.ChangeMaps (open_string shut_string)

theorem cellsStr : Tryd.prog.cellsOf 9 = 1 := by kernel_rfl
theorem spot_none {w : World} {a : Addr} {v : Value} (h : w.cell? a = some v) : a = ⟨a.block, a.off, none⟩ ∧ a.block < w.heap.size := by
  refine ⟨?_, World.block_lt_of_cell? w _ h⟩
  unfold World.cell? at h
  obtain ⟨b, o, s⟩ := a
  cases s with
  | none => rfl
  | some x => revert h; split <;> simp

/-- A slice of strings that came in. -/
theorem open_strs {H : Type} {enc : TypeId × Value → H} {W : World} {base : Nat} {v : Value} {d : DataW H} {p : List MemPlace} (hv : Value.okWide Tryd.prog W .any base 23 v)
    (h : DataW.Trod enc Tryd.prog W 0 (fun _ => true) true 23 v d p) : ∃ fs, SSI W v fs ∧ fs.length ≤ maxLen := by
  obtain ⟨a0, len, cap, rfl⟩ := okWide_slice Tryd.underlying23 hv
  obtain ⟨fuel, hf⟩ := h
  rcases open_strings Tryd.underlying23 Tryd.underlying9 cellsStr hf with ⟨hcs, hx⟩ | ⟨a, len', cap', ss, hcs, _, hl, hm, hz, hx, hcell, hwz⟩
  · simp [Value.cells] at hcs
    obtain ⟨rfl, rfl, rfl⟩ := hcs
    exact ⟨[], ⟨none, 0, rfl, fun h => by simp at h⟩, by simp⟩
  · simp [Value.cells] at hcs
    obtain ⟨rfl, rfl, rfl⟩ := hcs
    simp only [if_true] at hz
    have hl2 : (ss.take len).length = len := by rw [List.length_take]; omega
    refine ⟨(ss.take len).map fun s => s.data.toList, ⟨some a, cap, by rw [List.length_map, hl2], fun h0 => ?_⟩, by rw [List.length_map, hl2]; omega⟩
    rw [List.length_map, hl2] at h0
    obtain ⟨e, hb⟩ := spot_none (hcell 0 (by omega))
    have e' : a = ⟨a.block, a.off, none⟩ := by
      have := congrArg Addr.spot e
      obtain ⟨b, o, s⟩ := a
      simp [Addr.add] at this
      simp [this]
    refine ⟨a.block, a.off, by rw [← e'], by simpa [Addr.add] using hb, fun i hi => ?_⟩
    rw [List.length_map, hl2] at hi
    have hc := hcell i (by omega)
    rw [e'] at hc
    have e2 : ss.getD i ByteArray.empty = ss[i] := by simp [List.getD, List.getElem?_eq_getElem (show i < ss.length by omega)]
    rw [e2] at hc
    rw [addp] at hc
    simpa using hc

theorem quotes_law {H : Type} {enc : TypeId × Value → H} {W : World} {base : Nat} {args : Array Value} {ds : List (DataW H)} {p : List MemPlace}
    (hval : ∀ (j : Nat) t v, (#[23, 5, 5] : Array TypeId)[j]? = some t → args[j]? = some v → Value.okWide Tryd.prog W .any base t v)
    (hA : DataW.TrodAll enc Tryd.prog W 0 (fun _ => true) true [23, 5, 5] args.toList ds p) {B : Prop} (_ : B) (hL : laidMetH Tryd.prog laidThree W) :
    Calls Tryd.prog 5 args W fun e w' => e = .returned (.bool true) ∧ Below W.heap.size W w' := by
  obtain ⟨v0, vs0, d0, ds0, p0, q0, hargs, rfl, rfl, h0, r0⟩ := trodAll_cons hA
  obtain ⟨v1, vs1, d1, ds1, p1, q1, rfl, rfl, rfl, h1, r1⟩ := trodAll_cons r0
  obtain ⟨v2, vs2, d2, ds2, p2, q2, rfl, rfl, rfl, h2, r2⟩ := trodAll_cons r1
  obtain ⟨rfl, rfl, rfl⟩ := trodAll_nil r2
  obtain rfl : args = #[v0, v1, v2] := by cases args; simp_all
  obtain ⟨fs, hfs, hfl⟩ := open_strs (hval 0 23 v0 rfl rfl) h0
  obtain ⟨x, rfl, rfl, rfl, wx⟩ := open_int Tryd.underlying5 (hval 1 5 v1 rfl rfl) h1
  obtain ⟨y, rfl, rfl, rfl, wy⟩ := open_int Tryd.underlying5 (hval 2 5 v2 rfl rfl) h2
  obtain ⟨c, hc, rfl⟩ := u8_nat wx
  obtain ⟨m, hm, rfl⟩ := u8_nat wy
  have e2 : (c : Int) = ((UInt8.ofNat c).toNat : Int) := by rw [Asc.ofNat_toNat8 hc]
  rw [e2]
  exact quotes_any v0 fs _ m W (k3_of_laid hL) hfs hm hfl

end Go.Proofs.YtfdbjgdafolbmaaDoor

/-
  ParseNests' walk at the arguments as they come in.
-/
import Derived.Test.YtfdbjgdafolbmaaDoorJsS
import Derived.Test.YtfdbjgdafolbmaaDoorQuoC
import Derived.Test.YtfdbjgdafolbmaaDoorOpenB
namespace Go.Proofs.YtfdbjgdafolbmaaDoor
open Go.ChangeShapes Go.WideShapes Go.ChangeAt Go.RowKit

theorem nests_law {H : Type} {enc : TypeId × Value → H} {W : World} {base : Nat} {args : Array Value} {ds : List (DataW H)} {p : List MemPlace}
    (hval : ∀ (j : Nat) t v, (#[22, 5] : Array TypeId)[j]? = some t → args[j]? = some v → Value.okWide Tryd.prog W .any base t v)
    (hA : DataW.TrodAll enc Tryd.prog W 0 (fun _ => true) true [22, 5] args.toList ds p) {B : Prop} (_ : B) (hL : laidMetH Tryd.prog laidThree W) :
    Calls Tryd.prog 6 args W fun e w' => e = .returned (.bool true) ∧ Below W.heap.size W w' := by
  obtain ⟨v0, vs0, d0, ds0, p0, q0, hargs, rfl, rfl, h0, r0⟩ := trodAll_cons hA
  obtain ⟨v1, vs1, d1, ds1, p1, q1, rfl, rfl, rfl, h1, r1⟩ := trodAll_cons r0
  obtain ⟨rfl, rfl, rfl⟩ := trodAll_nil r1
  obtain rfl : args = #[v0, v1] := by cases args; simp_all
  obtain ⟨bs, hbs⟩ := open_bytes (hval 0 22 v0 rfl rfl) h0
  obtain ⟨x, rfl, rfl, rfl, wx⟩ := open_int Tryd.underlying5 (hval 1 5 v1 rfl rfl) h1
  obtain ⟨c, hc, rfl⟩ := u8_nat wx
  exact nests_any v0 bs c W (k3_of_laid hL) hbs.bs hc

end Go.Proofs.YtfdbjgdafolbmaaDoor

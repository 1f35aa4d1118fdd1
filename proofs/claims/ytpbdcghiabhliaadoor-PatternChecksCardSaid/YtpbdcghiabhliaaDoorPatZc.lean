/-
  PatternChecks' walk at the arguments as they come in: nodes out of a reading.
-/
import Derived.Test.YtpbdcghiabhliaaDoorPatZb
import Derived.Test.YtpbdcghiabhliaaDoorLaidPat
import Derived.Test.YtpbdcghiabhliaaDoorOpenN
import Derived.Test.YtpbdcghiabhliaaDoorOpenB
namespace Go.Proofs.YtpbdcghiabhliaaDoor
open Go.ChangeShapes Go.WideShapes Go.ChangeAt Go.RowKit

set_option maxRecDepth 1000000 in
theorem checks_law {H : Type} {enc : TypeId × Value → H} {W : World} {base : Nat} {args : Array Value} {ds : List (DataW H)} {p : List MemPlace}
    (hval : ∀ (j : Nat) t v, (#[25, 26] : Array TypeId)[j]? = some t → args[j]? = some v → Value.okWide Tryd.prog W .any base t v)
    (hA : DataW.TrodAll enc Tryd.prog W 0 (fun _ => true) true [25, 26] args.toList ds p) {B : Prop} (_ : B) (hL : laidMetH Tryd.prog laidOne W) :
    Calls Tryd.prog 3 args W fun e w' => e = .returned (.bool true) ∧ Below W.heap.size W w' := by
  obtain ⟨v0, vs0, d0, ds0, p0, q0, hargs, rfl, rfl, h0, r0⟩ := trodAll_cons hA
  obtain ⟨v1, vs1, d1, ds1, p1, q1, rfl, rfl, rfl, h1, r1⟩ := trodAll_cons r0
  obtain ⟨rfl, rfl, rfl⟩ := trodAll_nil r1
  obtain rfl : args = #[v0, v1] := by cases args; simp_all
  obtain ⟨t, ht⟩ := open_node1 (okWide_struct Tryd.underlying25 (hval 0 25 v0 rfl rfl)) h0
  obtain ⟨bs, hbs⟩ := open_bytes (hval 1 26 v1 rfl rfl) h1
  exact law_any t v0 v1 bs W ht hbs.bs (k_of_laid hL)

end Go.Proofs.YtpbdcghiabhliaaDoor

/-
  ExtractValue's walk at the arguments as they come in.
-/
import Derived.Test.YtmcnhphmglmmeabDoorExtK
import Derived.Test.YtmcnhphmglmmeabDoorExtJ
import Derived.Test.YtmcnhphmglmmeabDoorLaidExt
import Derived.Test.YtmcnhphmglmmeabDoorStay
import Derived.Test.YtmcnhphmglmmeabDoorOpenB
namespace Go.Proofs.YtmcnhphmglmmeabDoor
open Go.ChangeShapes Go.WideShapes Go.ChangeAt Go.RowKit
open Go.ChangeMaps (open_string shut_string)

theorem str_len (s : ByteArray) (h : s.size ≤ maxLen) : s.data.toList.length ≤ 9223372036854775807 := by
  have h' : s.size ≤ 9223372036854775807 := h
  simpa using h'

theorem value_law {H : Type} {enc : TypeId × Value → H} {W : World} {base : Nat} {args : Array Value} {ds : List (DataW H)} {p : List MemPlace}
    (hval : ∀ (j : Nat) t v, (#[22, 9, 9] : Array TypeId)[j]? = some t → args[j]? = some v → Value.okWide Tryd.prog W .any base t v)
    (hA : DataW.TrodAll enc Tryd.prog W 0 (fun _ => true) true [22, 9, 9] args.toList ds p) {B : Prop} (_ : B) (hL : laidMetH Tryd.prog theLaid W) :
    Calls Tryd.prog 3 args W fun e w' => e = .returned (.bool true) ∧ Below W.heap.size W w' := by
  obtain ⟨v0, vs0, d0, ds0, p0, q0, hargs, rfl, rfl, h0, r0⟩ := trodAll_cons hA
  obtain ⟨v1, vs1, d1, ds1, p1, q1, rfl, rfl, rfl, h1, r1⟩ := trodAll_cons r0
  obtain ⟨v2, vs2, d2, ds2, p2, q2, rfl, rfl, rfl, h2, r2⟩ := trodAll_cons r1
  obtain ⟨rfl, rfl, rfl⟩ := trodAll_nil r2
  obtain rfl : args = #[v0, v1, v2] := by cases args; simp_all
  obtain ⟨bs, hbs⟩ := open_bytes (hval 0 22 v0 rfl rfl) h0
  obtain ⟨s, rfl, rfl, rfl, hs⟩ := open_string Tryd.underlying9 (hval 1 9 v1 rfl rfl) h1
  obtain ⟨u, rfl, rfl, rfl, hu⟩ := open_string Tryd.underlying9 (hval 2 9 v2 rfl rfl) h2
  exact extract_any (fun g w hc => item_any g w hc) v0 bs s.data.toList u.data.toList W (pow_of_laid hL) hbs.bs (str_len s hs) (str_len u hu)

end Go.Proofs.YtmcnhphmglmmeabDoor

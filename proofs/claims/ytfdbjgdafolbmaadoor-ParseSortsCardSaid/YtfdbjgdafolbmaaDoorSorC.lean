/-
  ParseSorts' walk at the arguments as they come in.
-/
import Derived.Test.YtfdbjgdafolbmaaDoorSoK
import Derived.Test.YtfdbjgdafolbmaaDoorQuoC
import Derived.Test.YtfdbjgdafolbmaaDoorOpenB
namespace Go.Proofs.YtfdbjgdafolbmaaDoor
open Go.ChangeShapes Go.WideShapes Go.ChangeAt Go.RowKit
open Go.ChangeMaps (open_string shut_string)

theorem sorts_law {H : Type} {enc : TypeId × Value → H} {W : World} {base : Nat} {args : Array Value} {ds : List (DataW H)} {p : List MemPlace}
    (hval : ∀ (j : Nat) t v, (#[27, 22, 9] : Array TypeId)[j]? = some t → args[j]? = some v → Value.okWide Tryd.prog W .any base t v)
    (hA : DataW.TrodAll enc Tryd.prog W 0 (fun _ => true) true [27, 22, 9] args.toList ds p) {B : Prop} (_ : B) (hL : laidMetH Tryd.prog laidThree W) :
    Calls Tryd.prog 4 args W fun e w' => e = .returned (.bool true) ∧ Below W.heap.size W w' := by
  obtain ⟨v0, vs0, d0, ds0, p0, q0, hargs, rfl, rfl, h0, r0⟩ := trodAll_cons hA
  obtain ⟨v1, vs1, d1, ds1, p1, q1, rfl, rfl, rfl, h1, r1⟩ := trodAll_cons r0
  obtain ⟨v2, vs2, d2, ds2, p2, q2, rfl, rfl, rfl, h2, r2⟩ := trodAll_cons r1
  obtain ⟨rfl, rfl, rfl⟩ := trodAll_nil r2
  obtain rfl : args = #[v0, v1, v2] := by cases args; simp_all
  obtain ⟨fs, hfs, hfl, hfn⟩ := open_fields (hval 0 27 v0 rfl rfl) h0
  obtain ⟨bs, hbs⟩ := open_bytes (hval 1 22 v1 rfl rfl) h1
  obtain ⟨s, rfl, rfl, rfl, hs⟩ := open_string Tryd.underlying9 (hval 2 9 v2 rfl rfl) h2
  exact sorts_any v0 v1 fs bs s.data.toList W (k3_of_laid hL) hfs hfl hfn hbs.bs

end Go.Proofs.YtfdbjgdafolbmaaDoor

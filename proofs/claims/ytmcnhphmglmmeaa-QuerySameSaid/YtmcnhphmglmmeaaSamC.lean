/-
  QuerySame's walk at the arguments as they come in.
-/
import Derived.Test.YtmcnhphmglmmeaaQryWc
import Derived.Test.YtmcnhphmglmmeaaQryX
import Derived.Test.YtmcnhphmglmmeaaStay
import Derived.Test.YtmcnhphmglmmeaaOpenB
namespace Go.Proofs.Ytmcnhphmglmmeaa
open Go.ChangeShapes Go.WideShapes Go.ChangeAt Go.RowKit

theorem same_core {H : Type} {enc : TypeId × Value → H} {W : World} {base : Nat} {args : Array Value} {ds : List (DataW H)} {p : List MemPlace}
    (hval : ∀ (j : Nat) t v, (#[29, 29, 30] : Array TypeId)[j]? = some t → args[j]? = some v → Value.okWide Try.prog W .any base t v)
    (hA : DataW.TrodAll enc Try.prog W 0 (fun _ => true) true [29, 29, 30] args.toList ds p) :
    Calls Try.prog 3 args W fun e w' => e = .returned (.bool true) ∧ Below W.heap.size W w' := by
  obtain ⟨v0, vs0, d0, ds0, p0, q0, hargs, rfl, rfl, h0, r0⟩ := trodAll_cons hA
  obtain ⟨v1, vs1, d1, ds1, p1, q1, rfl, rfl, rfl, h1, r1⟩ := trodAll_cons r0
  obtain ⟨v2, vs2, d2, ds2, p2, q2, rfl, rfl, rfl, h2, r2⟩ := trodAll_cons r1
  obtain ⟨rfl, rfl, rfl⟩ := trodAll_nil r2
  obtain rfl : args = #[v0, v1, v2] := by cases args; simp_all
  obtain ⟨qa, ha⟩ := open_query (okWide_struct Try.underlying29 (hval 0 29 v0 rfl rfl)) h0
  obtain ⟨qb, hb⟩ := open_query (okWide_struct Try.underlying29 (hval 1 29 v1 rfl rfl)) h1
  obtain ⟨bs, hbs⟩ := open_bytes (hval 2 30 v2 rfl rfl) h2
  exact law_any qa qb v0 v1 v2 bs W ha hb hbs.bs

end Go.Proofs.Ytmcnhphmglmmeaa

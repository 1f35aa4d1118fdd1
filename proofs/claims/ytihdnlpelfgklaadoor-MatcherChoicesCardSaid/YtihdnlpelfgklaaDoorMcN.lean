/-
 Joined: MtCs.
-/
import Derived.Test.YtihdnlpelfgklaaDoorMcM
namespace Go.Proofs.YtihdnlpelfgklaaDoor
open Go.ChangeShapes Go.WideShapes Go.ChangeAt Go.RowKit
namespace ChoicesRow
set_option maxRecDepth 1000000 in
theorem contract (H : Type) (enc : TypeId × Value → H) (W : World) (base : Nat) (args : Array Value) (ds gs : List (DataW H)) (before : List MemPlace)
  (hval : ∀ (j : Nat) t v, Tryd.f3.params[j]? = some t → args[j]? = some v → Value.okWide Tryd.prog W .any base t v)
  (hW : DataW.Whole enc Tryd.prog Tryd.f3.params.toList Rows.matcherChoicesSpec.vars false W args.toList ds gs before)
  (hbound : (DataW.weightsEach Tryd.prog (Tryd.f3.params.toList ++ (OpenSpec.ofChange Rows.matcherChoicesSpec).bare.plain.varTypes Tryd.prog) (ds ++ gs)).all (· ≤ reachBytes) = true)
  (hL : laidMetH Tryd.prog Rows.matcherChoicesRow.laid W) :
  Calls Tryd.prog 3 args W fun e W' => ∃ v, e = .returned v ∧ Rows.matcherChoicesSpec.post enc Tryd.prog Tryd.f3 false true false false W args v W' := by
 have hW' := hW
 obtain ⟨p, q, hA, hV, rfl, _, _⟩ := hW
 obtain ⟨rfl, rfl⟩ := trodVars_none hV
 rw [List.append_nil] at hbound
 rw [Tryd.params3] at hA hval
 refine (choices_law hval hA hbound hL).mono fun e W' ⟨he, hb⟩ => ?_
 subst he
 refine ⟨_, rfl, post_true hW' rfl ?_ rfl ?_ ?_ ?_ hb⟩
 ·rw [Tryd.params3]
  intro t ht
  simp only [List.mem_cons, List.not_mem_nil, or_false] at ht
  have hs : decide (22 < Tryd.prog.types.size) = true ∧ decide (9 < Tryd.prog.types.size) = true ∧ decide (5 < Tryd.prog.types.size) = true := ⟨by kernel_rfl, by kernel_rfl, by kernel_rfl⟩
  obtain ⟨s0, s1, s2⟩ := hs
  rcases ht with rfl | rfl | rfl
  ·exact of_decide_eq_true s0
  ·exact of_decide_eq_true s1
  ·exact of_decide_eq_true s2
 all_goals
  obtain ⟨v0, vs0, d0, ds0, p0, q0, hargs, rfl, rfl, h0, r0⟩ := trodAll_cons hA
  obtain ⟨v1, vs1, d1, ds1, p1, q1, _, rfl, rfl, h1, r1⟩ := trodAll_cons r0
  obtain ⟨v2, vs2, d2, ds2, p2, q2, _, rfl, rfl, h2, r2⟩ := trodAll_cons r1
  obtain ⟨_, rfl, rfl⟩ := trodAll_nil r2
  rfl
theorem laid_met (os : Os) : laidMet Tryd.prog Rows.matcherChoicesRow.laid ((laidWorld os).forCall (fun _ _ => 0) ⟨#[], #[.slice none 0 0, .string ⟨#[]⟩, .int .u8 0], []⟩).memory :=
 laidMet_of_run' 8 (by kernel_rfl) (by kernel_rfl)
theorem reads (os : Os) {H : Type} (enc : TypeId × Value → H) : ∃ places, DataW.whole enc Tryd.prog ((laidWorld os).forCall (fun _ _ => 0) ⟨#[], #[.slice none 0 0, .string ⟨#[]⟩, .int .u8 0], []⟩).memory Tryd.f3.params.toList Rows.matcherChoicesSpec.vars false (#[.slice none 0 0, .string ⟨#[]⟩, .int .u8 0] : Array Value).toList 8 = some ([.nil, .lit (.string []), .lit (.int .u8 0)], [], places) :=
 ⟨[], by kernel_rfl⟩
set_option maxRecDepth 100000 in
theorem lifted (os : Os) (started : os.Started) (H : Type) (enc : TypeId × Value → H) (F : Stop.Interp) :
  ReturnsInHanded {} Tryd.checked os 3 .any ((OpenSpec.ofChange Rows.matcherChoicesSpec).preRow enc Tryd.prog Tryd.f3 Rows.matcherChoicesRow.domain false Rows.matcherChoicesRow.laid) (((OpenSpec.ofChange Rows.matcherChoicesSpec).at F).post enc Tryd.prog Tryd.f3 false true false false) := by
 obtain ⟨places, hx⟩ := reads os enc
 refine returnsInHanded_of_row (C := Tryd.checked) (s := (OpenSpec.ofChange Rows.matcherChoicesSpec)) own started (by kernel_rfl) Tryd.func3
  (witness_row_at (enc := enc) (C := Tryd.checked) false (laidWorld os) #[.slice none 0 0, .string ⟨#[]⟩, .int .u8 0] rfl (by kernel_rfl) (by kernel_rfl) (by kernel_rfl)
   (OpenSpec.preRow_of_cond 8 hx (by kernel_rfl) (fun k hk => by cases hk) (by kernel_rfl) (laid_met os))) ?_
 intro W base args ds gs before hval hW _ _ hsz hL _ _
 exact contract H enc W base args ds gs before hval hW hsz hL
theorem said : Rows.MatcherChoicesSaid :=
 OpenClaim.holds_of_cond 3 Tryd.f3 rfl rfl rfl rfl rfl rfl rfl ⟨rfl, rfl, rfl, rfl, rfl⟩ rfl rfl rfl rfl rfl (by kernel_rfl) Tryd.func3 (by kernel_rfl)
  (of_decide_eq_true (by kernel_rfl)) (by unfold Func.isWrapper; first | (rw [if_pos (by decide +kernel)]; kernel_rfl) | (rw [if_neg (by decide +kernel)]; exact ⟨rfl, rfl⟩))
  (fun os started H enc _ F => by rw [OpenClaim.pre_eq_preRow]; exact lifted os started H enc F)
theorem plain (f : FuncId) (fn : Func) (hf : Tryd.pinned.checked.prog.funcNamed "logtide/logtidelaw03.MatcherChoices" = some f) (hfn : Tryd.pinned.checked.prog.funcs[f]? = some fn) :
  false = Tryd.pinned.checked.prog.looks [] ∧ ∀ (j : Nat) t, fn.params[j]? = some t → Tryd.pinned.checked.prog.wantsStandIn t = false := by
 obtain rfl : f = 3 := Option.some.inj ((show Tryd.prog.funcNamed "logtide/logtidelaw03.MatcherChoices" = some 3 by kernel_rfl).symm.trans hf) |>.symm
 obtain rfl : fn = Tryd.f3 := (Option.some.inj (Tryd.func3.symm.trans hfn)).symm
 refine ⟨by kernel_rfl, fun j t ht => ?_⟩
 rw [Tryd.params3] at ht
 have hm := Array.mem_of_getElem? ht
 simp only [List.mem_toArray, List.mem_cons, List.not_mem_nil, or_false] at hm
 rcases hm with rfl | rfl | rfl
 ·exact (show Tryd.prog.wantsStandIn 22 = false by kernel_rfl)
 ·exact (show Tryd.prog.wantsStandIn 9 = false by kernel_rfl)
 ·exact (show Tryd.prog.wantsStandIn 5 = false by kernel_rfl)
end ChoicesRow
theorem choices_card : Rows.MatcherChoicesCardSaid :=
 Claim7.holds_tied_plain_at .later [] _ _ _ _ ChoicesRow.said (fun _ h => by cases h) (by kernel_rfl) (fun _ h => by cases h) matcherChoices_row_tie rfl ⟨rfl, rfl⟩ (by kernel_rfl) rfl ChoicesRow.plain (by kernel_rfl)
#print axioms choices_card
end Go.Proofs.YtihdnlpelfgklaaDoor

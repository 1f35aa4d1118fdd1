/-
  A region that draws its order of evaluation: what an operation has left may be used up by another one.
-/
import Derived.Test.YtmcnhphmglmmeaaFacts
namespace Go.Proofs.Ytmcnhphmglmmeaa
open Go

section
variable {P : Program} {ops : Array Oper} {Q : Exit → Act → World → Prop}
/-! ### The same, where what an operation has left may be used up by another one -/
def andD (D : Nat → Prop) (i : Nat) : Nat → Prop := fun k => D k ∨ k = i
def closedD (ops : Array Oper) (D : Nat → Prop) : Prop := ∀ k o, ops[k]? = some o → D k → ∀ e ∈ o.after, Region.binds .any e = true → D e.on
theorem wpAny_factsD (hb : edgesBack ops = true) (Base : (Nat → Prop) → Act → World → Prop)
    (hstep : ∀ i o, ops[i]? = some o → ∀ (a : Act) (w : World) (D : Nat → Prop), Base D a w → (∀ k, D k → k < ops.size) → closedD ops D → ¬ D i → (∀ e ∈ o.after, Region.binds .any e = true → D e.on) → wpOp P ops Q i (fun a' w' => Base (andD D i) a' w') a w)
    (hend : ∀ a w D, Base D a w → (∀ k, k < ops.size → D k) → Q .normal a w) : ∀ (fuel : Nat) (listed : Array Bool) (a : Act) (w : World), unl listed ops.size ≤ fuel → listed.size = ops.size → closedD ops (fun k => listed.getD k false = true) → Base (fun k => listed.getD k false = true) a w → wpAny P .any ops Q fuel listed a w := by
  intro fuel
  induction fuel with
  | zero =>
    intro listed a w hf hs hc hB
    have hall := unl_zero listed ops.size (by omega)
    refine ⟨?_, hend a w _ hB fun k hk => by rw [getD_two (by omega) false true]; exact hall k hk⟩
    cases hr : Region.ready .any ops listed with
    | nil => rfl
    | cons x xs =>
      have hx := ready_mem (i := x) (by rw [hr]; simp)
      have := hall x hx.1
      rw [hx.2.1] at this
      cases this
  | succ fuel ih =>
    intro listed a w hf hs hc hB
    refine ⟨fun hr => hend a w _ hB fun k hk => ?_, fun i hi => ?_⟩
    · rw [getD_two (by omega) false true]
      exact all_listed hb hr hs k hk
    · obtain ⟨h1, h2, h3⟩ := ready_mem hi
      have ho := Array.getElem?_eq_getElem h1
      have hD : ∀ k, listed.getD k false = true → k < ops.size := fun k hk => by
        rcases Nat.lt_or_ge k listed.size with c | c
        · omega
        · simp [Array.getD_eq_getD_getElem?, Array.getElem?_eq_none c] at hk
      have hnew : (fun k => (listed.setIfInBounds i true).getD k false = true) = andD (fun k => listed.getD k false = true) i := by
        funext k
        apply propext
        rw [getD_set]
        unfold andD
        by_cases e : i = k
        · subst e
          simp [getD_lt h2]
        · rw [if_neg (fun c => e c.1)]
          constructor
          · exact fun h => .inl h
          · exact fun h => h.resolve_right (fun h => e h.symm)
      refine wpOp_mono (fun a' w' h => ?_) (hstep i _ ho a w (fun k => listed.getD k false = true) hB hD hc (fun hc => by rw [getD_two (getD_lt h2) false true, h2] at hc; cases hc) (h3 _ ho))
      refine ih _ a' w' (by have := unl_set listed i h2 ops.size h1; omega) (by simpa using hs) ?_ ?_
      · rw [hnew]
        intro k o hko hk e he hbd
        rcases hk with hk | rfl
        · exact .inl (hc k o hko hk e he hbd)
        · rw [ho] at hko
          obtain rfl := Option.some.inj hko
          exact .inl (h3 _ ho e he hbd)
      · rw [hnew]
        exact h
theorem wp_region_slotsD (hm : P.follows .mixedOrders = true) (hb : edgesBack ops = true) (hgd : (ops.all fun o => o.guard.isNone) = true) (N : Nat) (df : List Deferred) (fx : List (Nat × Value)) (ha : dstsApart ops (fx.map (·.1)) N = true)
    (Inv : (Nat → Prop) → World → Prop) (G : (Nat → Prop) → Nat → Value → World → Prop) (X : (Nat → Prop) → (Nat → Value) → World → Prop)
    (hstep : ∀ i o, ops[i]? = some o → ∀ (a : Act) (w : World) (D : Nat → Prop), SlotBase N df fx (Inv D) a w → closedD ops D → ¬ D i → X D (slotOf ops a) w → (∀ e ∈ o.after, Region.binds .any e = true → D e.on ∧ G D e.on (slotOf ops a e.on) w) → (∀ k, D k → G D k (slotOf ops a k) w) →
      ∀ K : Act → World → Prop, (∀ v w', Inv (andD D i) w' → (∀ k u, D k → k ≠ i → G D k u w → G (andD D i) k u w') → G (andD D i) i (match o.dst with | some _ => v | none => undef) w' → (∀ s : Nat → Value, s i = (match o.dst with | some _ => v | none => undef) → (∀ k, D k → s k = slotOf ops a k) → X (andD D i) s w') → K (a.put o.dst v) w') → Oper.wp P o a w K Q)
    (hend : ∀ a w D, (∀ k, k < ops.size → D k) → SlotBase N df fx (Inv D) a w → X D (slotOf ops a) w → (∀ k, k < ops.size → G D k (slotOf ops a k) w) → Q .normal a w) {id : Nat} {a : Act} {w : World} (h0 : SlotBase N df fx (Inv fun _ => False) a w.drew) (hX0 : ∀ s, X (fun _ => False) s w.drew) : (Code.region id ops true).wp P Q a w := by
  refine wp_region_any hm (wpAny_factsD hb (fun D a w => SlotBase N df fx (Inv D) a w ∧ X D (slotOf ops a) w ∧ ∀ k, D k → G D k (slotOf ops a k) w) (fun i o ho a w D hBF hlt hcl hnD hd => wpOp_step ho fun K' hK => ?_) (fun a w D hB hall => hend a w D hall hB.1 hB.2.1 (fun k hk => hB.2.2 k (hall k hk))) ops.size _ a _ (unl_le _ _) (by simp) ?_ ?_)
  · obtain ⟨hB, hX, hF⟩ := hBF
    have hi : i < ops.size := (Array.getElem?_eq_some_iff.1 ho).1
    have hg : o.guard = none := by
      have := (Array.all_eq_true_iff_forall_mem.1 hgd) o (Array.mem_of_getElem? ho)
      simpa using this
    rw [if_pos (by simp [Region.wanted, hg])]
    have hdi : dstOf ops i = o.dst := by simp [dstOf, ho]
    have hap := List.all_eq_true.1 ha i (List.mem_range.2 hi)
    rw [hdi] at hap
    refine hstep i o ho a w D hB hcl hnD hX (fun e he hbd => ⟨hd e he hbd, hF e.on (hd e he hbd)⟩) hF K' (fun v w' hI hR hGi hX' => ?_)
    have hsame : slotOf ops (a.put o.dst v) i = (match o.dst with | some _ => v | none => undef) := by
      unfold slotOf
      rw [hdi]
      cases hd' : o.dst with
      | none => rfl
      | some d =>
        rw [hd'] at hap
        simp only [Bool.and_eq_true, List.all_eq_true, decide_eq_true_eq] at hap
        exact put_same v (by rw [hB.size]; exact hap.1.1)
    have hother : ∀ k, D k → slotOf ops (a.put o.dst v) k = slotOf ops a k := fun k hk' => by
      have e : k ≠ i := fun e => hnD (e ▸ hk')
      have hkl := hlt k hk'
      unfold slotOf
      cases hk2 : dstOf ops k with
      | none => rfl
      | some s =>
        cases hd' : o.dst with
        | none => rfl
        | some d =>
          rw [hd'] at hap
          simp only [Bool.and_eq_true, List.all_eq_true, decide_eq_true_eq, Bool.or_eq_true, List.mem_range] at hap
          have h3 := (hap.2 k hkl).resolve_left e
          exact put_other v (fun h => h3 (by rw [hk2, h]))
    refine hK _ _ ⟨⟨(put_size _ _).trans hB.size, (put_defers _ _).trans hB.defers, fun s u hs => ?_, hI⟩, hX' _ hsame hother, fun k hk => ?_⟩
    · cases hd' : o.dst with
      | none => exact hB.fixed s u hs
      | some d =>
        rw [hd'] at hap
        simp only [Bool.and_eq_true, List.all_eq_true, decide_eq_true_eq] at hap
        rw [put_other v (hap.1.2 s (List.mem_map.2 ⟨(s, u), hs, rfl⟩))]
        exact hB.fixed s u hs
    · by_cases e : k = i
      · subst e
        rw [hsame]
        exact hGi
      · have hk' := hk.resolve_right e
        rw [hother k hk']
        exact hR k _ hk' e (hF k hk')
  · intro k o _ hk
    simp [Array.getD_eq_getD_getElem?, Array.getElem?_replicate] at hk
    split at hk <;> simp at hk
  · have he : (fun k => (Array.replicate ops.size false).getD k false = true) = fun _ => False := by
      funext k
      simp only [Array.getD_eq_getD_getElem?, Array.getElem?_replicate, eq_iff_iff, iff_false]
      split <;> simp
    rw [he]
    exact ⟨h0, hX0 _, fun k hk => hk.elim⟩
end

end Go.Proofs.Ytmcnhphmglmmeaa

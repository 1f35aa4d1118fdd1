/-
  A region that draws its order of evaluation, with guarded operations whose guards are all open.
-/
import Derived.Test.YtpbdcghiabhliaaDoorFacts
namespace Go.Proofs.YtpbdcghiabhliaaDoor
open Go

section
variable {P : Program} {ops : Array Oper} {Q : Exit → Act → World → Prop}
/-- Each guarded operation waits for its guard. -/
def guardsOk (ops : Array Oper) : Bool := ops.all fun (o : Oper) => match o.guard with
  | none => true
  | some (j, _) => (dstOf ops j).isSome && o.after.toList.any fun (e : Edge) => Region.binds .any e && decide (e.on = j)
theorem wp_region_slotsG (hm : P.follows .mixedOrders = true) (hb : edgesBack ops = true) (hgd : guardsOk ops = true) (N : Nat) (df : List Deferred) (fx : List (Nat × Value)) (ha : dstsApart ops (fx.map (·.1)) N = true)
    (Inv : World → Prop) (R : World → World → Prop) (G : Nat → Value → World → Prop) (hG : ∀ k v w w', R w w' → G k v w → G k v w')
    (hgv : ∀ (i : Nat) (o : Oper) (j : Nat) (want : Bool), ops[i]? = some o → o.guard = some (j, want) → ∀ v w, G j v w → v = .bool want)
    (hstep : ∀ i o, ops[i]? = some o → ∀ (a : Act) (w : World), SlotBase N df fx Inv a w → (∀ e ∈ o.after, Region.binds .any e = true → G e.on (slotOf ops a e.on) w) →
      ∀ K : Act → World → Prop, (∀ v w', R w w' → Inv w' → G i (match o.dst with | some _ => v | none => undef) w' → K (a.put o.dst v) w') → Oper.wp P o a w K Q)
    (hend : ∀ a w, SlotBase N df fx Inv a w → (∀ k, k < ops.size → G k (slotOf ops a k) w) → Q .normal a w) {id : Nat} {a : Act} {w : World} (h0 : SlotBase N df fx Inv a w.drew) : (Code.region id ops true).wp P Q a w := by
  refine wp_region_facts hm hb (SlotBase N df fx Inv) (fun k a w => G k (slotOf ops a k) w) (fun i o ho a w D hB hF hnD hd => wpOp_step ho fun K' hK => ?_) hend h0
  have hi : i < ops.size := (Array.getElem?_eq_some_iff.1 ho).1
  have hw : Region.wanted o (yielded ops a.tmps) = true := by
    have hg := (Array.all_eq_true_iff_forall_mem.1 hgd) o (Array.mem_of_getElem? ho)
    unfold Region.wanted
    cases hgo : o.guard with
    | none => rfl
    | some x =>
      obtain ⟨j, want⟩ := x
      rw [hgo] at hg
      simp only [Bool.and_eq_true] at hg
      obtain ⟨h1, h2⟩ := hg
      obtain ⟨e, he, hbe⟩ := List.any_eq_true.1 h2
      simp only [Bool.and_eq_true, decide_eq_true_eq] at hbe
      obtain ⟨h3, rfl⟩ := hbe
      have h4 := hF e.on (hd e (by simpa using he) h3)
      have h5 := hgv i o e.on want ho hgo _ _ h4.2
      obtain ⟨d, hd1⟩ := Option.isSome_iff_exists.1 h1
      have h6 := List.all_eq_true.1 ha e.on (List.mem_range.2 h4.1)
      rw [hd1] at h6
      simp only [Bool.and_eq_true, decide_eq_true_eq] at h6
      have hlt : d < a.tmps.size := by rw [hB.size]; exact h6.1.1
      unfold slotOf at h5
      rw [hd1] at h5
      simp only [Array.getD_eq_getD_getElem?, Array.getElem?_eq_getElem hlt, Option.getD_some] at h5
      unfold dstOf at hd1
      show (yielded ops a.tmps e.on == some want) = true
      unfold yielded
      rw [hd1]
      simp only [Option.bind_some, Array.getElem?_eq_getElem hlt, h5, beq_self_eq_true]
  rw [if_pos hw]
  have hdi : dstOf ops i = o.dst := by simp [dstOf, ho]
  have hap := List.all_eq_true.1 ha i (List.mem_range.2 hi)
  rw [hdi] at hap
  refine hstep i o ho a w hB (fun e he hbd => (hF e.on (hd e he hbd)).2) K' (fun v w' hR hI hGi => hK _ _ ⟨⟨(put_size _ _).trans hB.size, (put_defers _ _).trans hB.defers, fun s u hs => ?_, hI⟩, fun k hk => ?_⟩)
  · cases hd' : o.dst with
    | none => exact hB.fixed s u hs
    | some d =>
      rw [hd'] at hap
      simp only [Bool.and_eq_true, List.all_eq_true, decide_eq_true_eq] at hap
      rw [put_other v (hap.1.2 s (List.mem_map.2 ⟨(s, u), hs, rfl⟩))]
      exact hB.fixed s u hs
  · by_cases e : k = i
    · subst e
      have : slotOf ops (a.put o.dst v) k = (match o.dst with | some _ => v | none => undef) := by
        unfold slotOf
        rw [hdi]
        cases hd' : o.dst with
        | none => rfl
        | some d =>
          rw [hd'] at hap
          simp only [Bool.and_eq_true, List.all_eq_true, decide_eq_true_eq] at hap
          exact put_same v (by rw [hB.size]; exact hap.1.1)
      rw [this]
      exact hGi
    · have hk' := hk.resolve_right e
      have hold := (hF k hk').2
      have hkl := (hF k hk').1
      have : slotOf ops (a.put o.dst v) k = slotOf ops a k := by
        unfold slotOf
        cases hk2 : dstOf ops k with
        | none => rfl
        | some s =>
          cases hd' : o.dst with
          | none => rfl
          | some d =>
            rw [hd'] at hap
            simp only [Bool.and_eq_true, List.all_eq_true, decide_eq_true_eq, Bool.or_eq_true, List.mem_range] at hap
            have h3 := (hap.2 k hkl).resolve_left e
            exact put_other v (fun h => h3 (by rw [hk2, h]))
      rw [this]
      exact hG k _ _ _ hR hold
end

end Go.Proofs.YtpbdcghiabhliaaDoor

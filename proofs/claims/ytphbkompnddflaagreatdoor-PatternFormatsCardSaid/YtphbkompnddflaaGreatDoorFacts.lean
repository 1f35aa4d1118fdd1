/-
  A region that draws its order of evaluation, by what each of its operations leaves: each operation is walked ONCE, whatever the order.
-/
import Derived.Orders
import Derived.RegionTactic
namespace Go.Proofs.YtphbkompnddflaaGreatDoor
open Go

/-- How many of the first n operations are not listed yet. -/
def unl (l : Array Bool) : Nat → Nat
  | 0 => 0
  | n + 1 => unl l n + if l.getD n true then 0 else 1
theorem unl_le (l : Array Bool) : ∀ n, unl l n ≤ n
  | 0 => Nat.le_refl _
  | n + 1 => by
    have := unl_le l n
    unfold unl
    split <;> omega
theorem getD_set (l : Array Bool) (i k : Nat) (d : Bool) : (l.setIfInBounds i true).getD k d = if i = k ∧ k < l.size then true else l.getD k d := by
  simp only [Array.getD_eq_getD_getElem?, Array.getElem?_setIfInBounds]
  by_cases h : i = k
  · subst h
    by_cases h2 : i < l.size <;> simp [h2]
  · simp [h]
theorem getD_lt {l : Array Bool} {i : Nat} (h : l.getD i true = false) : i < l.size := by
  rcases Nat.lt_or_ge i l.size with c | c
  · exact c
  · simp [Array.getD_eq_getD_getElem?, Array.getElem?_eq_none c] at h
theorem getD_two {l : Array Bool} {i : Nat} (h : i < l.size) (d d' : Bool) : l.getD i d = l.getD i d' := by
  simp [Array.getD_eq_getD_getElem?, Array.getElem?_eq_getElem h]
theorem unl_past (l : Array Bool) (i : Nat) : ∀ n, n ≤ i → unl (l.setIfInBounds i true) n = unl l n
  | 0, _ => rfl
  | n + 1, h => by
    have e : (l.setIfInBounds i true).getD n true = l.getD n true := by rw [getD_set, if_neg (by omega)]
    rw [unl, unl, unl_past l i n (by omega), e]
theorem unl_set (l : Array Bool) (i : Nat) (hi : l.getD i true = false) : ∀ n, i < n → unl (l.setIfInBounds i true) n + 1 = unl l n
  | 0, h => by omega
  | n + 1, h => by
    rw [unl, unl]
    by_cases e : i = n
    · subst e
      have e2 : (l.setIfInBounds i true).getD i true = true := by rw [getD_set, if_pos ⟨rfl, getD_lt hi⟩]
      rw [unl_past l i i (Nat.le_refl _), e2, hi]
      simp
    · have e2 : (l.setIfInBounds i true).getD n true = l.getD n true := by rw [getD_set, if_neg (fun c => e c.1)]
      have := unl_set l i hi n (by omega)
      rw [e2]
      omega
theorem unl_zero (l : Array Bool) : ∀ n, unl l n = 0 → ∀ i, i < n → l.getD i true = true
  | 0, _, i, h => by omega
  | n + 1, h0, i, h => by
    rw [unl] at h0
    by_cases e : i = n
    · subst e
      cases hl : l.getD i true with
      | true => rfl
      | false => rw [hl] at h0; simp at h0
    · exact unl_zero l n (by omega) i (by omega)

section
variable {P : Program} {ops : Array Oper} {Q : Exit → Act → World → Prop}
theorem ready_mem {md : Region.Mode} {listed : Array Bool} {i : Nat} (h : i ∈ Region.ready md ops listed) :
    i < ops.size ∧ listed.getD i true = false ∧ ∀ o, ops[i]? = some o → ∀ e ∈ o.after, Region.binds md e = true → listed.getD e.on false = true := by
  unfold Region.ready at h
  rw [List.mem_filter, List.mem_range] at h
  obtain ⟨h1, h2⟩ := h
  rw [Bool.and_eq_true, Bool.not_eq_true'] at h2
  refine ⟨h1, h2.1, fun o ho e he hb => ?_⟩
  have h3 := h2.2
  rw [ho] at h3
  simp only [Option.map_some, Option.getD_some, Array.all_eq_true_iff_forall_mem] at h3
  have := h3 e he
  rw [hb] at this
  simpa using this
theorem ready_of {md : Region.Mode} {listed : Array Bool} {i : Nat} {o : Oper} (ho : ops[i]? = some o) (h2 : listed.getD i true = false) (h3 : ∀ e ∈ o.after, Region.binds md e = true → listed.getD e.on false = true) : i ∈ Region.ready md ops listed := by
  unfold Region.ready
  rw [List.mem_filter, List.mem_range]
  refine ⟨(Array.getElem?_eq_some_iff.1 ho).1, ?_⟩
  rw [Bool.and_eq_true, Bool.not_eq_true']
  refine ⟨h2, ?_⟩
  rw [ho]
  simp only [Option.map_some, Option.getD_some, Array.all_eq_true_iff_forall_mem]
  intro e he
  cases hb : Region.binds md e with
  | false => rfl
  | true => simpa using h3 e he hb

/-- Every edge leads back. -/
def edgesBack (ops : Array Oper) : Bool := (List.range ops.size).all fun i => ((ops[i]?).map (·.after.all fun e => decide (e.on < i))).getD true
theorem edges_back (h : edgesBack ops = true) {i : Nat} {o : Oper} (ho : ops[i]? = some o) (e : Edge) (he : e ∈ o.after) : e.on < i := by
  unfold edgesBack at h
  have := List.all_eq_true.1 h i (List.mem_range.2 (Array.getElem?_eq_some_iff.1 ho).1)
  rw [ho] at this
  simp only [Option.map_some, Option.getD_some, Array.all_eq_true_iff_forall_mem] at this
  simpa using this e he
theorem all_listed (h : edgesBack ops = true) {listed : Array Bool} (hr : Region.ready .any ops listed = []) (hs : listed.size = ops.size) : ∀ i, i < ops.size → listed.getD i true = true := by
  intro i
  induction i using Nat.strongRecOn with
  | ind i ih =>
    intro hi
    cases hl : listed.getD i true with
    | true => rfl
    | false =>
      have := ready_of (md := .any) (listed := listed) (Array.getElem?_eq_getElem hi) hl (fun e he _ => by
        have hb := edges_back h (Array.getElem?_eq_getElem hi) e he
        rw [getD_two (by omega) false true]
        exact ih e.on hb (by omega))
      rw [hr] at this
      cases this

/-- THE LAW, behind some operations. D: what has been carried out. -/
theorem wpAny_facts (hb : edgesBack ops = true) (Base : Act → World → Prop) (F : Nat → Act → World → Prop)
    (hstep : ∀ i o, ops[i]? = some o → ∀ (a : Act) (w : World) (D : Nat → Prop), Base a w → (∀ k, D k → k < ops.size ∧ F k a w) → ¬ D i → (∀ e ∈ o.after, Region.binds .any e = true → D e.on) → wpOp P ops Q i (fun a' w' => Base a' w' ∧ ∀ k, D k ∨ k = i → F k a' w') a w)
    (hend : ∀ a w, Base a w → (∀ k, k < ops.size → F k a w) → Q .normal a w) : ∀ (fuel : Nat) (listed : Array Bool) (a : Act) (w : World), unl listed ops.size ≤ fuel → listed.size = ops.size → Base a w → (∀ k, listed.getD k false = true → F k a w) → wpAny P .any ops Q fuel listed a w := by
  intro fuel
  induction fuel with
  | zero =>
    intro listed a w hf hs hB hF
    have hall := unl_zero listed ops.size (by omega)
    refine ⟨?_, hend a w hB fun k hk => hF k (by rw [getD_two (by omega) false true]; exact hall k hk)⟩
    cases hr : Region.ready .any ops listed with
    | nil => rfl
    | cons x xs =>
      have hx := ready_mem (i := x) (by rw [hr]; simp)
      have := hall x hx.1
      rw [hx.2.1] at this
      cases this
  | succ fuel ih =>
    intro listed a w hf hs hB hF
    refine ⟨fun hr => hend a w hB fun k hk => hF k ?_, fun i hi => ?_⟩
    · rw [getD_two (by omega) false true]
      exact all_listed hb hr hs k hk
    · obtain ⟨h1, h2, h3⟩ := ready_mem hi
      have ho := Array.getElem?_eq_getElem h1
      have hD : ∀ k, listed.getD k false = true → k < ops.size ∧ F k a w := fun k hk => ⟨by
        rcases Nat.lt_or_ge k listed.size with c | c
        · omega
        · simp [Array.getD_eq_getD_getElem?, Array.getElem?_eq_none c] at hk, hF k hk⟩
      refine wpOp_mono (fun a' w' h => ?_) (hstep i _ ho a w (fun k => listed.getD k false = true) hB hD (fun hc => by rw [getD_two (getD_lt h2) false true, h2] at hc; cases hc) (h3 _ ho))
      refine ih _ a' w' (by have := unl_set listed i h2 ops.size h1; omega) (by simpa using hs) h.1 (fun k hk => h.2 k ?_)
      rw [getD_set] at hk
      by_cases e : i = k
      · exact .inr e.symm
      · rw [if_neg (fun c => e c.1)] at hk
        exact .inl hk
theorem wp_region_facts (hm : P.follows .mixedOrders = true) (hb : edgesBack ops = true) (Base : Act → World → Prop) (F : Nat → Act → World → Prop)
    (hstep : ∀ i o, ops[i]? = some o → ∀ (a : Act) (w : World) (D : Nat → Prop), Base a w → (∀ k, D k → k < ops.size ∧ F k a w) → ¬ D i → (∀ e ∈ o.after, Region.binds .any e = true → D e.on) → wpOp P ops Q i (fun a' w' => Base a' w' ∧ ∀ k, D k ∨ k = i → F k a' w') a w)
    (hend : ∀ a w, Base a w → (∀ k, k < ops.size → F k a w) → Q .normal a w) {id : Nat} {a : Act} {w : World} (h0 : Base a w.drew) : (Code.region id ops true).wp P Q a w :=
  wp_region_any hm (wpAny_facts hb Base F hstep hend ops.size _ a _ (unl_le _ _) (by simp) h0 (fun k hk => by
    simp [Array.getD_eq_getD_getElem?, Array.getElem?_replicate] at hk
    split at hk <;> simp at hk))

/-! ### The same, slot by slot -/
def dstOf (ops : Array Oper) (i : Nat) : Option Nat := (ops[i]?).bind (·.dst)
/-- What the i-th operation has left. -/
def slotOf (ops : Array Oper) (a : Act) (i : Nat) : Value :=
  match dstOf ops i with
  | some d => a.tmps.getD d undef
  | none => undef
def dstsApart (ops : Array Oper) (fx : List Nat) (N : Nat) : Bool :=
  (List.range ops.size).all fun i => match dstOf ops i with
    | some d => decide (d < N) && fx.all (fun s => decide (s ≠ d)) && (List.range ops.size).all (fun k => decide (k = i) || decide (dstOf ops k ≠ some d))
    | none => true
theorem put_same {a : Act} {d : Nat} (v : Value) (h : d < a.tmps.size) : (a.put (some d) v).tmps.getD d undef = v := by
  simp [Act.put, h]
theorem put_other {a : Act} {d s : Nat} (v : Value) (h : s ≠ d) : (a.put (some d) v).tmps.getD s undef = a.tmps.getD s undef := by
  simp only [Act.put, Array.getD_eq_getD_getElem?, Array.getElem?_setIfInBounds]
  rw [if_neg (fun e => h e.symm)]
theorem put_size {a : Act} (d : Option Nat) (v : Value) : (a.put d v).tmps.size = a.tmps.size := by
  cases d <;> simp [Act.put]
theorem put_defers {a : Act} (d : Option Nat) (v : Value) : (a.put d v).defers = a.defers := by
  cases d <;> simp [Act.put]

structure SlotBase (N : Nat) (df : List Deferred) (fx : List (Nat × Value)) (Inv : World → Prop) (a : Act) (w : World) : Prop where
  size : a.tmps.size = N
  defers : a.defers = df
  fixed : ∀ s v, (s, v) ∈ fx → a.tmps.getD s undef = v
  inv : Inv w

theorem wp_region_slots (hm : P.follows .mixedOrders = true) (hb : edgesBack ops = true) (hgd : (ops.all fun o => o.guard.isNone) = true) (N : Nat) (df : List Deferred) (fx : List (Nat × Value)) (ha : dstsApart ops (fx.map (·.1)) N = true)
    (Inv : World → Prop) (R : World → World → Prop) (G : Nat → Value → World → Prop) (hG : ∀ k v w w', R w w' → G k v w → G k v w')
    (hstep : ∀ i o, ops[i]? = some o → ∀ (a : Act) (w : World), SlotBase N df fx Inv a w → (∀ e ∈ o.after, Region.binds .any e = true → G e.on (slotOf ops a e.on) w) →
      ∀ K : Act → World → Prop, (∀ v w', R w w' → Inv w' → G i (match o.dst with | some _ => v | none => undef) w' → K (a.put o.dst v) w') → Oper.wp P o a w K Q)
    (hend : ∀ a w, SlotBase N df fx Inv a w → (∀ k, k < ops.size → G k (slotOf ops a k) w) → Q .normal a w) {id : Nat} {a : Act} {w : World} (h0 : SlotBase N df fx Inv a w.drew) : (Code.region id ops true).wp P Q a w := by
  refine wp_region_facts hm hb (SlotBase N df fx Inv) (fun k a w => G k (slotOf ops a k) w) (fun i o ho a w D hB hF hnD hd => wpOp_step ho fun K' hK => ?_) hend h0
  have hi : i < ops.size := (Array.getElem?_eq_some_iff.1 ho).1
  have hg : o.guard = none := by
    have := (Array.all_eq_true_iff_forall_mem.1 hgd) o (Array.mem_of_getElem? ho)
    simpa using this
  rw [if_pos (by simp [Region.wanted, hg])]
  have hdi : dstOf ops i = o.dst := by simp [dstOf, ho]
  have hap := List.all_eq_true.1 ha i (List.mem_range.2 hi)
  rw [hdi] at hap
  refine hstep i o ho a w hB (fun e he hbd => (hF e.on (hd e he hbd)).2) K' (fun v w' hR hI hGi => hK _ _ ⟨⟨(put_size _ _).trans hB.size, (put_defers _ _).trans hB.defers, fun s u hs => ?_, hI⟩, fun k hk => ?_⟩)
  · cases hd' : o.dst with
    | none => exact hB.fixed s u hs
    | some d =>
      rw [hd'] at hap
      simp only [Bool.and_eq_true, List.all_eq_true, decide_eq_true_eq] at hap
      rw [put_other v (hap.1.2 s (List.mem_map.2 ⟨(s, u), hs, rfl⟩))]
      exact hB.fixed s u hs
  · by_cases e : k = i
    · subst e
      have : slotOf ops (a.put o.dst v) k = (match o.dst with | some _ => v | none => undef) := by
        unfold slotOf
        rw [hdi]
        cases hd' : o.dst with
        | none => rfl
        | some d =>
          rw [hd'] at hap
          simp only [Bool.and_eq_true, List.all_eq_true, decide_eq_true_eq] at hap
          exact put_same v (by rw [hB.size]; exact hap.1.1)
      rw [this]
      exact hGi
    · have hk' := hk.resolve_right e
      have hold := (hF k hk').2
      have hkl := (hF k hk').1
      have : slotOf ops (a.put o.dst v) k = slotOf ops a k := by
        unfold slotOf
        cases hk2 : dstOf ops k with
        | none => rfl
        | some s =>
          cases hd' : o.dst with
          | none => rfl
          | some d =>
            rw [hd'] at hap
            simp only [Bool.and_eq_true, List.all_eq_true, decide_eq_true_eq, Bool.or_eq_true, List.mem_range] at hap
            have h3 := (hap.2 k hkl).resolve_left e
            exact put_other v (fun h => h3 (by rw [hk2, h]))
      rw [this]
      exact hG k _ _ _ hR hold
end

end Go.Proofs.YtphbkompnddflaaGreatDoor

/-
 Joined: FactsD, FactsU, FactsBG, ShelfT, LbR, LbS, LbT, LbU, LbV, LbW, ReT, ReV, ReO.
-/
import Derived.Test.YtgcpinnnfoanjaaGreatDoorRdD
import Derived.Test.YtgcpinnnfoanjaaGreatDoorRdN
import Derived.Shelf.Strings.Trim
import Derived.Test.YtgcpinnnfoanjaaGreatDoorProg
import Derived.Test.YtgcpinnnfoanjaaGreatDoorRdB
import Derived.Test.YtgcpinnnfoanjaaGreatDoorRdU
import Derived.Shelf.Strings.SlTrimAscii
import Derived.Deep.RegionHeld3
import Derived.Test.YtgcpinnnfoanjaaGreatDoorRdAb
import Derived.Lib.SplitLaws
import Derived.BigQuiet
import Derived.OwnWalk
namespace Go.Proofs.YtgcpinnnfoanjaaGreatDoor
open Go
section
variable {P : Program} {ops : Array Oper} {Q : Exit → Act → World → Prop}
def andD (D : Nat → Prop) (i : Nat) : Nat → Prop := fun k => D k ∨ k = i
def closedD (ops : Array Oper) (D : Nat → Prop) : Prop := ∀ k o, ops[k]? = some o → D k → ∀ e ∈ o.after, Region.binds .any e = true → D e.on
theorem wpAny_factsD (hb : edgesBack ops = true) (Base : (Nat → Prop) → Act → World → Prop)
  (hstep : ∀ i o, ops[i]? = some o → ∀ (a : Act) (w : World) (D : Nat → Prop), Base D a w → (∀ k, D k → k < ops.size) → closedD ops D → ¬ D i → (∀ e ∈ o.after, Region.binds .any e = true → D e.on) → wpOp P ops Q i (fun a' w' => Base (andD D i) a' w') a w)
  (hend : ∀ a w D, Base D a w → (∀ k, k < ops.size → D k) → Q .normal a w) : ∀ (fuel : Nat) (listed : Array Bool) (a : Act) (w : World), unl listed ops.size ≤ fuel → listed.size = ops.size → closedD ops (fun k => listed.getD k false = true) → Base (fun k => listed.getD k false = true) a w → wpAny P .any ops Q fuel listed a w := by
 intro fuel
 induction fuel with
 | zero =>
  intro listed a w hf hs hc hB
  have hall := unl_zero listed ops.size (by omega)
  refine ⟨?_, hend a w _ hB fun k hk => by rw [getD_two (by omega) false true]; exact hall k hk⟩
  cases hr : Region.ready .any ops listed with
  | nil => rfl
  | cons x xs =>
   have hx := ready_mem (i := x) (by rw [hr]; simp)
   have := hall x hx.1
   rw [hx.2.1] at this
   cases this
 | succ fuel ih =>
  intro listed a w hf hs hc hB
  refine ⟨fun hr => hend a w _ hB fun k hk => ?_, fun i hi => ?_⟩
  ·rw [getD_two (by omega) false true]
   exact all_listed hb hr hs k hk
  ·obtain ⟨h1, h2, h3⟩ := ready_mem hi
   have ho := Array.getElem?_eq_getElem h1
   have hD : ∀ k, listed.getD k false = true → k < ops.size := fun k hk => by
    rcases Nat.lt_or_ge k listed.size with c | c
    ·omega
    ·simp [Array.getD_eq_getD_getElem?, Array.getElem?_eq_none c] at hk
   have hnew : (fun k => (listed.setIfInBounds i true).getD k false = true) = andD (fun k => listed.getD k false = true) i := by
    funext k
    apply propext
    rw [getD_set]
    unfold andD
    by_cases e : i = k
    ·subst e
     simp [getD_lt h2]
    ·rw [if_neg (fun c => e c.1)]
     constructor
     ·exact fun h => .inl h
     ·exact fun h => h.resolve_right (fun h => e h.symm)
   refine wpOp_mono (fun a' w' h => ?_) (hstep i _ ho a w (fun k => listed.getD k false = true) hB hD hc (fun hc => by rw [getD_two (getD_lt h2) false true, h2] at hc; cases hc) (h3 _ ho))
   refine ih _ a' w' (by have := unl_set listed i h2 ops.size h1; omega) (by simpa using hs) ?_ ?_
   ·rw [hnew]
    intro k o hko hk e he hbd
    rcases hk with hk | rfl
    ·exact .inl (hc k o hko hk e he hbd)
    ·rw [ho] at hko
     obtain rfl := Option.some.inj hko
     exact .inl (h3 _ ho e he hbd)
   ·rw [hnew]
    exact h
end
end Go.Proofs.YtgcpinnnfoanjaaGreatDoor
namespace Go.Proofs.YtgcpinnnfoanjaaGreatDoor
open Go
section
variable {P : Program} {ops : Array Oper} {Q : Exit → Act → World → Prop}
theorem wp_region_slotsU (hm : P.follows .mixedOrders = true) (hb : edgesBack ops = true) (hgd : (ops.all fun o => o.guard.isNone) = true) (N : Nat) (df : List Deferred) (fx : List (Nat × Value)) (ha : dstsApart ops (fx.map (·.1)) N = true)
  (u m : Nat) (vu : Value) (hum : dstOf ops m = some u) (hml : m < ops.size)
  (Inv : World → Prop) (R : World → World → Prop) (G : Nat → Value → World → Prop) (hG : ∀ k v w w', R w w' → G k v w → G k v w')
  (hstep : ∀ i o, ops[i]? = some o → ∀ (a : Act) (w : World) (D : Nat → Prop), SlotBase N df fx Inv a w → closedD ops D → ¬ D i → (¬ D m → a.tmps.getD u undef = vu) → (∀ e ∈ o.after, Region.binds .any e = true → G e.on (slotOf ops a e.on) w) →
   ∀ K : Act → World → Prop, (∀ v w', R w w' → Inv w' → G i (match o.dst with | some _ => v | none => undef) w' → K (a.put o.dst v) w') → Oper.wp P o a w K Q)
  (hend : ∀ a w, SlotBase N df fx Inv a w → (∀ k, k < ops.size → G k (slotOf ops a k) w) → Q .normal a w) {id : Nat} {a : Act} {w : World} (h0 : SlotBase N df fx Inv a w.drew) (hu0 : a.tmps.getD u undef = vu) : (Code.region id ops true).wp P Q a w := by
 refine wp_region_any hm (wpAny_factsD hb (fun D a w => SlotBase N df fx Inv a w ∧ (¬ D m → a.tmps.getD u undef = vu) ∧ ∀ k, D k → k < ops.size ∧ G k (slotOf ops a k) w) (fun i o ho a w D hBF hlt hcl hnD hd => wpOp_step ho fun K' hK => ?_) (fun a w D hB hall => hend a w hB.1 (fun k hk => (hB.2.2 k (hall k hk)).2)) ops.size _ a _ (unl_le _ _) (by simp) ?_ ?_)
 ·obtain ⟨hB, hU, hF⟩ := hBF
  have hi : i < ops.size := (Array.getElem?_eq_some_iff.1 ho).1
  have hg : o.guard = none := by
   have := (Array.all_eq_true_iff_forall_mem.1 hgd) o (Array.mem_of_getElem? ho)
   simpa using this
  rw [if_pos (by simp [Region.wanted, hg])]
  have hdi : dstOf ops i = o.dst := by simp [dstOf, ho]
  have hap := List.all_eq_true.1 ha i (List.mem_range.2 hi)
  rw [hdi] at hap
  refine hstep i o ho a w D hB hcl hnD hU (fun e he hbd => (hF e.on (hd e he hbd)).2) K' (fun v w' hR hI hGi => hK _ _ ⟨⟨(put_size _ _).trans hB.size, (put_defers _ _).trans hB.defers, fun s u hs => ?_, hI⟩, fun hnm => ?_, fun k hk => ?_⟩)
  ·cases hd' : o.dst with
   | none => exact hB.fixed s u hs
   | some d =>
    rw [hd'] at hap
    simp only [Bool.and_eq_true, List.all_eq_true, decide_eq_true_eq] at hap
    rw [put_other v (hap.1.2 s (List.mem_map.2 ⟨(s, u), hs, rfl⟩))]
    exact hB.fixed s u hs
  ·have hmi : m ≠ i := fun e => hnm (.inr e)
   have hnDm : ¬ D m := fun h => hnm (.inl h)
   cases hd' : o.dst with
   | none => exact hU hnDm
   | some d =>
    rw [hd'] at hap
    simp only [Bool.and_eq_true, List.all_eq_true, decide_eq_true_eq, Bool.or_eq_true, List.mem_range] at hap
    have h3 := (hap.2 m hml).resolve_left hmi
    rw [hum] at h3
    rw [put_other v (fun h => h3 (by rw [h]))]
    exact hU hnDm
  ·by_cases e : k = i
   ·subst e
    refine ⟨hi, ?_⟩
    have : slotOf ops (a.put o.dst v) k = (match o.dst with | some _ => v | none => undef) := by
     unfold slotOf
     rw [hdi]
     cases hd' : o.dst with
     | none => rfl
     | some d =>
      rw [hd'] at hap
      simp only [Bool.and_eq_true, List.all_eq_true, decide_eq_true_eq] at hap
      exact put_same v (by rw [hB.size]; exact hap.1.1)
    rw [this]
    exact hGi
   ·have hk' := hk.resolve_right e
    obtain ⟨hkl, hold⟩ := hF k hk'
    refine ⟨hkl, ?_⟩
    have : slotOf ops (a.put o.dst v) k = slotOf ops a k := by
     unfold slotOf
     cases hk2 : dstOf ops k with
     | none => rfl
     | some s =>
      cases hd' : o.dst with
      | none => rfl
      | some d =>
       rw [hd'] at hap
       simp only [Bool.and_eq_true, List.all_eq_true, decide_eq_true_eq, Bool.or_eq_true, List.mem_range] at hap
       have h3 := (hap.2 k hkl).resolve_left e
       exact put_other v (fun h => h3 (by rw [hk2, h]))
    rw [this]
    exact hG k _ _ _ hR hold
 ·intro k o _ hk
  simp [Array.getD_eq_getD_getElem?, Array.getElem?_replicate] at hk
  split at hk <;> simp at hk
 ·refine ⟨h0, fun _ => hu0, fun k hk => ?_⟩
  simp [Array.getD_eq_getD_getElem?, Array.getElem?_replicate] at hk
  split at hk <;> simp at hk
theorem wp_region_slotsK (hm : P.follows .mixedOrders = true) (hb : edgesBack ops = true) (hgd : (ops.all fun o => o.guard.isNone) = true) (N : Nat) (keep : List Nat) (ha : dstsApart ops keep N = true)
  (u m : Nat) (hum : dstOf ops m = some u) (hml : m < ops.size)
  (Inv : World → Prop) (R : World → World → Prop) (G : Nat → Value → World → Prop) (hG : ∀ k v w w', R w w' → G k v w → G k v w') {id : Nat} {a : Act} {w : World} (hsz : a.tmps.size = N)
  (hstep : ∀ i o, ops[i]? = some o → ∀ (ac : Act) (w : World) (D : Nat → Prop), (∀ s, s ∈ keep → ac.tmps.getD s undef = a.tmps.getD s undef) → Inv w → closedD ops D → ¬ D i → (¬ D m → ac.tmps.getD u undef = a.tmps.getD u undef) → (∀ e ∈ o.after, Region.binds .any e = true → G e.on (slotOf ops ac e.on) w) →
   ∀ K : Act → World → Prop, (∀ v w', R w w' → Inv w' → G i (match o.dst with | some _ => v | none => undef) w' → K (ac.put o.dst v) w') → Oper.wp P o ac w K Q)
  (hend : ∀ ac w, ac.tmps.size = N → ac.defers = a.defers → (∀ s, s ∈ keep → ac.tmps.getD s undef = a.tmps.getD s undef) → Inv w → (∀ k, k < ops.size → G k (slotOf ops ac k) w) → Q .normal ac w) (h0 : Inv w.drew) : (Code.region id ops true).wp P Q a w := by
 have hk : ∀ (ac : Act) (W : World), SlotBase N a.defers (keep.map fun s => (s, a.tmps.getD s undef)) Inv ac W → ∀ s, s ∈ keep → ac.tmps.getD s undef = a.tmps.getD s undef := fun ac W h s hs => h.fixed s _ (List.mem_map.2 ⟨s, hs, rfl⟩)
 refine wp_region_slotsU hm hb hgd N a.defers (keep.map fun s => (s, a.tmps.getD s undef)) ?_ u m _ hum hml Inv R G hG (fun i o ho ac W D hB hcl hD hU hd K hK => hstep i o ho ac W D (hk ac W hB) hB.inv hcl hD hU hd K hK) (fun ac W hB hG => hend ac W hB.size hB.defers (hk ac W hB) hB.inv hG) ⟨hsz, rfl, fun s v hs => ?_, h0⟩ rfl
 ·rw [List.map_map]
  rw [show keep.map ((fun x : Nat × Value => x.1) ∘ fun s => (s, a.tmps.getD s undef)) = keep from by rw [show ((fun x : Nat × Value => x.1) ∘ fun s => (s, a.tmps.getD s undef)) = fun s => s from rfl]; exact List.map_id' _]
  exact ha
 ·obtain ⟨s', _, e⟩ := List.mem_map.1 hs
  injection e with e1 e2
  subst e1
  exact e2
end
end Go.Proofs.YtgcpinnnfoanjaaGreatDoor
namespace Go.Proofs.YtgcpinnnfoanjaaGreatDoor
open Go
section
variable {P : Program} {ops : Array Oper} {Q : Exit → Act → World → Prop}
def guardsOkB (ops : Array Oper) : Bool := ops.all fun (o : Oper) => match o.guard with
 | none => true
 | some (j, _) => (dstOf ops j).isSome && o.after.toList.any fun (e : Edge) => Region.binds .any e && decide (e.on = j)
theorem wp_region_slotsBG (hm : P.follows .mixedOrders = true) (hb : edgesBackB ops = true) (hgd : guardsOkB ops = true) (N : Nat) (df : List Deferred) (fx : List (Nat × Value)) (ha : dstsApart ops (fx.map (·.1)) N = true)
  (Inv : World → Prop) (R : World → World → Prop) (G : Nat → Value → World → Prop) (hG : ∀ k v w w', R w w' → G k v w → G k v w')
  (hRR : ∀ w, R w w) (gb : Nat → Bool) (hgv : ∀ (i : Nat) (o : Oper) (j : Nat) (want : Bool), ops[i]? = some o → o.guard = some (j, want) → ∀ v w, G j v w → v = .bool (gb j))
  (hshut : ∀ (i : Nat) (o : Oper) (j : Nat) (want : Bool), ops[i]? = some o → o.guard = some (j, want) → gb j ≠ want → ∀ v w, G i v w)
  (hstep : ∀ i o, ops[i]? = some o → (∀ j want, o.guard = some (j, want) → gb j = want) → ∀ (a : Act) (w : World), SlotBase N df fx Inv a w → (∀ e ∈ o.after, Region.binds .any e = true → G e.on (slotOf ops a e.on) w) →
   ∀ K : Act → World → Prop, (∀ v w', R w w' → Inv w' → G i (match o.dst with | some _ => v | none => undef) w' → K (a.put o.dst v) w') → Oper.wp P o a w K Q)
  (hend : ∀ a w, SlotBase N df fx Inv a w → (∀ k, k < ops.size → G k (slotOf ops a k) w) → Q .normal a w) {id : Nat} {a : Act} {w : World} (h0 : SlotBase N df fx Inv a w.drew) : (Code.region id ops true).wp P Q a w := by
 refine wp_region_factsB hm hb (SlotBase N df fx Inv) (fun k a w => G k (slotOf ops a k) w) (fun i o ho a w D hB hF hnD hd => wpOp_step ho fun K' hK => ?_) hend h0
 have hi : i < ops.size := (Array.getElem?_eq_some_iff.1 ho).1
 have hw : Region.wanted o (yielded ops a.tmps) = (match o.guard with
   | none => true
   | some (j, want) => gb j == want) := by
  have hg := (Array.all_eq_true_iff_forall_mem.1 hgd) o (Array.mem_of_getElem? ho)
  unfold Region.wanted
  cases hgo : o.guard with
  | none => rfl
  | some x =>
   obtain ⟨j, want⟩ := x
   rw [hgo] at hg
   simp only [Bool.and_eq_true] at hg
   obtain ⟨h1, h2⟩ := hg
   obtain ⟨e, he, hbe⟩ := List.any_eq_true.1 h2
   simp only [Bool.and_eq_true, decide_eq_true_eq] at hbe
   obtain ⟨h3, rfl⟩ := hbe
   have h4 := hF e.on (hd e (by simpa using he) h3)
   have h5 := hgv i o e.on want ho hgo _ _ h4.2
   obtain ⟨d, hd1⟩ := Option.isSome_iff_exists.1 h1
   have h6 := List.all_eq_true.1 ha e.on (List.mem_range.2 h4.1)
   rw [hd1] at h6
   simp only [Bool.and_eq_true, decide_eq_true_eq] at h6
   have hlt : d < a.tmps.size := by rw [hB.size]; exact h6.1.1
   unfold slotOf at h5
   rw [hd1] at h5
   simp only [Array.getD_eq_getD_getElem?, Array.getElem?_eq_getElem hlt, Option.getD_some] at h5
   unfold dstOf at hd1
   show (yielded ops a.tmps e.on == some want) = (gb e.on == want)
   unfold yielded
   rw [hd1]
   simp only [Option.bind_some, Array.getElem?_eq_getElem hlt, h5]
   cases gb e.on <;> cases want <;> rfl
 have hdi : dstOf ops i = o.dst := by simp [dstOf, ho]
 have hap := List.all_eq_true.1 ha i (List.mem_range.2 hi)
 rw [hdi] at hap
 have key : ∀ v w', R w w' → Inv w' → G i (match o.dst with | some _ => v | none => undef) w' → K' (a.put o.dst v) w' := by
  refine fun v w' hR hI hGi => hK _ _ ⟨⟨(put_size _ _).trans hB.size, (put_defers _ _).trans hB.defers, fun s u hs => ?_, hI⟩, fun k hk => ?_⟩
  ·cases hd' : o.dst with
   | none => exact hB.fixed s u hs
   | some d =>
    rw [hd'] at hap
    simp only [Bool.and_eq_true, List.all_eq_true, decide_eq_true_eq] at hap
    rw [put_other v (hap.1.2 s (List.mem_map.2 ⟨(s, u), hs, rfl⟩))]
    exact hB.fixed s u hs
  ·by_cases e : k = i
   ·subst e
    have : slotOf ops (a.put o.dst v) k = (match o.dst with | some _ => v | none => undef) := by
     unfold slotOf
     rw [hdi]
     cases hd' : o.dst with
     | none => rfl
     | some d =>
      rw [hd'] at hap
      simp only [Bool.and_eq_true, List.all_eq_true, decide_eq_true_eq] at hap
      exact put_same v (by rw [hB.size]; exact hap.1.1)
    rw [this]
    exact hGi
   ·have hk' := hk.resolve_right e
    have hold := (hF k hk').2
    have hkl := (hF k hk').1
    have : slotOf ops (a.put o.dst v) k = slotOf ops a k := by
     unfold slotOf
     cases hk2 : dstOf ops k with
     | none => rfl
     | some s =>
      cases hd' : o.dst with
      | none => rfl
      | some d =>
       rw [hd'] at hap
       simp only [Bool.and_eq_true, List.all_eq_true, decide_eq_true_eq, Bool.or_eq_true, List.mem_range] at hap
       have h3 := (hap.2 k hkl).resolve_left e
       exact put_other v (fun h => h3 (by rw [hk2, h]))
    rw [this]
    exact hG k _ _ _ hR hold
 by_cases hwt : Region.wanted o (yielded ops a.tmps) = true
 case neg =>
  rw [if_neg hwt]
  refine key undef w (hRR w) hB.inv ?_
  rw [hw] at hwt
  cases hgo : o.guard with
  | none => rw [hgo] at hwt; exact absurd rfl hwt
  | some x =>
   obtain ⟨j, want⟩ := x
   rw [hgo] at hwt
   exact hshut i o j want ho hgo (fun h => hwt (beq_iff_eq.2 h)) _ _
 rw [if_pos hwt]
 refine hstep i o ho (fun j want hgo => ?_) a w hB (fun e he hbd => (hF e.on (hd e he hbd)).2) K' key
 rw [hw, hgo] at hwt
 exact beq_iff_eq.1 hwt
end
end Go.Proofs.YtgcpinnnfoanjaaGreatDoor
namespace Go.Proofs
open Go.Shelf
def Tryz.lays160_ren : Go.Shelf.Ren := ⟨fun | 160 => 85 | 232 => 104 | 231 => 103 | 227 => 105 | 234 => 107 | 233 => 106 | 236 => 109 | 235 => 108 | 228 => 121 | 271 => 123 | 151 => 122 | 197 => 101 | 120 => 143 | 152 => 142 | 260 => 120 | 137 => 131 | 119 => 156 | 224 => 97 | 225 => 96 | 217 => 95 | 266 => 118 | n => n, fun | 9 => 9 | 4 => 4 | 3 => 3 | 5 => 5 | 117 => 147 | 116 => 146 | 0 => 0 | 124 => 150 | 21 => 21 | 105 => 142 | 46 => 141 | 119 => 134 | 139 => 175 | 138 => 174 | n => n, fun | 3 => 2 | 4 => 3 | n => n⟩
theorem Tryz.lays160 : Go.Proofs.Lays.n160 Tryz.prog Tryz.lays160_ren := {
 mixed := by kernel_rfl
 f119 := Tryz.func156.trans (congrArg some (by kernel_rfl))
 f120 := Tryz.func143.trans (congrArg some (by kernel_rfl))
 f137 := Tryz.func131.trans (congrArg some (by kernel_rfl))
 f151 := Tryz.func122.trans (congrArg some (by kernel_rfl))
 f152 := Tryz.func142.trans (congrArg some (by kernel_rfl))
 f160 := Tryz.func85.trans (congrArg some (by kernel_rfl))
 f197 := Tryz.func101.trans (congrArg some (by kernel_rfl))
 f217 := Tryz.func95.trans (congrArg some (by kernel_rfl))
 f224 := Tryz.func97.trans (congrArg some (by kernel_rfl))
 f225 := Tryz.func96.trans (congrArg some (by kernel_rfl))
 f227 := Tryz.func105.trans (congrArg some (by kernel_rfl))
 f228 := Tryz.func121.trans (congrArg some (by kernel_rfl))
 f231 := Tryz.func103.trans (congrArg some (by kernel_rfl))
 f232 := Tryz.func104.trans (congrArg some (by kernel_rfl))
 f233 := Tryz.func106.trans (congrArg some (by kernel_rfl))
 f234 := Tryz.func107.trans (congrArg some (by kernel_rfl))
 f235 := Tryz.func108.trans (congrArg some (by kernel_rfl))
 f236 := Tryz.func109.trans (congrArg some (by kernel_rfl))
 f260 := Tryz.func120.trans (congrArg some (by kernel_rfl))
 f266 := Tryz.func118.trans (congrArg some (by kernel_rfl))
 f271 := Tryz.func123.trans (congrArg some (by kernel_rfl))
 t0 := Tryz.underlying0
 a0 := Tryz.isAgg0
 z0 := Tryz.sizeOf0
 v0 := Tryz.zeroValue0
 t3 := Tryz.underlying3
 a3 := Tryz.isAgg3
 z3 := Tryz.sizeOf3
 v3 := Tryz.zeroValue3
 t4 := Tryz.underlying4
 a4 := Tryz.isAgg4
 z4 := Tryz.sizeOf4
 v4 := Tryz.zeroValue4
 t5 := Tryz.underlying5
 a5 := Tryz.isAgg5
 z5 := Tryz.sizeOf5
 v5 := Tryz.zeroValue5
 t9 := Tryz.underlying9
 a9 := Tryz.isAgg9
 z9 := Tryz.sizeOf9
 v9 := Tryz.zeroValue9
 t21 := Tryz.underlying21
 a21 := Tryz.isAgg21
 z21 := Tryz.sizeOf21
 v21 := Tryz.zeroValue21
 t46 := Tryz.underlying141
 a46 := Tryz.isAgg141
 z46 := Tryz.sizeOf141
 v46 := Tryz.zeroValue141
 t105 := Tryz.underlying142
 a105 := Tryz.isAgg142
 z105 := Tryz.sizeOf142
 v105 := Tryz.zeroValue142
 t116 := Tryz.underlying146
 a116 := Tryz.isAgg146
 z116 := Tryz.sizeOf146
 t117 := Tryz.underlying147
 a117 := Tryz.isAgg147
 z117 := Tryz.sizeOf147
 v117 := Tryz.zeroValue147
 t119 := Tryz.underlying134
 a119 := Tryz.isAgg134
 z119 := Tryz.sizeOf134
 t124 := Tryz.underlying150
 a124 := Tryz.isAgg150
 z124 := Tryz.sizeOf150
 v124 := Tryz.zeroValue150
 t138 := Tryz.underlying174
 a138 := Tryz.isAgg174
 z138 := Tryz.sizeOf174
 v138 := Tryz.zeroValue174
 t139 := Tryz.underlying175
 a139 := Tryz.isAgg175
 z139 := Tryz.sizeOf175
 v139 := Tryz.zeroValue175
 g3 := by kernel_rfl
 g4 := by kernel_rfl }
end Go.Proofs
namespace Go.Proofs.YtgcpinnnfoanjaaGreatDoor
open Go.RowKit
theorem infoAs : (Tryz.prog.info? 146).map (fun i => (i.zero, i.size)) = some (some (.agg (Array.replicate 256 (.bool false))), 256) := by kernel_rfl
set_option maxRecDepth 1000000 in
theorem ltrim_any (l : List UInt8) (w : World) (hs : l.length ≤ 140737488351232) :
  Calls Tryz.prog 64 #[.string ⟨l.toArray⟩] w fun e w' => e = .returned (.string ⟨(Lib.trimS l [32, 9]).toArray⟩) ∧ Below w.heap.size w w' := by
 have HT := Lib.hid (Any.strings_Trim_laid Tryz.lays160 infoAs ⟨l.toArray⟩ ⟨#[32, 9]⟩ w (by rw [ba_size]; omega) (by decide) (ascii_of_all (by decide)))
 go_enter Tryz.func64, Tryz.ntmps64
 go_wp2_with (go_at_call 85; refine HT.out.mono ?_; rintro e w1 ⟨rfl, hb⟩)
 go_ret
 exact ⟨rfl, hb⟩
theorem trimS_len (l cs : List UInt8) : (Lib.trimS l cs).length ≤ l.length := by
 unfold Lib.trimS Lib.trimRightS Lib.trimLeftS
 refine Nat.le_trans (List.dropWhile_sublist _).length_le ?_
 rw [List.length_reverse]
 refine Nat.le_trans (List.dropWhile_sublist _).length_le ?_
 rw [List.length_reverse]
 exact Nat.le_refl _
theorem undDf : (Tryz.prog.underlying 47).map (fun d => match d with | .struct _ => true | _ => false) = some true := by kernel_rfl
theorem undDf2 : ∃ fs, Tryz.prog.underlying 47 = some (.struct fs) := by
 cases hq : Tryz.prog.underlying 47 with
 | none => have := undDf; rw [hq] at this; cases this
 | some d =>
  have := undDf
  rw [hq] at this
  cases d <;> first | exact ⟨_, rfl⟩ | (simp at this)
theorem infoDf2 : (Tryz.prog.info? 47).map (·.size) = some 2 := by kernel_rfl
theorem ret_df {fn : Func} {p t u : Tmp} (hfn : fn.results = #[.cell p 47, .tmp t, .tmp u]) {w : World} {cs : Array Value} {g : Nat} {ty : TypeId} (hg : w.heap[g]? = some (.cells cs ty (0, 0))) (hcs : cs.size = 2) {tmps : Array Value} {df : _} (hdf : df = []) (hp : tmps.getD p undef = .pointer (some ⟨g, 0, none⟩)) {post : Ending → World → Prop}
  (h : post (.returned (.tuple #[.agg cs, tmps.getD t undef, tmps.getD u undef])) w) : bodyPost Tryz.prog fn post Exit.ret { tmps := tmps, defers := df } w := by
 have hp' : tmps[p]?.getD undef = .pointer (some ⟨g, 0, none⟩) := by simpa using hp
 obtain ⟨fs, hd⟩ := undDf2
 have hl := run_loadVar_row (P := Tryz.prog) w g ty 47 cs (0, 0) (.struct fs) hg hd rfl (by rw [hcs]; exact infoDf2)
 exact bodyPost_ret (by simp [results, hfn, hp', asAddr, hl]) hdf h
def lineV : Except Nat (Option Lb.Def) → Value
 | .ok none => .tuple #[.agg #[.string ⟨#[]⟩, .string ⟨#[]⟩], .bool false, .int .i64 0]
 | .ok (some d) => .tuple #[.agg #[.string ⟨d.1.toArray⟩, .string ⟨d.2.toArray⟩], .bool true, .int .i64 0]
 | .error k => .tuple #[.agg #[.string ⟨#[]⟩, .string ⟨#[]⟩], .bool false, .int .i64 (k : Int)]
end Go.Proofs.YtgcpinnnfoanjaaGreatDoor
namespace Go.Proofs.YtgcpinnnfoanjaaGreatDoor
open Go.RowKit
def LineP (s : List UInt8) (w : World) (e : Ending) (w' : World) : Prop := e = .returned (lineV (Lb.lineM s)) ∧ Below w.heap.size w w'
theorem st_two {W : World} {g : Nat} {a b x y : Value} {ty : TypeId} (h : W.heap[g]? = some (.cells #[a, b] ty (0, 0))) : ((W.setCell ⟨g, 0, none⟩ x).setCell ⟨g, 1, none⟩ y).heap[g]? = some (.cells #[x, y] ty (0, 0)) :=
 heap_setCell_same _ g 1 _ _ _ (heap_setCell_same W g 0 _ _ _ h)
set_option maxHeartbeats 8000000 in
set_option maxRecDepth 1000000 in
theorem line_any (s : List UInt8) (w : World) (hk : Kinds w) (hs : s.length ≤ 1000000) : Calls Tryz.prog 41 #[.string ⟨s.toArray⟩] w (LineP s w) := by
 have hal := alb w (.cells #[.string ⟨#[]⟩, .string ⟨#[]⟩] 47)
 obtain ⟨t, ht⟩ : ∃ t, Lib.trimS s [32, 9] = t := ⟨_, rfl⟩
 have HT := Lib.hid (ltrim_any s (w.alloc (.cells #[.string ⟨#[]⟩, .string ⟨#[]⟩] 47)) (by omega))
 rw [ht] at HT
 have htl : t.length ≤ 1000000 := by rw [← ht]; exact Nat.le_trans (trimS_len _ _) hs
 obtain ⟨R, hR⟩ : ∃ R, Lb.lineM s = R := ⟨_, rfl⟩
 have HM : Hid (R = if t = [] ∨ t.head? = some 35 then .ok none else if nlen t = 0 ∨ t.length ≤ nlen t ∨ ¬ (t.drop (nlen t)).head? ∈ ([some 32, some 9] : List (Option UInt8)) then .error 1 else .ok (some (t.take (nlen t), Lib.trimS (t.drop (nlen t)) [32, 9]))) := Lib.hid (by rw [← hR]; unfold Lb.lineM; rw [show Lb.spL = [32, 9] from rfl, ht])
 have HEND : Hid (∀ r w', R = r → Below w.heap.size w w' → LineP s w (.returned (lineV r)) w') := Lib.hid (fun r w' e hb => ⟨by rw [hR, e], hb⟩)
 have HK := Lib.hid (hk.below hal)
 have HB0 := Lib.hid hal
 have HG0 : Hid (w.heap.size < (w.alloc (.cells #[.string ⟨#[]⟩, .string ⟨#[]⟩] 47)).heap.size) := Lib.hid (by simp)
 have HH0 := Lib.hid (heap_alloc_new w (.cells #[.string ⟨#[]⟩, .string ⟨#[]⟩] 47))
 clear hk hR ht hal
 go_enter Tryz.func41, Tryz.ntmps41
 go_wp2_with fail
 refine HT.out.mono ?_
 rintro e w1 ⟨rfl, hb⟩
 have HB1 := Lib.hid (HB0.out.trans (hb.mono HB0.out.size))
 have HK1 := Lib.hid (HK.out.below hb)
 have hh := (hb.block _ HG0.out).trans HH0.out
 have HH1 := Lib.hid hh
 have HG1 := Lib.hid (Nat.lt_of_lt_of_le HG0.out hb.size)
 have c0 : w1.cell? ⟨w.heap.size, 0, none⟩ = some (.string ⟨#[]⟩) := Lib.cell_of_heap hh 0
 have c1 : w1.cell? ⟨w.heap.size, 1, none⟩ = some (.string ⟨#[]⟩) := Lib.cell_of_heap hh 1
 have f0 : w1.frozen? ⟨w.heap.size, 0, none⟩ = false := Lib.frozen_of_heap hh 0
 have f1 : w1.frozen? ⟨w.heap.size, 1, none⟩ = false := Lib.frozen_of_heap hh 1
 have HBZ : Hid (∀ x y, Below w.heap.size w ((w1.setCell ⟨w.heap.size, 0, none⟩ x).setCell ⟨w.heap.size, 1, none⟩ y)) := Lib.hid (fun x y => (HB1.out.setCell (p := ⟨w.heap.size, 0, none⟩) (Nat.le_refl _) x).setCell (p := ⟨w.heap.size, 1, none⟩) (Nat.le_refl _) y)
 clear hb hh HT HB0 HK HG0 HH0
 rcases Nat.eq_zero_or_pos t.length with h0 | hpos
 ·obtain rfl := List.length_eq_zero_iff.1 h0
  rw [if_pos (.inl rfl)] at HM
  clear h0 htl
  go_wp2_with fail
  exact ret_df (p := 2) (t := 3) (u := 4) rfl (st_two HH1.out) rfl rfl (by rfl) (HEND.out _ _ HM.out (HBZ.out _ _))
 ·have e2 : t.isEmpty = false := by cases t with | nil => simp at hpos | cons a b => rfl
  have hne : t ≠ [] := by intro h; rw [h] at hpos; simp at hpos
  obtain ⟨x0, ⟨_, hx0⟩, hc0, hb0⟩ := byte_at t 0 hpos
  by_cases h35 : x0 = 35
  ·subst h35
   have hhd : t.head? = some 35 := by
    cases t with
    | nil => simp at hpos
    | cons a b => simp only [List.getElem_cons_zero] at hc0; simp only [List.head?_cons, Option.some.injEq]; exact UInt8.toNat_inj.1 hc0
   rw [if_pos (.inr hhd)] at HM
   clear hhd hne hc0
   go_wp2_with fail
   exact ret_df (p := 2) (t := 3) (u := 4) rfl (st_two HH1.out) rfl rfl (by rfl) (HEND.out _ _ HM.out (HBZ.out _ _))
  ·have hhd : t.head? = some 35 ↔ x0 = 35 := by
    cases t with
    | nil => simp at hpos
    | cons a b =>
     simp only [List.getElem_cons_zero] at hc0
     simp only [List.head?_cons, Option.some.injEq]
     exact ⟨fun h => by rw [← hc0, h]; rfl, fun h => UInt8.toNat_inj.1 (hc0.trans h)⟩
   rw [if_neg (by rintro (h | h); exact hne h; exact h35 (hhd.1 h))] at HM
   have z0 : ((x0 : Int) == 35) = false := by rw [beq_eq_false_iff_ne]; omega
   have HNM := Lib.hid (lname_any t w1 HK1.out (by omega))
   have hnle := nlen_le t
   obtain ⟨n, hn⟩ : ∃ n, nlen t = n := ⟨_, rfl⟩
   rw [hn] at HM HNM hnle
   clear hhd hne hc0 h35 hn
   rcases Nat.eq_zero_or_pos n with hn0 | hn0
   ·subst hn0
    rw [if_pos (.inl rfl)] at HM
    go_wp2_with fail
    refine HNM.out.mono ?_
    rintro e w2 ⟨rfl, rfl⟩
    go_wp2_with fail
    exact ret_df (p := 2) (t := 3) (u := 4) rfl (st_two HH1.out) rfl rfl (by rfl) (HEND.out _ _ HM.out (HBZ.out _ _))
   ·have z1 : ((n : Int) == 0) = false := by rw [beq_eq_false_iff_ne]; omega
    rcases Nat.lt_or_ge n t.length with hlt | hge
    ·have z2 : decide ((t.length : Int) ≤ (n : Int)) = false := decide_eq_false (by omega)
     have y2 : decide (t.length ≤ n) = false := decide_eq_false (by omega)
     obtain ⟨xn, ⟨_, hxn⟩, hcn, hbn⟩ := byte_at t n hlt
     have HSP := Lib.hid (space_any xn w1 hbn HK1.out)
     have i1 : (n : Int) < (t.length : Int) := by omega
     have i2 : (0 : Int) ≤ (n : Int) := by omega
     have hsp : (t.drop n).head? ∈ ([some 32, some 9] : List (Option UInt8)) ↔ Asc.isSpace xn = true := by
      rw [List.head?_drop, List.getElem?_eq_getElem hlt]
      simp only [List.mem_cons, Option.some.injEq, List.not_mem_nil, or_false]
      unfold Asc.isSpace
      rw [← hcn]
      constructor
      ·rintro (h | h) <;> rw [h] <;> decide
      ·intro h
       simp at h
       rcases h with h | h
       ·exact .inl (UInt8.toNat_inj.1 h)
       ·exact .inr (UInt8.toNat_inj.1 h)
     clear hcn
     cases hs2 : Asc.isSpace xn with
     | false =>
      rw [if_pos (.inr (.inr (fun h => by rw [hsp.1 h] at hs2; cases hs2)))] at HM
      rw [hs2] at HSP
      clear hs2 hsp
      go_wp2_with fail
      refine HNM.out.mono ?_
      rintro e w2 ⟨rfl, rfl⟩
      go_wp2_with fail
      refine HSP.out.mono ?_
      rintro e w2 ⟨rfl, rfl⟩
      go_wp2_with fail
      exact ret_df (p := 2) (t := 3) (u := 4) rfl (st_two HH1.out) rfl rfl (by rfl) (HEND.out _ _ HM.out (HBZ.out _ _))
     | true =>
      rw [if_neg (by rintro (h | h | h); omega; omega; exact h (hsp.2 hs2))] at HM
      rw [hs2] at HSP
      clear hs2 hsp
      have x1 : (ByteArray.mk t.toArray).extract 0 n = ⟨(t.take n).toArray⟩ := by have := Asc.extract_seg t 0 n; unfold Asc.seg at this; simpa using this
      have x2 : (ByteArray.mk t.toArray).extract n t.length = ⟨(t.drop n).toArray⟩ := ext_drop t n
      have i3 : (n : Int) ≤ (t.length : Int) := by omega
      have HTR := Lib.hid (ltrim_any (t.drop n) w1.drew (by rw [List.length_drop]; omega))
      obtain ⟨r2, hr2⟩ : ∃ r2, Lib.trimS (t.drop n) [32, 9] = r2 := ⟨_, rfl⟩
      obtain ⟨t1, ht1⟩ : ∃ t1, t.take n = t1 := ⟨_, rfl⟩
      rw [hr2] at HM HTR
      rw [ht1] at HM x1
      obtain ⟨t2, ht2⟩ : ∃ t2, t.drop n = t2 := ⟨_, rfl⟩
      rw [ht2] at HTR x2
      clear hr2 ht1 ht2
      go_wp2_with fail
      refine HNM.out.mono ?_
      rintro e w2 ⟨rfl, rfl⟩
      go_wp2_with fail
      refine HSP.out.mono ?_
      rintro e w2 ⟨rfl, rfl⟩
      go_wp2_with fail
      go_region_with (first
       | (go_at_call 64; refine HTR.out.mono ?_; rintro e w3 ⟨rfl, hb3⟩; have hh3 := (hb3.block _ HG1.out).trans HH1.out; have HH3 := Lib.hid hh3; have d0 : w3.cell? ⟨w.heap.size, 0, none⟩ = some (.string ⟨#[]⟩) := Lib.cell_of_heap hh3 0; have d1 : w3.cell? ⟨w.heap.size, 1, none⟩ = some (.string ⟨#[]⟩) := Lib.cell_of_heap hh3 1; have e0 : w3.frozen? ⟨w.heap.size, 0, none⟩ = false := Lib.frozen_of_heap hh3 0; have e1 : w3.frozen? ⟨w.heap.size, 1, none⟩ = false := Lib.frozen_of_heap hh3 1; have HB3 := Lib.hid (HB1.out.trans (((Below.refl _ w1).drew.trans hb3).mono HB1.out.size)); clear hb3 hh3))
      all_goals (go_wp2_with fail)
      all_goals exact ret_df (p := 2) (t := 3) (u := 4) rfl (st_two HH3.out) rfl rfl (by rfl) (HEND.out _ _ HM.out ((HB3.out.setCell (p := ⟨w.heap.size, 0, none⟩) (Nat.le_refl _) _).setCell (p := ⟨w.heap.size, 1, none⟩) (Nat.le_refl _) _))
    ·have z2 : decide ((t.length : Int) ≤ (n : Int)) = true := decide_eq_true (by omega)
     have y2 : decide (t.length ≤ n) = true := decide_eq_true (by omega)
     rw [if_pos (.inr (.inl hge))] at HM
     go_wp2_with fail
     refine HNM.out.mono ?_
     rintro e w2 ⟨rfl, rfl⟩
     go_wp2_with fail
     exact ret_df (p := 2) (t := 3) (u := 4) rfl (st_two HH1.out) rfl rfl (by rfl) (HEND.out _ _ HM.out (HBZ.out _ _))
end Go.Proofs.YtgcpinnnfoanjaaGreatDoor
namespace Go.Proofs.YtgcpinnnfoanjaaGreatDoor
open Go.RowKit
theorem split_any (s : List UInt8) (w : World) (h : ML w) (hl : s.length ≤ 100000) : Calls Tryz.prog 40 #[.string ⟨s.toArray⟩, .string ⟨#[10]⟩] w fun e w' =>
  e = .returned (.slice (some ⟨w.heap.size, 0, none⟩) (Lib.split s [10]).length (Lib.split s [10]).length) ∧ w.alloc (.cells ((Lib.split s [10]).map fun p => Value.string ⟨p.toArray⟩).toArray 9) = w' := by
 obtain ⟨_, m, hm⟩ := h
 have hd := Lib.splitB_data ⟨#[10]⟩ 0 (Lib.countB ⟨s.toArray⟩ ⟨#[10]⟩) ⟨s.toArray⟩
 have hc : Lib.countB ⟨s.toArray⟩ ⟨#[10]⟩ = Lib.count s [10] := rfl
 have hs : (Lib.splitB ⟨#[10]⟩ 0 (Lib.countB ⟨s.toArray⟩ ⟨#[10]⟩) ⟨s.toArray⟩).map (·.data.toList) = Lib.split s [10] := by rw [hd, hc]; rfl
 have hlen := Lib.splitB_all ⟨#[10]⟩ (by decide) 0 _ ⟨s.toArray⟩ rfl
 have hl2 : (Lib.split s [10]).length = Lib.countB ⟨s.toArray⟩ ⟨#[10]⟩ + 1 := by rw [← hs, List.length_map]; exact hlen
 refine (Tryz.strings_Split ⟨s.toArray⟩ ⟨#[10]⟩ m w (by rw [ba_size]; omega) hm (by decide)).mono ?_
 rintro e w' ⟨h1, h2⟩
 refine ⟨by rw [h1, hl2], ?_⟩
 rw [h2, ← hs, List.map_map]
 rfl
end Go.Proofs.YtgcpinnnfoanjaaGreatDoor
namespace Go.Proofs.YtgcpinnnfoanjaaGreatDoor
open Go.RowKit
set_option maxHeartbeats 8000000 in
set_option maxRecDepth 1000000 in
theorem lsame_any (l : List Lb.Def) (v v' : Value) (w : World) (hd : DfAt w l v) (hd' : DfAt w l v') :
  Calls Tryz.prog 25 #[v, v'] w fun e w' => e = .returned (.bool true) ∧ Below w.heap.size w w' := by
 obtain ⟨a, c, rfl, hl, hvk⟩ := hd
 obtain ⟨a', c', rfl, _, hvk'⟩ := hd'
 have HV := Lib.hid hvk
 have HV' := Lib.hid hvk'
 clear hvk hvk'
 go_enter Tryz.func25, Tryz.ntmps25
 go_wp2_with fail
 go_loopw [5] (fun i wr => ∃ k : Nat, i = .int .i64 k ∧ k ≤ l.length ∧ Hid (Below w.heap.size w wr)) (fun i _ => l.length - (intOf i).toNat)
 case atStart => exact ⟨0, rfl, Nat.zero_le _, Lib.hid (Below.refl _ _)⟩
 case round =>
  obtain ⟨k, rfl, hkl, HB⟩ := hrel
  by_cases hlt : k < l.length
  ·obtain ⟨blk, off, rfl, hbl, d0, d1⟩ := HV.out k hlt
   obtain ⟨blk', off', rfl, hbl', d0', d1'⟩ := HV'.out k hlt
   have e0 := (HB.out.cell (p := ⟨blk, off + k * 2, none⟩) hbl).trans d0
   have e1 := (HB.out.cell (p := ⟨blk, off + k * 2 + 1, none⟩) hbl).trans d1
   have e0' := (HB.out.cell (p := ⟨blk', off' + k * 2, none⟩) hbl').trans d0'
   have e1' := (HB.out.cell (p := ⟨blk', off' + k * 2 + 1, none⟩) hbl').trans d1'
   have i1 : (k : Int) < (l.length : Int) := by omega
   have i2 : (0 : Int) ≤ (k : Int) := by omega
   have hw1 : IntKind.i64.wrap ((k : Int) + 1) = (k : Int) + 1 := IntWalk.i64_in _ (by omega)
   obtain ⟨n1, hn1⟩ : ∃ n1, l[k].1 = n1 := ⟨_, rfl⟩
   obtain ⟨s1, hs1⟩ : ∃ s1, l[k].2 = s1 := ⟨_, rfl⟩
   rw [hn1] at e0 e0'
   rw [hs1] at e1 e1'
   clear d0 d1 d0' d1' hn1 hs1
   go_wp2_with fail
   go_quiet (fail)
   have HB2 : Hid (Below w.heap.size w (wr.drewN nq)) := Lib.hid (below_drewN HB.out nq)
   go_wp2_with fail
   refine ⟨⟨k + 1, by go_num, by omega, HB2⟩, by simp [intOf]; omega⟩
  ·have z1 : decide ((k : Int) < (l.length : Int)) = false := decide_eq_false (by omega)
   have y1 : decide (k < l.length) = false := decide_eq_false hlt
   go_wp2_with fail
   go_ret
   exact ⟨rfl, HB.out⟩
end Go.Proofs.YtgcpinnnfoanjaaGreatDoor
namespace Go.Proofs.YtgcpinnnfoanjaaGreatDoor
open Go.RowKit
namespace Lb
theorem splitK_len (sep : List UInt8) : ∀ (k : Nat) (s p : List UInt8), p ∈ Go.Lib.splitK sep 0 k s → p.length ≤ s.length
 | 0, s, p, h => by
  rw [Go.Lib.splitK, List.mem_singleton] at h
  rw [h]
  exact Nat.le_refl _
 | k + 1, s, p, h => by
  rw [Go.Lib.splitK] at h
  split at h
  ·rw [List.mem_singleton] at h
   rw [h]
   exact Nat.le_refl _
  ·rcases List.mem_cons.1 h with rfl | h
   ·rw [List.length_take]
    exact Nat.min_le_right _ _
   ·have := splitK_len sep k _ p h
    rw [List.length_drop] at this
    omega
theorem split_piece {s p : List UInt8} (h : p ∈ Go.Lib.split s [10]) : p.length ≤ s.length := splitK_len _ _ _ _ h
theorem split_count (s : List UInt8) : (Go.Lib.split s [10]).length ≤ s.length + 1 := by
 have hs : (Go.Lib.splitB ⟨#[10]⟩ 0 (Go.Lib.countB ⟨s.toArray⟩ ⟨#[10]⟩) ⟨s.toArray⟩).map (·.data.toList) = Go.Lib.split s [10] := by rw [Go.Lib.splitB_data]; rfl
 have hlen := Go.Lib.splitB_all ⟨#[10]⟩ (by decide) 0 _ ⟨s.toArray⟩ rfl
 have hle := Go.Lib.countB_le ⟨#[10]⟩ (by decide) _ ⟨s.toArray⟩ (Nat.le_refl _)
 rw [← hs, List.length_map, hlen]
 rw [show (ByteArray.mk s.toArray).size = s.length by simp [ByteArray.size]] at hle
 omega
theorem lineM_err {s : List UInt8} {e : Nat} (h : lineM s = .error e) : e = 1 := by
 unfold lineM at h
 repeat' split at h
 all_goals first
  | (cases h; done)
  | (injection h with h; exact h.symm)
theorem lineM_len {s : List UInt8} {d : Def} (h : lineM s = .ok (some d)) : d.1.length ≤ s.length ∧ d.2.length ≤ s.length := by
 unfold lineM at h
 repeat' split at h
 all_goals first
  | (cases h; done)
  | (injection h with h; injection h with h; subst h)
 have h1 := trimS_len s spL
 refine ⟨?_, ?_⟩
 ·simp only [List.length_take]; omega
 ·have h2 := trimS_len ((Go.Lib.trimS s spL).drop (nlen (Go.Lib.trimS s spL))) spL
  simp only [List.length_drop] at h2 ⊢
  omega
end Lb
end Go.Proofs.YtgcpinnnfoanjaaGreatDoor
namespace Go.Proofs.YtgcpinnnfoanjaaGreatDoor
open Go.RowKit
theorem DfAt.orw {B : Nat} {w : World} {l : List Lb.Def} {v : Value} (h : OR B 47 2 DfR w l v) (hl : l.length ≤ 900000) : DfAt w l v := by
 obtain ⟨a, c, e, _, hk⟩ := h.rw (F := fun _ => True) (fun _ _ => trivial)
 refine ⟨a, c, e, hl, fun i hi => ?_⟩
 obtain ⟨blk, off, e1, hb, _, hc⟩ := hk (by omega)
 obtain ⟨us, _, hcell, hr⟩ := hc i hi
 unfold DfR at hr
 subst hr
 exact ⟨blk, off, e1, hb, hcell 0 (by omega), hcell 1 (by omega)⟩
def LParseP (ck : List Lb.Def → Nat) (s : List UInt8) (w : World) (e : Ending) (w' : World) : Prop := Below w.heap.size w w' ∧ match Lb.plM (Lib.split s [10]) 0 [] with
 | .error x => e = .returned (.tuple #[.slice none 0 0, .int .i64 (x.1 : Int), .int .i64 (x.2 : Int)])
 | .ok l => if ck l = 0 then ∃ v, e = .returned (.tuple #[v, .int .i64 0, .int .i64 0]) ∧ DfAt w' l v else e = .returned (.tuple #[.slice none 0 0, .int .i64 0, .int .i64 (ck l : Int)])
set_option maxHeartbeats 16000000 in
set_option maxRecDepth 1000000 in
theorem lparse_any (ck : List Lb.Def → Nat) (s : List UInt8) (w : World) (hk : KM w) (hs : s.length ≤ 20000)
  (CK : ∀ l v W, l.length ≤ 40 → (∀ i (h : i < l.length), l[i].1.length ≤ 20000 ∧ l[i].2.length ≤ 20000) → KM W → DfAt W l v → Calls Tryz.prog 9 #[v] W fun e w' => e = .returned (.int .i64 (ck l : Int)) ∧ Below W.heap.size W w') :
  Calls Tryz.prog 23 #[.string ⟨s.toArray⟩] w (LParseP ck s w) := by
 obtain ⟨i0, hi, hz0, hz1, hz2⟩ := info_parts infoDf
 have HSP := Lib.hid (split_any s w hk.2 (by omega))
 have HPC := Lib.hid (fun p (h : p ∈ Lib.split s [10]) => Lb.split_piece h)
 have hcnt := Lb.split_count s
 obtain ⟨R, hR⟩ : ∃ R, Lb.plM (Lib.split s [10]) 0 [] = R := ⟨_, rfl⟩
 have HEND : Hid (∀ e w', Below w.heap.size w w' → (match R with
  | .error x => e = .returned (.tuple #[.slice none 0 0, .int .i64 (x.1 : Int), .int .i64 (x.2 : Int)])
  | .ok l => if ck l = 0 then ∃ v, e = .returned (.tuple #[v, .int .i64 0, .int .i64 0]) ∧ DfAt w' l v else e = .returned (.tuple #[.slice none 0 0, .int .i64 0, .int .i64 (ck l : Int)])) → LParseP ck s w e w') := Lib.hid (fun e w' h1 h2 => ⟨h1, by rw [hR]; exact h2⟩)
 obtain ⟨ls, hls⟩ : ∃ ls, Lib.split s [10] = ls := ⟨_, rfl⟩
 rw [hls] at HSP HPC hcnt hR
 have HR0 : Hid (Lb.plM (ls.drop 0) 0 [] = R) := Lib.hid hR
 have HK := Lib.hid hk
 have HCK := Lib.hid CK
 have z0 : decide ((20000 : Int) < (s.length : Int)) = false := decide_eq_false (by omega)
 have y0 : decide (20000 < s.length) = false := decide_eq_false (by omega)
 have HB0 := Lib.hid (alb w (.cells (ls.map fun p => Value.string ⟨p.toArray⟩).toArray 9))
 have HROW : Hid (∀ k (h : k < ls.length), (w.alloc (.cells (ls.map fun p => Value.string ⟨p.toArray⟩).toArray 9)).cell? ⟨w.heap.size, k, none⟩ = some (.string ⟨ls[k].toArray⟩)) := Lib.hid (fun k h => by simp [go_sem, h])
 have HGL : Hid (w.heap.size < (w.alloc (.cells (ls.map fun p => Value.string ⟨p.toArray⟩).toArray 9)).heap.size) := Lib.hid (by simp)
 clear hk CK hls hR
 go_enter Tryz.func23, Tryz.ntmps23
 go_wp2_with fail
 refine HSP.out.mono ?_
 rintro e w0 ⟨rfl, hw0⟩
 rw [hw0] at HB0 HROW HGL
 clear hw0 HSP
 go_wp2_with fail
 go_loopw [5, 20] (fun lv i wr => ∃ (k : Nat) (acc : List Lb.Def) (v : Value), v = lv ∧ i = .int .i64 k ∧ k ≤ ls.length ∧ acc.length ≤ 40 ∧ Hid (Lb.plM (ls.drop k) k acc = R) ∧ Hid (∀ i (h : i < acc.length), acc[i].1.length ≤ 20000 ∧ acc[i].2.length ≤ 20000) ∧ Hid (OR w0.heap.size 47 2 DfR wr acc v) ∧ Hid (Below w0.heap.size w0 wr)) (fun _ i _ => ls.length - (intOf i).toNat)
 case atStart => exact ⟨0, [], _, rfl, rfl, Nat.zero_le _, by simp, HR0, Lib.hid (fun i h => by simp at h), Lib.hid OR.nil, Lib.hid (Below.refl _ _)⟩
 case round =>
  obtain ⟨k, acc, v, rfl, rfl, hkl, hacc, HR, HSZ, HO, HB⟩ := hrel
  have HBL := Lib.hid (HB0.out.trans (HB.out.mono HB0.out.size))
  clear HR0
  by_cases hlt : k < ls.length
  ·rw [List.drop_eq_getElem_cons hlt, Lb.plM] at HR
   have hcell : wr.cell? ⟨w.heap.size, k, none⟩ = some (.string ⟨ls[k].toArray⟩) := (HB.out.cell (p := ⟨w.heap.size, k, none⟩) HGL.out).trans (HROW.out k hlt)
   have i1 : (k : Int) < (ls.length : Int) := by omega
   have i2 : (0 : Int) ≤ (k : Int) := by omega
   have hw1 : IntKind.i64.wrap ((k : Int) + 1) = (k : Int) + 1 := IntWalk.i64_in _ (by omega)
   have hpl := HPC.out _ (List.getElem_mem hlt)
   obtain ⟨p, hp⟩ : ∃ p, ls[k] = p := ⟨_, rfl⟩
   rw [hp] at HR hcell hpl
   have HLN := Lib.hid (line_any p wr (HK.out.1.below HBL.out) (by omega))
   obtain ⟨va, vc, rfl, _⟩ := HO.out.rw (F := fun _ => True) (fun _ _ => trivial)
   clear hp
   go_wp2_with fail
   refine HLN.out.mono ?_
   rintro e w2 ⟨rfl, hb2⟩
   have HB2 := Lib.hid (HB.out.trans (hb2.mono HB.out.size))
   have HBL2 := Lib.hid (HB0.out.trans (HB2.out.mono HB0.out.size))
   have HO2 := Lib.hid (HO.out.keep (W' := w2) (fun j _ hj => hb2.block j hj) (fun _ _ h => h))
   clear hb2 HLN HB HBL HO hcell
   cases hlm : Lb.lineM p with
   | error e =>
    obtain rfl := Lb.lineM_err hlm
    rw [hlm] at HR
    clear hlm
    dsimp only [lineV] at HR ⊢
    have HB3 := Lib.hid (HBL2.out.trans ((alb w2 (.cells #[.string ⟨#[]⟩, .string ⟨#[]⟩] 47)).mono HBL2.out.size))
    go_wp2_with fail
    go_ret3
    refine HEND.out _ _ HB3.out ?_
    rw [← HR.out]
    rfl
   | ok o =>
    rw [hlm] at HR
    cases o with
    | none =>
     clear hlm
     dsimp only [lineV] at HR ⊢
     have hal := alb w2 (.cells #[.string ⟨#[]⟩, .string ⟨#[]⟩] 47)
     have HB3 := Lib.hid (HB2.out.trans (hal.mono HB2.out.size))
     have HO3 := Lib.hid (HO2.out.keep (fun j _ hj => hal.block j hj) (fun _ _ h => h))
     clear hal
     go_wp2_with fail
     refine ⟨⟨k + 1, acc, _, rfl, by go_num, by omega, hacc, HR, HSZ, HO3, HB3⟩, by simp [intOf]; omega⟩
    | some d =>
     have HDL := Lib.hid (Lb.lineM_len hlm)
     clear hlm
     obtain ⟨n1, s1⟩ := d
     dsimp only [lineV] at HR HDL ⊢
     have hal := alb w2 (.cells #[.string ⟨n1.toArray⟩, .string ⟨s1.toArray⟩] 47)
     have hnew := heap_alloc_new w2 (.cells #[.string ⟨n1.toArray⟩, .string ⟨s1.toArray⟩] 47)
     have HB3 := Lib.hid (HB2.out.trans (hal.mono HB2.out.size))
     have HO3 := Lib.hid (HO2.out.keep (fun j _ hj => hal.block j hj) (fun _ _ h => h))
     have HNEW := Lib.hid hnew
     have HQ : Hid (w2.heap.size < (w2.alloc (.cells #[.string ⟨n1.toArray⟩, .string ⟨s1.toArray⟩] 47)).heap.size) := Lib.hid (by simp)
     have HF := Lib.hid (find_any acc n1 _ _ (DfAt.orw HO3.out (by omega)))
     clear hal hnew HB2 HBL2 HO2
     go_wp2_with fail
     refine HF.out.mono ?_
     rintro e w3 ⟨rfl, hb3⟩
     have HB4 := Lib.hid (HB3.out.trans (hb3.mono HB3.out.size))
     have HBL4 := Lib.hid (HB0.out.trans (HB4.out.mono HB0.out.size))
     have HO4 := Lib.hid (HO3.out.keep (W' := w3) (fun j _ hj => hb3.block j hj) (fun _ _ h => h))
     have hbx := (hb3.block _ HQ.out).trans HNEW.out
     have b0 : w3.cell? ⟨w2.heap.size, 0, none⟩ = some (.string ⟨n1.toArray⟩) := Lib.cell_of_heap hbx 0
     have b1 : w3.cell? ⟨w2.heap.size, 1, none⟩ = some (.string ⟨s1.toArray⟩) := Lib.cell_of_heap hbx 1
     clear hb3 hbx HB3 HO3 HF
     cases hfm : Lb.findM acc n1 with
     | some j =>
      rw [hfm, if_pos (by rfl)] at HR
      clear hfm
      dsimp only [Option.getD_some, Option.isSome_some]
      go_wp2_with fail
      go_ret3
      refine HEND.out _ _ HBL4.out ?_
      rw [← HR.out]
      rfl
     | none =>
      rw [hfm, if_neg (by simp)] at HR
      clear hfm
      dsimp only [Option.getD_none, Option.isSome_none]
      by_cases h40 : acc.length = 40
      ·rw [if_pos h40] at HR
       have z4 : ((acc.length : Int) == 40) = true := by rw [beq_iff_eq]; omega
       go_wp2_with fail
       go_ret3
       refine HEND.out _ _ HBL4.out ?_
       rw [← HR.out]
       rfl
      ·rw [if_neg h40] at HR
       have z4 : ((acc.length : Int) == 40) = false := by rw [beq_eq_false_iff_ne]; omega
       obtain ⟨cs, hown, hpush⟩ := HO4.out.cells
       have hBW : w0.heap.size ≤ w3.heap.size := HB4.out.size
       have HSZ2 : Hid (∀ i (h : i < (acc ++ [(n1, s1)]).length), (acc ++ [(n1, s1)])[i].1.length ≤ 20000 ∧ (acc ++ [(n1, s1)])[i].2.length ≤ 20000) := Lib.hid (fun i h => by
        by_cases e : i < acc.length
        ·rw [List.getElem_append_left e]; exact HSZ.out i e
        ·rw [List.getElem_append_right (by omega)]
         simp only [List.getElem_singleton]
         have := HDL.out
         exact ⟨by omega, by omega⟩)
       go_wp2_with (at_builtin; refine wpList_append_lies _ rfl _ _ 26 rfl w0.heap.size 47 i0 (.agg #[.string ⟨#[]⟩, .string ⟨#[]⟩]) 2 32 Tryz.underlying26 hi hz0 hz1 hz2 rfl (by decide) _ acc.length cs rfl (hown.alloc _) ⟨w3.heap.size, 0, none⟩ 1 1 [.string ⟨n1.toArray⟩, .string ⟨s1.toArray⟩] rfl rfl (World.news_of_block (heap_alloc_new w3 (.cells #[.string ⟨n1.toArray⟩, .string ⟨s1.toArray⟩] 47))) (by intro u hu; simp only [List.mem_cons, List.not_mem_nil, or_false] at hu; rcases hu with rfl | rfl <;> rfl) (by omega) (by unfold maxLen; omega) (by omega) (by simp; omega) _ rfl ?_; intro g6 cap6 w6 hown6 hgr6 hat6 hlt6; have HW6 := Lib.hid (push_below hgr6 hown hBW); have HO6 := Lib.hid (hpush DfR w6 ((n1, s1) : Lb.Def) [.string ⟨n1.toArray⟩, .string ⟨s1.toArray⟩] _ (fun _ _ h => h) rfl rfl (by omega) hown6); clear hown6 hgr6 hat6 hlt6 hown hpush)
       refine ⟨⟨k + 1, acc ++ [(n1, s1)], _, rfl, by go_num, by omega, by simp; omega, HR, HSZ2, HO6, Lib.hid (HB4.out.trans HW6.out)⟩, by simp [intOf]; omega⟩
  ·have z1 : decide ((k : Int) < (ls.length : Int)) = false := decide_eq_false (by omega)
   have y1 : decide (k < ls.length) = false := decide_eq_false hlt
   rw [List.drop_eq_nil_of_le (by omega), Lb.plM] at HR
   have HDF := Lib.hid (DfAt.orw HO.out (by omega))
   have HC := Lib.hid (HCK.out acc _ wr hacc HSZ.out (HK.out.below HBL.out) HDF.out)
   obtain ⟨va, vc, rfl, _⟩ := HDF.out
   go_wp2_with fail
   refine HC.out.mono ?_
   rintro e w3 ⟨rfl, hb3⟩
   have HB3 := Lib.hid (HBL.out.trans (hb3.mono HBL.out.size))
   have HD3 := Lib.hid (HDF.out.later hb3)
   clear hb3
   rcases Nat.eq_zero_or_pos (ck acc) with e0 | e0
   ·have hz : ((ck acc : Int) == 0) = true := by rw [beq_iff_eq]; omega
    have HE0 := Lib.hid e0
    clear e0
    go_wp2_with fail
    go_ret3
    refine HEND.out _ _ HB3.out ?_
    rw [← HR.out]
    dsimp only
    rw [if_pos HE0.out]
    exact ⟨_, rfl, HD3.out⟩
   ·have hz : ((ck acc : Int) == 0) = false := by rw [beq_eq_false_iff_ne]; omega
    have HE0 := Lib.hid e0
    clear e0
    go_wp2_with fail
    go_ret3
    refine HEND.out _ _ HB3.out ?_
    rw [← HR.out]
    dsimp only
    rw [if_neg (by have := HE0.out; omega)]
    rfl
end Go.Proofs.YtgcpinnnfoanjaaGreatDoor
namespace Go.Proofs.YtgcpinnnfoanjaaGreatDoor
open Go.RowKit
namespace Asc
def sp (c : UInt8) : Bool := isSpace c.toNat
theorem trim_seg (l : List UInt8) (a b : Nat) (hab : a ≤ b) (hb : b ≤ l.length) (h1 : ∀ j (hj : j < l.length), j < a → sp l[j] = true) (h2 : ∀ (hj : a < l.length), sp l[a] = false)
  (h3 : ∀ j (hj : j < l.length), b ≤ j → sp l[j] = true) (h4 : ∀ (h0 : a < b), sp (l[b - 1]'(by omega)) = false) : Lib.trimS l [32, 9] = seg l a b := by
 have hsp : ∀ c : UInt8, ([32, 9] : List UInt8).contains c = sp c := fun c => by
  unfold sp isSpace
  rw [Bool.eq_iff_iff]
  simp only [List.contains_eq_mem, List.mem_cons, List.not_mem_nil, or_false, decide_eq_true_iff]
  constructor
  ·rintro (rfl | rfl)
   ·exact .inl rfl
   ·exact .inr rfl
  ·rintro (h | h)
   ·exact .inl (UInt8.toNat_inj.1 h)
   ·exact .inr (UInt8.toNat_inj.1 h)
 unfold Lib.trimS
 rcases Nat.eq_zero_or_pos (b - a) with h0 | h0
 ·obtain rfl : a = b := by omega
  have hall : ∀ j (hj : j < l.length), sp l[j] = true := fun j hj => by
   rcases Nat.lt_or_ge j a with c | c
   ·exact h1 j hj c
   ·exact h3 j hj c
  rw [Lib.trimRightS_take l [32, 9] 0 (by omega) (fun j c _ hj => by
   obtain ⟨hj', rfl⟩ := List.getElem?_eq_some_iff.1 hj
   rw [hsp]; exact hall j hj') (fun c h => by omega), seg_same]
  rfl
 ·rw [Lib.trimRightS_take l [32, 9] b hb (fun j c hbj hj => by
   obtain ⟨hj', rfl⟩ := List.getElem?_eq_some_iff.1 hj
   rw [hsp]; exact h3 j hj' hbj) (fun c _ hc => by
   obtain ⟨hj, rfl⟩ := List.getElem?_eq_some_iff.1 hc
   rw [hsp]; exact h4 (by omega))]
  rw [Lib.trimLeftS_drop (l.take b) [32, 9] a (by rw [List.length_take]; omega) (fun j c hja hj => by
   rw [List.getElem?_take_of_lt (by omega)] at hj
   obtain ⟨hj', rfl⟩ := List.getElem?_eq_some_iff.1 hj
   rw [hsp]; exact h1 j hj' hja) (fun c hc => by
   rw [List.getElem?_take_of_lt (by omega)] at hc
   obtain ⟨hj, rfl⟩ := List.getElem?_eq_some_iff.1 hc
   rw [hsp]; exact h2 hj)]
  unfold seg
  rw [List.drop_take]
end Asc
set_option maxHeartbeats 2000000 in
theorem rtrim_any (l : List UInt8) (w : World) (hs : l.length ≤ 140737488351232) :
  Calls Tryz.prog 43 #[.string ⟨l.toArray⟩] w fun e w' => e = .returned (.string ⟨(Lib.trimS l [32, 9]).toArray⟩) ∧ w = w' := by
 have HF := Lib.hid (Asc.trim_seg l)
 generalize Lib.trimS l [32, 9] = R at *
 go_enter Tryz.func43, Tryz.ntmps43
 go_wp2_with fail
 go_loop [3] (fun i => ∃ k : Nat, k ≤ l.length ∧ i = .int .i64 k ∧ ∀ j (hj : j < l.length), j < k → Asc.sp l[j] = true) (fun i => l.length - (intOf i).toNat)
 case atStart => exact ⟨0, by omega, rfl, fun j _ h => by omega⟩
 case round =>
  obtain ⟨k, hk, rfl, hall⟩ := hrel
  have HA := Lib.hid hall
  clear hall
  have key : (k < l.length ∧ ∃ h : k < l.length, Asc.sp l[k] = true) ∨ (∀ h : k < l.length, Asc.sp l[k] = false) := by
   rcases Nat.lt_or_ge k l.length with c | c
   ·cases e : Asc.sp l[k]
    ·exact .inr fun _ => e
    ·exact .inl ⟨c, c, e⟩
   ·exact .inr fun h => by omega
  rcases key with ⟨hlt, _, hsp⟩ | hno
  ·obtain ⟨c, ⟨_, hx⟩, hc, hc2⟩ := byte_at l k hlt
   have hsc : Asc.isSpace c = true := by rw [← hc]; exact hsp
   have HS := Lib.hid (rspace_any c w hc2)
   rw [hsc] at HS
   have HC := Lib.hid hsp
   clear hc hsc hsp
   go_wp2_with (go_at_call 66; refine HS.out.mono ?_; rintro e w' ⟨rfl, rfl⟩)
   go_round
   case rel => exact ⟨k + 1, by omega, by go_num, fun j hj h => by rcases Nat.lt_or_ge j k with c | c; exact HA.out j hj c; (obtain rfl : j = k := by omega); exact HC.out⟩
   case measure => simp [intOf]; omega
  ·have HN := Lib.hid hno
   clear hno
   by_cases hlt : k < l.length
   ·obtain ⟨c, ⟨_, hx⟩, hc, hc2⟩ := byte_at l k hlt
    have hsc : Asc.isSpace c = false := by rw [← hc]; exact HN.out hlt
    have HS := Lib.hid (rspace_any c w hc2)
    rw [hsc] at HS
    clear hc hsc
    go_wp2_with (go_at_call 66; refine HS.out.mono ?_; rintro e w' ⟨rfl, rfl⟩)
    go_loop [4] (fun i => ∃ m : Nat, k ≤ m ∧ m ≤ l.length ∧ i = .int .i64 m ∧ ∀ j (hj : j < l.length), m ≤ j → Asc.sp l[j] = true) (fun i => (intOf i).toNat)
    case atStart => exact ⟨l.length, hk, Nat.le_refl _, rfl, fun j hj h => by omega⟩
    case round =>
     obtain ⟨m, hkm, hm, rfl, hall⟩ := hrel
     have HB := Lib.hid hall
     clear hall
     by_cases hgt : k < m
     ·obtain ⟨m, rfl⟩ : ∃ m', m = m' + 1 := ⟨m - 1, by omega⟩
      obtain ⟨d, ⟨_, hy⟩, hd, hd2⟩ := byte_at l m (by omega)
      have HS2 := Lib.hid (rspace_any d w hd2)
      have HD := Lib.hid hd
      clear hd
      cases hsp : Asc.isSpace d
      ·rw [hsp] at HS2
       have fin := Lib.hid (HF.out k (m + 1) hkm hm HA.out HN.out HB.out (fun _ => by show Asc.isSpace (l[m]).toNat = _; rw [HD.out]; exact hsp))
       clear hsp
       go_wp2_with (go_at_call 66; refine HS2.out.mono ?_; rintro e w' ⟨rfl, rfl⟩)
       go_ret
       exact ⟨by rw [fin.out, ← Asc.extract_seg]; rfl, rfl⟩
      ·rw [hsp] at HS2
       have HP := Lib.hid (show ∀ hj : m < l.length, Asc.sp l[m] = true from fun hj => by show Asc.isSpace (l[m]).toNat = _; rw [HD.out]; exact hsp)
       clear hsp
       go_wp2_with (go_at_call 66; refine HS2.out.mono ?_; rintro e w' ⟨rfl, rfl⟩)
       go_round
       case rel => exact ⟨m, by omega, by omega, by go_num, fun j hj h => by rcases Nat.lt_or_ge m j with c | c; exact HB.out j hj c; (obtain rfl : j = m := by omega); exact HP.out hj⟩
       case measure => simp [intOf]
     ·obtain rfl : m = k := by omega
      have fin := Lib.hid (HF.out m m (Nat.le_refl _) hm HA.out HN.out HB.out (fun h => by omega))
      go_wp2_with fail
      go_ret
      exact ⟨by rw [fin.out, Asc.seg_same]; rfl, rfl⟩
   ·go_wp2_with fail
    go_loop [4] (fun i => ∃ m : Nat, k ≤ m ∧ m ≤ l.length ∧ i = .int .i64 m) (fun i => (intOf i).toNat)
    case atStart => exact ⟨l.length, hk, Nat.le_refl _, rfl⟩
    case round =>
     obtain ⟨m, hkm, hm, rfl⟩ := hrel
     obtain rfl : m = k := by omega
     have fin := Lib.hid (HF.out m m (Nat.le_refl _) hm HA.out HN.out (fun j hj h => by omega) (fun h => by omega))
     go_wp2_with fail
     go_ret
     exact ⟨by rw [fin.out, Asc.seg_same]; rfl, rfl⟩
end Go.Proofs.YtgcpinnnfoanjaaGreatDoor
namespace Go.Proofs.YtgcpinnnfoanjaaGreatDoor
open Go.RowKit
namespace Lb
theorem sp_iff (c : UInt8) : spL.contains c = Asc.sp c := by
 unfold Asc.sp Asc.isSpace
 rw [Bool.eq_iff_iff]
 simp only [spL, List.contains_eq_mem, List.mem_cons, List.not_mem_nil, or_false, decide_eq_true_iff]
 constructor
 ·rintro (rfl | rfl)
  ·exact .inl rfl
  ·exact .inr rfl
 ·rintro (h | h)
  ·exact .inl (UInt8.toNat_inj.1 h)
  ·exact .inr (UInt8.toNat_inj.1 h)
theorem trim_last {s : List UInt8} {c : UInt8} (h : (Go.Lib.trimS s spL).getLast? = some c) : Asc.sp c = false := by
 unfold Go.Lib.trimS Go.Lib.trimLeftS Go.Lib.trimRightS at h
 obtain ⟨m, hm⟩ : ∃ m, (s.reverse.dropWhile (spL.contains ·)).reverse = m := ⟨_, rfl⟩
 have hl : ∀ x, m.getLast? = some x → Asc.sp x = false := fun x hx => by
  rw [← hm, List.getLast?_reverse] at hx
  have := List.head?_dropWhile_not (spL.contains ·) s.reverse
  rw [hx] at this
  simp only at this
  rw [← sp_iff]
  exact this
 rw [hm] at h
 have ha := List.takeWhile_append_dropWhile (p := (spL.contains ·)) (l := m)
 have hne : m.dropWhile (spL.contains ·) ≠ [] := by
  intro e
  rw [e] at h
  cases h
 apply hl
 rw [← ha, List.getLast?_append, h]
 rfl
theorem dw_nil {p : UInt8 → Bool} : ∀ {l : List UInt8}, l.dropWhile p = [] → ∀ x ∈ l, p x = true
 | [], _, _, hx => by cases hx
 | c :: t, h, x, hx => by
  cases hc : p c with
  | false => rw [List.dropWhile_cons_of_neg (by rw [hc]; decide)] at h; cases h
  | true =>
   rw [List.dropWhile_cons_of_pos hc] at h
   rcases List.mem_cons.1 hx with rfl | hx
   ·exact hc
   ·exact dw_nil h x hx
theorem trim_ne {l : List UInt8} {c : UInt8} (h : l.getLast? = some c) (hc : Asc.sp c = false) : Go.Lib.trimS l spL ≠ [] := by
 have hr : l.reverse.dropWhile (spL.contains ·) = l.reverse := by
  cases hq : l.reverse with
  | nil => rfl
  | cons x t =>
   have : x = c := by
    rw [← List.head?_reverse, hq] at h
    exact Option.some.inj h
   rw [List.dropWhile_cons_of_neg]
   rw [this, sp_iff, hc]
   decide
 unfold Go.Lib.trimS Go.Lib.trimLeftS Go.Lib.trimRightS
 rw [hr, List.reverse_reverse]
 intro e
 have := dw_nil e c (List.mem_of_getLast? h)
 rw [sp_iff, hc] at this
 cases this
theorem trim_nil : Go.Lib.trimS [] spL = [] := rfl
def blk (t : List UInt8) : Nat := t.findIdx Asc.sp
noncomputable def lineR (t : List UInt8) : Option Def := if nmB (t.take (blk t)) = true ∧ Go.Lib.trimS (t.drop (blk t)) spL ≠ [] then some (t.take (blk t), Go.Lib.trimS (t.drop (blk t)) spL) else none
theorem word_sp {c : UInt8} (h : Asc.isWord c.toNat = true) : Asc.sp c = false := by
 have := (word_firm h).1
 unfold firm at this
 rw [← sp_iff]
 simp only [spL, List.contains_cons, List.contains_nil, Bool.or_false, Bool.or_eq_false_iff, beq_eq_false_iff_ne]
 exact this
theorem sp_word {c : UInt8} (h : Asc.sp c = true) : Asc.isWord c.toNat = false := by
 cases hw : Asc.isWord c.toNat with
 | false => rfl
 | true => rw [word_sp hw] at h; cases h
theorem sp_mem {c : UInt8} : Asc.sp c = true ↔ some c ∈ ([some 32, some 9] : List (Option UInt8)) := by
 rw [← sp_iff]
 simp [spL]
theorem line_ref (s : List UInt8) : lineM s = if Go.Lib.trimS s spL = [] ∨ (Go.Lib.trimS s spL).head? = some 35 then .ok none else match lineR (Go.Lib.trimS s spL) with
  | none => .error 1
  | some d => .ok (some d) := by
 have hlast := fun c (h : (Go.Lib.trimS s spL).getLast? = some c) => trim_last h
 unfold lineM
 obtain ⟨t, ht⟩ : ∃ t, Go.Lib.trimS s spL = t := ⟨_, rfl⟩
 rw [ht] at hlast ⊢
 by_cases h0 : t = [] ∨ t.head? = some 35
 ·rw [if_pos h0, if_pos h0]
 ·rw [if_neg h0, if_neg h0]
  have hne : t ≠ [] := fun e => h0 (.inl e)
  by_cases hp : nlen t = 0 ∨ t.length ≤ nlen t ∨ ¬ (t.drop (nlen t)).head? ∈ ([some 32, some 9] : List (Option UInt8))
  ·rw [if_pos hp]
   have : lineR t = none := by
    unfold lineR
    rw [if_neg]
    rintro ⟨h1, h2⟩
    have hn := nmB_ok h1
    have hb : blk t < t.length := by
     rcases Nat.lt_or_ge (blk t) t.length with c | c
     ·exact c
     ·rw [List.drop_eq_nil_of_le c] at h2
      exact absurd trim_nil h2
    have hs : Asc.sp t[blk t] = true := List.findIdx_getElem (w := hb)
    have e : t = t.take (blk t) ++ t[blk t] :: t.drop (blk t + 1) := by
     rw [← List.drop_eq_getElem_cons hb, List.take_append_drop]
    have hnl : nlen t = blk t := by
     have h3 := nlen_stop (n := t.take (blk t)) (r := t.drop (blk t + 1)) (c := t[blk t]) hn (sp_word hs)
     rw [← e, List.length_take] at h3
     omega
    have hpos := hn.1
    rw [List.length_take] at hpos
    rcases hp with h | h | h
    ·omega
    ·omega
    ·rw [hnl, List.drop_eq_getElem_cons hb] at h
     exact h (sp_mem.1 hs)
   rw [this]
  ·rw [if_neg hp]
   simp only [not_or, Decidable.not_not] at hp
   obtain ⟨h1, h2, h3⟩ := hp
   have hlt : nlen t < t.length := by omega
   have hn := nlen_nm (q := t) (by omega)
   rw [List.drop_eq_getElem_cons hlt] at h3
   have hs := sp_mem.2 h3
   have hb : blk t = nlen t := by
    unfold blk
    rw [List.findIdx_eq hlt]
    refine ⟨hs, fun j hj => word_sp ?_⟩
    have := nlen_word (q := t) t[j] (by
     rw [List.mem_take_iff_getElem]
     exact ⟨j, by omega, rfl⟩)
    exact this
   have hl : ∃ c, (t.drop (nlen t)).getLast? = some c ∧ Asc.sp c = false := by
    have e : t.getLast? = (t.drop (nlen t)).getLast? := by
     conv => lhs; rw [← List.take_append_drop (nlen t) t]
     rw [List.getLast?_append]
     cases hq : (t.drop (nlen t)).getLast? with
     | some x => rfl
     | none =>
      have := congrArg List.length (List.getLast?_eq_none_iff.1 hq)
      rw [List.length_drop, List.length_nil] at this
      omega
    cases hq : t.getLast? with
    | none => exact absurd (List.getLast?_eq_none_iff.1 hq) hne
    | some c => exact ⟨c, by rw [← e, hq], hlast c hq⟩
   obtain ⟨c, hc1, hc2⟩ := hl
   have : lineR t = some (t.take (nlen t), Go.Lib.trimS (t.drop (nlen t)) spL) := by
    unfold lineR
    rw [hb, if_pos ⟨nmB_yes hn, trim_ne hc1 hc2⟩]
   rw [this]
end Lb
end Go.Proofs.YtgcpinnnfoanjaaGreatDoor
namespace Go.Proofs.YtgcpinnnfoanjaaGreatDoor
open Go.RowKit
namespace Lb
theorem index_none (c : UInt8) : ∀ l : List UInt8, c ∉ l → Go.Lib.index l [c] = -1
 | [], _ => rfl
 | x :: a, h => by
  have hx : c ≠ x := fun e => h (by rw [e]; simp)
  have ih := index_none c a (fun e => h (List.mem_cons_of_mem _ e))
  rw [Go.Lib.index, if_neg (by simp [List.isPrefixOf, hx]), ih]
  rfl
theorem split_miss {s : List UInt8} (h : Go.Lib.index s [10] = -1) : Go.Lib.split s [10] = [s] := by
 unfold Go.Lib.split
 cases Go.Lib.count s [10] with
 | zero => rfl
 | succ k => rw [Go.Lib.splitK, h]; rfl
theorem split_cut (s : List UInt8) : Go.Lib.split s [10] = Asc.cutA s 10 :: (if Asc.has s 10 = true then Go.Lib.split (Asc.cutB s 10) [10] else []) := by
 by_cases h : Asc.pos s 10 < s.length
 ·have e : s = s.take (Asc.pos s 10) ++ 10 :: s.drop (Asc.pos s 10 + 1) := by
   conv => lhs; rw [← List.take_append_drop (Asc.pos s 10) s, List.drop_eq_getElem_cons h, Asc.pos_at h]
  have hn : (10 : UInt8) ∉ s.take (Asc.pos s 10) := by
   intro hm
   rw [List.mem_take_iff_getElem] at hm
   obtain ⟨i, hi, e⟩ := hm
   exact Asc.pos_before (by omega) (by omega) e
  have hh : Asc.has s 10 = true := by unfold Asc.has; exact decide_eq_true h
  rw [if_pos hh]
  conv => lhs; rw [e]
  rw [split_line _ _ hn]
  rfl
 ·have hn : (10 : UInt8) ∉ s := by
   intro hm
   obtain ⟨i, hi, e⟩ := List.mem_iff_getElem.1 hm
   exact Asc.pos_before (l := s) (c := 10) (i := i) (by omega) hi e
  have hh : ¬ Asc.has s 10 = true := by unfold Asc.has; rw [decide_eq_true_iff]; exact h
  rw [if_neg hh, split_miss (index_none 10 s hn), (Asc.cutA_none h).1]
theorem pl_step {rest : List UInt8} {n : Nat} {acc : List Def} {R : Except (Nat × Nat) (List Def)} (h : plM (Go.Lib.split rest [10]) n acc = R) {t : List UInt8} (ht : Go.Lib.trimS (Asc.cutA rest 10) spL = t) {b : Bool} (hb : Asc.has rest 10 = b) {q : List UInt8} (hq : Asc.cutB rest 10 = q) :
  (t = [] ∨ t.head? = some 35 → plM (if b = true then Go.Lib.split q [10] else []) (n + 1) acc = R) ∧
  (¬ (t = [] ∨ t.head? = some 35) → (lineR t = none → R = .error (n + 1, 1)) ∧ ∀ d, lineR t = some d → (∀ j, findM acc d.1 = some j → R = .error (n + 1, 7)) ∧ (findM acc d.1 = none → (acc.length = 40 → R = .error (n + 1, 4)) ∧ (acc.length ≠ 40 → plM (if b = true then Go.Lib.split q [10] else []) (n + 1) (acc ++ [d]) = R))) := by
 rw [split_cut, hb, hq, plM, line_ref, ht] at h
 refine ⟨fun h0 => ?_, fun h0 => ⟨fun h1 => ?_, fun d h1 => ⟨fun j h2 => ?_, fun h2 => ⟨fun h3 => ?_, fun h3 => ?_⟩⟩⟩⟩
 ·rw [if_pos h0] at h
  exact h
 ·rw [if_neg h0, h1] at h
  exact h.symm
 ·rw [if_neg h0, h1] at h
  simp only [h2, Option.isSome_some, if_true] at h
  exact h.symm
 ·rw [if_neg h0, h1] at h
  simp only [h2, Option.isSome_none, Bool.false_eq_true, if_false, if_pos h3] at h
  exact h.symm
 ·rw [if_neg h0, h1] at h
  simp only [h2, Option.isSome_none, Bool.false_eq_true, if_false, if_neg h3] at h
  exact h
end Lb
end Go.Proofs.YtgcpinnnfoanjaaGreatDoor

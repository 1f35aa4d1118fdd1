/-
 Joined: PatH, PatHa, PatHb, PatI, PatJ.
-/
import Derived.Test.YtmpbjaodgajnfaaGreatDoorEhB
import Derived.Test.YtmpbjaodgajnfaaGreatDoorEhD
import Derived.BigQuiet
namespace Go.Proofs.YtmpbjaodgajnfaaGreatDoor
open Go.RowKit
noncomputable def badR (mn mx : Int) : Bool := decide (mn < 0 ∨ 40 < mn ∨ (mx ≠ -1 ∧ (mx < mn ∨ 40 < mx)))
noncomputable def shE (op : Int) (rs : List (UInt8 × UInt8)) (nm : List UInt8) (n : Nat) (mn mx : Int) : Nat :=
 if shpB op rs nm n mn mx = false then 1 else if op = 5 ∧ nmB nm = false then 6 else if op = 4 ∧ badR mn mx = true then 2 else 0
theorem shp_1 (rs : List (UInt8 × UInt8)) (nm : List UInt8) (n : Nat) (mn mx : Int) : shpB 1 rs nm n mn mx = (decide (n = 0) && (srtB rs && bareB 1 rs nm mn mx)) := by unfold shpB bareB; simp
theorem shp_3 (rs : List (UInt8 × UInt8)) (nm : List UInt8) (n : Nat) (mn mx : Int) : shpB 3 rs nm n mn mx = (decide (2 ≤ n) && bareB 3 rs nm mn mx) := by unfold shpB bareB; simp
theorem shp_4 (rs : List (UInt8 × UInt8)) (nm : List UInt8) (n : Nat) (mn mx : Int) : shpB 4 rs nm n mn mx = (decide (n = 1) && bareB 4 rs nm mn mx) := by unfold shpB bareB; simp
theorem shp_5 (rs : List (UInt8 × UInt8)) (nm : List UInt8) (n : Nat) (mn mx : Int) : shpB 5 rs nm n mn mx = (decide (n = 1) && bareB 5 rs nm mn mx) := by unfold shpB bareB; simp
end Go.Proofs.YtmpbjaodgajnfaaGreatDoor
namespace Go.Proofs.YtmpbjaodgajnfaaGreatDoor
open Go.RowKit
end Go.Proofs.YtmpbjaodgajnfaaGreatDoor
namespace Go.Proofs.YtmpbjaodgajnfaaGreatDoor
open Go.RowKit
end Go.Proofs.YtmpbjaodgajnfaaGreatDoor
namespace Go.Proofs.YtmpbjaodgajnfaaGreatDoor
open Go.RowKit
end Go.Proofs.YtmpbjaodgajnfaaGreatDoor
namespace Go.Proofs.YtmpbjaodgajnfaaGreatDoor
open Go.RowKit
mutual
noncomputable def ckN : NT → Nat → Nat → List (List UInt8) → Nat × List (List UInt8) × Nat
 | .node op rs nm ks mn mx, d, c, ns =>
  if 400 < c + 1 then (c + 1, ns, 4) else if 20 < d then (c + 1, ns, 5)
  else if shE op rs nm ks.length mn mx ≠ 0 then (c + 1, ns, shE op rs nm ks.length mn mx)
  else ckNs ks (d + 1) (c + 1) (if op = 5 then ns ++ [nm] else ns)
noncomputable def ckNs : List NT → Nat → Nat → List (List UInt8) → Nat × List (List UInt8) × Nat
 | [], _, c, ns => (c, ns, 0)
 | k :: ks, d, c, ns => if (ckN k d c ns).2.2 ≠ 0 then ckN k d c ns else ckNs ks d (ckN k d c ns).1 (ckN k d c ns).2.1
end
theorem ckNs_step {kids : List NT} {k : Nat} (h : k < kids.length) (d c : Nat) (ns : List (List UInt8)) : ckNs (kids.drop k) d c ns = if (ckN kids[k] d c ns).2.2 ≠ 0 then ckN kids[k] d c ns else ckNs (kids.drop (k + 1)) d (ckN kids[k] d c ns).1 (ckN kids[k] d c ns).2.1 := by
 rw [List.drop_eq_getElem_cons h, ckNs]
def CkOk (r : Nat × List (List UInt8) × Nat) : Prop := r.1 ≤ 401 ∧ r.2.1.length ≤ r.1 ∧ (r.2.2 = 0 → r.1 ≤ 400) ∧ r.2.2 ≤ 7
theorem shE_le (op : Int) (rs : List (UInt8 × UInt8)) (nm : List UInt8) (n : Nat) (mn mx : Int) : shE op rs nm n mn mx ≤ 7 := by
 unfold shE
 split
 ·decide
 ·split
  ·decide
  ·split <;> decide
theorem ckN_ok (N : Nat) : ∀ (t : NT) (d c : Nat) (ns : List (List UInt8)), SizeOf.sizeOf t < N → c ≤ 400 → ns.length ≤ c → CkOk (ckN t d c ns) := by
 induction N with
 | zero => intro t _ _ _ h; omega
 | succ N ih =>
  intro t d c ns h hc hn
  obtain ⟨op, rs, nm, kids, mn, mx⟩ := t
  rw [ckN]
  split
  ·exact ⟨by simp; omega, by simp; omega, fun e => by simp at e, by simp⟩
  ·split
   ·exact ⟨by simp; omega, by simp; omega, fun e => by simp at e, by simp⟩
   ·split
    ·next h3 => exact ⟨by simp; omega, by simp; omega, fun e => absurd e h3, shE_le _ _ _ _ _ _⟩
    ·have key : ∀ ks : List NT, (∀ k ∈ ks, SizeOf.sizeOf k < N) → ∀ c ns, c ≤ 400 → List.length ns ≤ c → CkOk (ckNs ks (d + 1) c ns) := by
      intro ks
      induction ks with
      | nil => intro _ c ns hc hn; rw [ckNs]; exact ⟨by simp; omega, hn, fun _ => hc, by simp⟩
      | cons k ks ihk =>
       intro hk c ns hc hn
       rw [ckNs]
       have h1 := ih k (d + 1) c ns (hk k (by simp)) hc hn
       split
       ·exact h1
       ·next h2 =>
        have h2' : (ckN k (d + 1) c ns).2.2 = 0 := by simpa using h2
        exact ihk (fun x hx => hk x (List.mem_cons_of_mem _ hx)) _ _ (h1.2.2.1 h2') h1.2.1
     refine key kids (fun k hk => ?_) _ _ (by omega) ?_
     ·have := List.sizeOf_lt_of_mem hk
      simp at h
      omega
     ·split
      ·simp; omega
      ·omega
structure CF (X : Nat → Prop) (v v' : Value) (w w' : World) : Prop where
 size : w.heap.size ≤ w'.heap.size
 keep : ∀ k, k < w.heap.size → ¬ X k → v.ownBlock ≠ some k → w'.heap[k]? = w.heap[k]?
 own : ∀ k, v'.ownBlock = some k → v.ownBlock = some k ∨ w.heap.size ≤ k
theorem CF.refl (X : Nat → Prop) (v : Value) (w : World) : CF X v v w w := ⟨Nat.le_refl _, fun _ _ _ _ => rfl, fun _ h => .inl h⟩
theorem CF.trans {X : Nat → Prop} {v v' v'' : Value} {a b c : World} (h : CF X v v' a b) (k : CF X v' v'' b c) : CF X v v'' a c :=
 ⟨Nat.le_trans h.size k.size, fun i hi hx hv => (k.keep i (Nat.lt_of_lt_of_le hi h.size) hx (fun e => (h.own i e).elim hv (fun h => by omega))).trans (h.keep i hi hx hv),
  fun i hi => (k.own i hi).elim (fun e => h.own i e) (fun e => .inr (Nat.le_trans h.size e))⟩
theorem CF.of_below {X : Nat → Prop} {v : Value} {w w' : World} (h : Below w.heap.size w w') : CF X v v w w' := ⟨h.size, fun k hk _ _ => h.block k hk, fun _ h => .inl h⟩
theorem CF.set {X : Nat → Prop} {v : Value} {w : World} {g : Nat} (hg : X g) (i : Nat) (u : Value) : CF X v v w (w.setCell ⟨g, i, none⟩ u) :=
 ⟨by simp, fun k _ hx _ => Below.heap_setCell _ _ _ k (by intro e; exact hx (e ▸ hg)), fun _ h => .inl h⟩
theorem CF.push {X : Nat → Prop} {v : Value} {w w' : World} {o : Obj} {g n cap H : Nat} (hgr : (w.alloc o).grownBy w' v.ownBlock) (hat : v.ownBlock = some g ∨ g = H) (hH : H = (w.alloc o).heap.size) : CF X v (.slice (some ⟨g, 0, none⟩) n cap) w w' :=
 ⟨Nat.le_trans (by simp) hgr.size, fun k hk _ hv => (hgr.block k (by simp; omega) (fun e => hv e.symm)).trans (((Below.refl _ w).alloc (Nat.le_refl _) o).block k hk), fun k hk => by
  simp only [Value.ownBlock, Option.some.injEq] at hk
  subst hk
  refine hat.imp id (fun e => ?_)
  rw [e, hH]
  simp⟩
structure CK (g : Nat) (c : Nat) (ns : List (List UInt8)) (v : Value) (w : World) : Prop where
 lt : g < w.heap.size
 c0 : w.cell? ⟨g, 0, none⟩ = some (.int .i64 c)
 c1 : w.cell? ⟨g, 1, none⟩ = some v
 f0 : w.frozen? ⟨g, 0, none⟩ = false
 f1 : w.frozen? ⟨g, 1, none⟩ = false
 row : w.ownsRow (g + 1) 9 1 v ns.length (strCellsL ns)
theorem own_at {w w' : World} {B E s n : Nat} {v : Value} {xs : List Value} (h : w.ownsRow B E s v n xs) (hb : ∀ k, v.ownBlock = some k → w'.heap[k]? = w.heap[k]?) : w'.ownsRow B E s v n xs := by
 obtain ⟨h1, h2⟩ := h
 refine ⟨h1, h2.imp id ?_⟩
 rintro ⟨g, cap, cur, rfl, hB, hg, rest⟩
 exact ⟨g, cap, cur, rfl, hB, (hb g rfl).trans hg, rest⟩
theorem CK.below {g c : Nat} {ns : List (List UInt8)} {v : Value} {w w' : World} (h : CK g c ns v w) (hb : Below w.heap.size w w') : CK g c ns v w' :=
 ⟨Nat.lt_of_lt_of_le h.lt hb.size, (hb.cell (p := ⟨g, 0, none⟩) h.lt).trans h.c0, (hb.cell (p := ⟨g, 1, none⟩) h.lt).trans h.c1, (hb.frozen (p := ⟨g, 0, none⟩) h.lt).trans h.f0, (hb.frozen (p := ⟨g, 1, none⟩) h.lt).trans h.f1, own_at h.row fun k hk => hb.block k (h.row.lt k hk).2⟩
theorem CK.count {g c : Nat} {ns : List (List UInt8)} {v : Value} {w : World} (h : CK g c ns v w) (c' : Nat) : CK g c' ns v (w.setCell ⟨g, 0, none⟩ (.int .i64 c')) :=
 ⟨by simpa using h.lt, World.cell?_setCell_same _ _ _ h.c0, by rw [World.cell?_setCell_other _ _ _ _ (by intro e; simp only [Addr.mk.injEq] at e; omega)]; exact h.c1, by rw [World.frozen?_setCell]; exact h.f0, by rw [World.frozen?_setCell]; exact h.f1,
  own_at h.row fun k hk => Below.heap_setCell _ _ _ k (by have := (h.row.lt k hk).1; simp; omega)⟩
theorem CK.push {g c : Nat} {ns : List (List UInt8)} {v : Value} {w w' : World} {o : Obj} {q cap : Nat} (h : CK g c ns v w) (hgr : (w.alloc o).grownBy w' v.ownBlock) (nm : List UInt8)
  (ho : w'.ownsRow (g + 1) 9 1 (.slice (some ⟨q, 0, none⟩) (ns.length + 1) cap) (ns.length + 1) (strCellsL ns ++ [.string ⟨nm.toArray⟩])) :
  CK g c (ns ++ [nm]) (.slice (some ⟨q, 0, none⟩) (ns.length + 1) cap) (w'.setCell ⟨g, 1, none⟩ (.slice (some ⟨q, 0, none⟩) (ns.length + 1) cap)) ∧ w'.cell? ⟨g, 1, none⟩ = some v ∧ w'.frozen? ⟨g, 1, none⟩ = false := by
 have hl := h.lt
 have hb : w'.heap[g]? = w.heap[g]? := (hgr.block g (by simp; omega) (fun e => by have := (h.row.lt g e.symm).1; omega)).trans (((Below.refl _ w).alloc (Nat.le_refl _) o).block g hl)
 have hc : ∀ i, w'.cell? ⟨g, i, none⟩ = w.cell? ⟨g, i, none⟩ := fun i => World.cell?_of_block (a := ⟨g, i, none⟩) hb
 have hf : ∀ i, w'.frozen? ⟨g, i, none⟩ = w.frozen? ⟨g, i, none⟩ := fun i => World.frozen?_of_block (a := ⟨g, i, none⟩) hb
 have hs : w.heap.size ≤ w'.heap.size := Nat.le_trans (by simp) hgr.size
 refine ⟨⟨by simp; omega, ?_, World.cell?_setCell_same _ _ _ ((hc 1).trans h.c1), by rw [World.frozen?_setCell]; exact (hf 0).trans h.f0, by rw [World.frozen?_setCell]; exact (hf 1).trans h.f1, ?_⟩, (hc 1).trans h.c1, (hf 1).trans h.f1⟩
 ·rw [World.cell?_setCell_other _ _ _ _ (by intro e; simp only [Addr.mk.injEq] at e; omega)]
  exact (hc 0).trans h.c0
 ·have : (ns ++ [nm]).length = ns.length + 1 := by simp
  rw [this, show strCellsL (ns ++ [nm]) = strCellsL ns ++ [.string ⟨nm.toArray⟩] by simp [strCellsL]]
  exact own_at ho fun k hk => Below.heap_setCell _ _ _ k (by have := (ho.lt k hk).1; simp; omega)
end Go.Proofs.YtmpbjaodgajnfaaGreatDoor

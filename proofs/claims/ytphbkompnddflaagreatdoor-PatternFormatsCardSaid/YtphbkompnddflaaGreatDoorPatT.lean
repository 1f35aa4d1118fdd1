/-
  The generator spoils a node.
-/
import Derived.Test.YtphbkompnddflaaGreatDoorPatS
namespace Go.Proofs.YtphbkompnddflaaGreatDoor
open Go.RowKit

/-- Where the walk stands once the kids are copied. -/
structure ST (F0 : Nat → Prop) (g : Nat) (w : World) (op : Int) (ra : Option Addr) (rc : Nat) (nm : List UInt8) (a1 : Option Addr) (c1 : Nat) (mn mx : Int) (rs : List (UInt8 × UInt8)) (kids : List NT) (W : World) : Prop where
  sn : SN g w (nE op ra rs.length rc nm a1 kids.length c1 mn mx) W
  row : OR (w.heap.size + 2) 25 6 (KR (FO F0 w) W) W kids (.slice a1 kids.length c1)
  rg : RW (FO F0 w) 2 RgR W rs (.slice ra rs.length rc)
  h0 : ∀ k, F0 k → k ≠ g
section
variable {F0 : Nat → Prop} {g : Nat} {w W W' : World} {op : Int} {ra : Option Addr} {rc : Nat} {nm : List UInt8} {a1 : Option Addr} {c1 : Nat} {mn mx : Int} {rs : List (UInt8 × UInt8)} {kids : List NT}
theorem ST.old (h : ST F0 g w op ra rc nm a1 c1 mn mx rs kids W) (hs : W.heap.size ≤ W'.heap.size) (hk : ∀ k, k < w.heap.size → k ≠ g → W'.heap[k]? = W.heap[k]?) : Stay (FO F0 w) (FO F0 w) W W' := ⟨hs, fun k hf _ => ⟨hf, hk k hf.2 (h.h0 k hf.1)⟩⟩
theorem ST.go (h : ST F0 g w op ra rc nm a1 c1 mn mx rs kids W) (ha : Apart g W W') (hc : CodesAt W' g) : ST F0 g w op ra rc nm a1 c1 mn mx rs kids W' := by
  have hsz := h.sn.sz
  have hS := h.old ha.1.size (fun k h1 h2 => ha.block h2 (by omega))
  exact ⟨h.sn.go ha hc, h.row.keep (fun j h1 h2 => ha.block (by have := h.sn.gd.hg; omega) h2) (fun _ _ hx => NG.go hS _ _ hx), h.rg.go hS (fun _ _ hx => hx), h.h0⟩
theorem ST.al (h : ST F0 g w op ra rc nm a1 c1 mn mx rs kids W) (o : Obj) : ST F0 g w op ra rc nm a1 c1 mn mx rs kids (W.alloc o) := h.go (Apart.of_below ((Below.refl _ W).alloc (Nat.le_refl _) o) h.sn.gd.codes.1) (h.sn.gd.al o).codes
theorem ST.dr (h : ST F0 g w op ra rc nm a1 c1 mn mx rs kids W) : ST F0 g w op ra rc nm a1 c1 mn mx rs kids W.drew := h.go (Apart.of_below (Below.refl _ W).drew h.sn.gd.codes.1) h.sn.gd.dr.codes
/-- The kids and the ranges, whatever is stored into the node's box. -/
theorem ST.krow (h : ST F0 g w op ra rc nm a1 c1 mn mx rs kids W) (hs : W.heap.size ≤ W'.heap.size) (hk : ∀ k, k < W.heap.size → k ≠ w.heap.size → k ≠ w.heap.size + 1 → k ≠ g → W'.heap[k]? = W.heap[k]?) : RW (FA F0 w) 6 (KR (FA F0 w) W') W' kids (.slice a1 kids.length c1) := by
  have hsz := h.sn.sz
  have hg := h.sn.gd.hg
  have hS : Stay (FA F0 w) (FA F0 w) W W' := ⟨hs, fun k hf hl => ⟨hf, hk k hl (by rcases hf with h | h <;> omega) (by rcases hf with h | h <;> omega) (by rcases hf with h1 | h1; exact h.h0 k h1.1; omega)⟩⟩
  exact ((h.row.rw (F := FA F0 w) (fun b hb => .inr hb)).go hS (fun _ _ hx => NG.go ⟨hs, fun k hf hl => ⟨.inl hf, (hS.2 k (.inl hf) hl).2⟩⟩ _ _ hx))
theorem ST.rrow (h : ST F0 g w op ra rc nm a1 c1 mn mx rs kids W) (hs : W.heap.size ≤ W'.heap.size) (hk : ∀ k, k < W.heap.size → k ≠ w.heap.size → k ≠ w.heap.size + 1 → k ≠ g → W'.heap[k]? = W.heap[k]?) : RW (FA F0 w) 2 RgR W' rs (.slice ra rs.length rc) := by
  have hsz := h.sn.sz
  exact h.rg.go ⟨hs, fun k hf hl => ⟨.inl hf, hk k hl (by have := hf.2; omega) (by have := hf.2; omega) (h.h0 k hf.1)⟩⟩ (fun _ _ hx => hx)
end
theorem set_keep {b : Nat} (W : World) (i : Nat) (v : Value) : W.heap.size ≤ (W.setCell ⟨b, i, none⟩ v).heap.size ∧ ∀ k, k ≠ b → (W.setCell ⟨b, i, none⟩ v).heap[k]? = W.heap[k]? := ⟨by simp, fun k hk => Below.heap_setCell _ _ _ k (by simpa using hk)⟩
theorem st_start {F0 : Nat → Prop} {g : Nat} {w W0 w1 : World} {op : Int} {ra : Option Addr} {rc : Nat} {nm : List UInt8} {a a1 : Option Addr} {c c1 n : Nat} {mn mx : Int} {rs : List (UInt8 × UInt8)} {kids : List NT} (h0 : ∀ k, F0 k → k ≠ g) (hS : SN g w (nE op ra rs.length rc nm a n c mn mx) w1)
    (hor : OR (w.heap.size + 2) 25 6 (KR (FO F0 w) W0) w1 kids (.slice a1 kids.length c1)) (hrg : RW (FO F0 w) 2 RgR W0 rs (.slice ra rs.length rc)) (hb : Below (w.heap.size + 2) W0 w1) :
    ST F0 g w op ra rc nm a1 c1 mn mx rs kids (w1.setCell ⟨w.heap.size, 3, none⟩ (.slice a1 kids.length c1)) := by
  have hk := set_keep (b := w.heap.size) w1 3 (.slice a1 kids.length c1)
  have hS1 : Stay (FO F0 w) (FO F0 w) W0 (w1.setCell ⟨w.heap.size, 3, none⟩ (.slice a1 kids.length c1)) := ⟨Nat.le_trans hb.size hk.1, fun k hf _ => ⟨hf, (hk.2 k (by have := hf.2; omega)).trans (hb.block k (by have := hf.2; omega))⟩⟩
  refine ⟨hS.set 3 (by omega) _ (below6 rfl rfl rfl rfl rfl rfl), (hor.own (fun j hj => hk.2 j (by have := (hor.lt hj).1; omega)) (fun x us hx => NG.go hS1 _ _ hx) _ (Nat.le_refl _)), hrg.go hS1 (fun _ _ h => h), h0⟩

theorem OR.elem {α : Type} {B : Nat} {e : TypeId} {k : Nat} {R : α → List Value → Prop} {W : World} {xs : List α} {v : Value} (h : OR B e k R W xs v) (i : Nat) (hi : i < xs.length) :
    ∃ q c, v = .slice (some ⟨q, 0, none⟩) xs.length c ∧ B ≤ q ∧ q < W.heap.size ∧ (∀ j, W.frozen? ⟨q, j, none⟩ = false) ∧ ∃ us : List Value, us.length = k ∧ (∀ j, j < k → W.cell? ⟨q, i * k + j, none⟩ = us[j]?) ∧ R xs[i] us := by
  obtain ⟨a', c', e', _, hr⟩ := h.rw (F := fun _ => True) (fun _ _ => trivial)
  obtain ⟨blk, off, e1, hl, _, hc⟩ := hr (by omega)
  obtain ⟨us, hu, hcell, hR⟩ := hc i hi
  subst e'
  obtain ⟨⟨uss, hlen, hel, _, h0 | ⟨g, cap, cur, e2, hB, hg, hrest⟩⟩, hsz⟩ := h
  · omega
  · subst e1
    injection e2 with e3 e4 e5
    injection e3 with e3
    injection e3 with e6 e7
    subst e6 e7
    exact ⟨_, _, rfl, hB, hl, fun j => Lib.frozen_of_heap hg j, us, hu, fun j hj => by have := hcell j hj; rwa [Nat.zero_add] at this, hR⟩
theorem nest6i (W : World) {b i : Nat} {v0 v1 v2 v3 v4 v5 : Value} : ((((((W.setCell ⟨b, i, none⟩ v0).setCell ⟨b, i + 1, none⟩ v1).setCell ⟨b, i + 2, none⟩ v2).setCell ⟨b, i + 3, none⟩ v3).setCell ⟨b, i + 4, none⟩ v4).setCell ⟨b, i + 5, none⟩ v5) = setL W b [v0, v1, v2, v3, v4, v5] i := rfl
section
variable {F0 : Nat → Prop} {g : Nat} {w W W' w6 : World} {op : Int} {ra : Option Addr} {rc : Nat} {nm : List UInt8} {a1 : Option Addr} {c1 : Nat} {mn mx : Int} {rs : List (UInt8 × UInt8)} {kids : List NT}
/-- A zero node behind the kids. -/
theorem st_push (h : ST F0 g w op ra rc nm a1 c1 mn mx rs kids W) {o : Obj} {cs us : List Value} {g' cap : Nat} (hown : W.ownsRow (w.heap.size + 2) 25 6 (.slice a1 kids.length c1) kids.length cs)
    (hpush : ∀ (R' : NT → List Value → Prop) (W' : World) (x : NT) (us : List Value) (v' : Value), (∀ x us, KR (FO F0 w) W x us → R' x us) → us.length = 6 → R' x us → kids.length + 1 ≤ 1000000 → W'.ownsRow (w.heap.size + 2) 25 6 v' (kids.length + 1) (cs ++ us) → OR (w.heap.size + 2) 25 6 R' W' (kids ++ [x]) v')
    (hl : kids.length + 1 ≤ 1000000) (hgr : (W.alloc o).grownBy w6 (Value.slice a1 kids.length c1).ownBlock) (hus : us = [.int .i64 0, .slice none 0 0, .string ⟨#[]⟩, .slice none 0 0, .int .i64 0, .int .i64 0])
    (ho : w6.ownsRow (w.heap.size + 2) 25 6 (.slice (some ⟨g', 0, none⟩) (kids.length + 1) cap) (kids.length + 1) (cs ++ us)) (hW : w6.setCell ⟨w.heap.size, 3, none⟩ (.slice (some ⟨g', 0, none⟩) (kids.length + 1) cap) = W') :
    SN g w (nE op ra rs.length rc nm (some ⟨g', 0, none⟩) (kids.length + 1) cap mn mx) W' ∧ RW (FA F0 w) 6 (KR (FA F0 w) W') W' (kids ++ [.node 0 [] [] [] 0 0]) (.slice (some ⟨g', 0, none⟩) (kids.length + 1) cap) ∧ RW (FA F0 w) 2 RgR W' rs (.slice ra rs.length rc) ∧
      w6.cell? ⟨w.heap.size, 3, none⟩ = some (.slice a1 kids.length c1) ∧ w6.frozen? ⟨w.heap.size, 3, none⟩ = false := by
  subst hW hus
  have hsz := h.sn.sz
  have hB : Below (w.heap.size + 2) W w6 := push_below hgr hown hsz
  have hk := set_keep (b := w.heap.size) w6 3 (.slice (some ⟨g', 0, none⟩) (kids.length + 1) cap)
  have hS6 := h.sn.on hB
  have hst : Stay (FO F0 w) (FA F0 w) W (w6.setCell ⟨w.heap.size, 3, none⟩ (.slice (some ⟨g', 0, none⟩) (kids.length + 1) cap)) := ⟨Nat.le_trans hB.size hk.1, fun k hf _ => ⟨.inl hf, (hk.2 k (by have := hf.2; omega)).trans (hB.block k (by have := hf.2; omega))⟩⟩
  refine ⟨hS6.set 3 (by omega) _ (below6 rfl rfl rfl rfl rfl rfl), ?_, h.rg.go hst (fun _ _ hx => hx), hS6.bk.ev 3 (by omega), hS6.bk.fz 3⟩
  exact (hpush (KR (FA F0 w) (w6.setCell ⟨w.heap.size, 3, none⟩ (.slice (some ⟨g', 0, none⟩) (kids.length + 1) cap))) _ (.node 0 [] [] [] 0 0) _ _ (fun x us hx => NG.go hst _ _ hx) rfl (NG.node (rs := []) (kids := []) RW.nil RW.nil 0 [] 0 0 (by simp)) hl (own_keep ho fun j h1 _ => hk.2 j (by omega))).rw (fun b hb => .inr hb)
/-- The ranges are copied. -/
structure SR (F0 : Nat → Prop) (g : Nat) (w : World) (op : Int) (ra : Option Addr) (rc : Nat) (nm : List UInt8) (a1 : Option Addr) (c1 : Nat) (mn mx : Int) (rs : List (UInt8 × UInt8)) (kids : List NT) (B : Nat) (v : Value) (W : World) : Prop where
  st : ST F0 g w op ra rc nm a1 c1 mn mx rs kids W
  row : OR B 56 2 RgR W rs v
  hB : w.heap.size + 2 ≤ B
  BW : B ≤ W.heap.size
  kb : ∀ j, (Value.slice a1 kids.length c1).ownBlock = some j → j < B
theorem sr_start (h : ST F0 g w op ra rc nm a1 c1 mn mx rs kids W) {v : Value} (hor : OR W.heap.size 56 2 RgR W' rs v) (hgr : W.grownBy W' none) : SR F0 g w op ra rc nm a1 c1 mn mx rs kids W.heap.size v W' := by
  have hb := (Below.refl W.heap.size W).grown hgr (Nat.le_refl _) (fun k hk => by cases hk)
  have hg := h.sn.gd.codes.1
  exact ⟨h.go (Apart.of_below hb hg) (h.sn.gd.codes.of_below hg hb), hor, h.sn.sz, hb.size, fun j hj => (h.row.lt hj).2⟩
theorem SR.go {B : Nat} {v : Value} (h : SR F0 g w op ra rc nm a1 c1 mn mx rs kids B v W) (ha : Apart g W W') (hc : CodesAt W' g) : SR F0 g w op ra rc nm a1 c1 mn mx rs kids B v W' :=
  ⟨h.st.go ha hc, h.row.keep (fun j h1 h2 => ha.block (by have := h.st.sn.gd.hg; have := h.hB; omega) h2) (fun _ _ hx => hx), h.hB, Nat.le_trans h.BW ha.1.size, h.kb⟩
theorem sr_push {B : Nat} {v : Value} (h : SR F0 g w op ra rc nm a1 c1 mn mx rs kids B v W) {o : Obj} {cs us : List Value} {g' cap : Nat} (x y : UInt8) (hown : W.ownsRow B 56 2 v rs.length cs)
    (hpush : ∀ (R' : UInt8 × UInt8 → List Value → Prop) (W' : World) (x : UInt8 × UInt8) (us : List Value) (v' : Value), (∀ x us, RgR x us → R' x us) → us.length = 2 → R' x us → rs.length + 1 ≤ 1000000 → W'.ownsRow B 56 2 v' (rs.length + 1) (cs ++ us) → OR B 56 2 R' W' (rs ++ [x]) v')
    (hl : rs.length + 1 ≤ 1000000) (hgr : (W.alloc o).grownBy w6 v.ownBlock) (hus : us = [.int .u8 (x.toNat : Int), .int .u8 (y.toNat : Int)])
    (ho : w6.ownsRow B 56 2 (.slice (some ⟨g', 0, none⟩) (rs.length + 1) cap) (rs.length + 1) (cs ++ us)) (hW : w6.setCell ⟨w.heap.size, 1, none⟩ (.slice (some ⟨g', 0, none⟩) (rs.length + 1) cap) = W') :
    SN g w (nE op (some ⟨g', 0, none⟩) (rs.length + 1) cap nm a1 kids.length c1 mn mx) W' ∧ RW (FA F0 w) 2 RgR W' (rs ++ [(x, y)]) (.slice (some ⟨g', 0, none⟩) (rs.length + 1) cap) ∧ RW (FA F0 w) 6 (KR (FA F0 w) W') W' kids (.slice a1 kids.length c1) ∧
      w6.cell? ⟨w.heap.size, 1, none⟩ = some (.slice ra rs.length rc) ∧ w6.frozen? ⟨w.heap.size, 1, none⟩ = false := by
  subst hW hus
  have hsz := h.hB
  have hB : Below B W w6 := push_below hgr hown h.BW
  have hk := set_keep (b := w.heap.size) w6 1 (.slice (some ⟨g', 0, none⟩) (rs.length + 1) cap)
  have hS6 := h.st.sn.on (hB.mono hsz)
  have hst : Stay (FO F0 w) (FA F0 w) W (w6.setCell ⟨w.heap.size, 1, none⟩ (.slice (some ⟨g', 0, none⟩) (rs.length + 1) cap)) := ⟨Nat.le_trans hB.size hk.1, fun k hf _ => ⟨.inl hf, (hk.2 k (by have := hf.2; omega)).trans (hB.block k (by have := hf.2; omega))⟩⟩
  refine ⟨hS6.set 1 (by omega) _ (below6 rfl rfl rfl rfl rfl rfl), ?_, ?_, hS6.bk.ev 1 (by omega), hS6.bk.fz 1⟩
  · exact (hpush RgR _ (x, y) _ _ (fun _ _ hx => hx) rfl rfl hl (own_keep ho fun j h1 _ => hk.2 j (by omega))).rw (fun b hb => .inr (by omega))
  · exact (h.st.row.own (fun j hj => (hk.2 j (by have := (h.st.row.lt hj).1; omega)).trans (hB.block j (h.kb j hj))) (fun x us hx => NG.go hst _ _ hx) _ (Nat.le_refl _)).rw (fun b hb => .inr hb)
/-- An element of the kids is stored anew. -/
theorem st_set {q i H : Nat} {us : List Value} {t : NT} (h : ST F0 g w op ra rc nm (some ⟨q, 0, none⟩) c1 mn mx rs kids W) (hi : i < kids.length) (hq : w.heap.size + 2 ≤ q) (hH : q < H) (hu : us.length = 6) (hT : NG (fun k => FO F0 w k ∨ H ≤ k) W t (.agg us.toArray)) (hW : setL W q us (i * 6) = W') :
    SN g w (nE op ra rs.length rc nm (some ⟨q, 0, none⟩) kids.length c1 mn mx) W' ∧ RW (FA F0 w) 6 (KR (FA F0 w) W') W' (kids.set i t) (.slice (some ⟨q, 0, none⟩) kids.length c1) ∧ RW (FA F0 w) 2 RgR W' rs (.slice ra rs.length rc) := by
  subst hW
  have hB : Below (w.heap.size + 2) W (setL W q us (i * 6)) := setL_below hq _ _ _
  have hst : Stay (FO F0 w) (FA F0 w) W (setL W q us (i * 6)) := ⟨hB.size, fun k hf _ => ⟨.inl hf, hB.block k (by have := hf.2; omega)⟩⟩
  refine ⟨h.sn.on hB, ?_, h.rg.go hst (fun _ _ hx => hx)⟩
  refine (h.row.rw (F := fun _ => True) (fun _ _ => trivial)).setAt i hi t us hu (.inr hq) (fun j hj us' hx => NG.go hst _ _ hx) (NG.go ⟨hB.size, fun k hf _ => ⟨?_, ?_⟩⟩ _ _ hT)
  · rcases hf with hf | hf
    · exact .inl hf
    · exact .inr (by omega)
  · exact setL_heap _ (by rcases hf with hf | hf; have := hf.2; omega; omega) _ _
end
def LO (F0 : Nat → Prop) (N g : Nat) (w W : World) : Prop := ∃ op rs nm kids mn mx ra rc a c, SN g w (nE op ra rs.length rc nm a kids.length c mn mx) W ∧ NG (FA F0 w) W (.node op rs nm kids mn mx) (.agg #[.int .i64 op, .slice ra rs.length rc, .string ⟨nm.toArray⟩, .slice a kids.length c, .int .i64 mn, .int .i64 mx]) ∧ Sm (N + 1) (.node op rs nm kids mn mx)
theorem lo_step {F0 : Nat → Prop} {N g : Nat} {w W : World} {op : Int} {rs : List (UInt8 × UInt8)} {nm : List UInt8} {kids : List NT} {mn mx : Int} {ra : Option Addr} {rc : Nat} {a : Option Addr} {c : Nat} (hS : SN g w (nE op ra rs.length rc nm a kids.length c mn mx) W)
    (hT : NG (FA F0 w) W (.node op rs nm kids mn mx) (.agg #[.int .i64 op, .slice ra rs.length rc, .string ⟨nm.toArray⟩, .slice a kids.length c, .int .i64 mn, .int .i64 mx])) (hm : Sm (N + 1) (.node op rs nm kids mn mx)) :
    LO F0 N g w (setL (W.alloc (.cells #[.int .i64 op, .slice ra rs.length rc, .string ⟨nm.toArray⟩, .slice a kids.length c, .int .i64 mn, .int .i64 mx] 25)) w.heap.size [.int .i64 4, .slice none 0 0, .string ⟨#[]⟩, .slice (some ⟨W.heap.size, 0, none⟩) 1 1, .int .i64 0, .int .i64 1] 0) := by
  have hsz := hS.sz
  have hstA : Stay (FA F0 w) (FA F0 w) W (W.alloc (.cells #[.int .i64 op, .slice ra rs.length rc, .string ⟨nm.toArray⟩, .slice a kids.length c, .int .i64 mn, .int .i64 mx] 25)) := ⟨by simp, fun k hk h2 => ⟨hk, ((Below.refl _ W).alloc (Nat.le_refl _) _).block k h2⟩⟩
  have hor := (OR.lit (B := w.heap.size + 2) (e := 25) (k := 6) (R := KR (FA F0 w) (W.alloc (.cells #[.int .i64 op, .slice ra rs.length rc, .string ⟨nm.toArray⟩, .slice a kids.length c, .int .i64 mn, .int .i64 mx] 25))) W (.node op rs nm kids mn mx) [.int .i64 op, .slice ra rs.length rc, .string ⟨nm.toArray⟩, .slice a kids.length c, .int .i64 mn, .int .i64 mx] hsz rfl (NG.go hstA _ _ hT)).rw (F := FA F0 w) (fun b hb => .inr hb)
  have hst2 : Stay (FA F0 w) (FA F0 w) (W.alloc (.cells #[.int .i64 op, .slice ra rs.length rc, .string ⟨nm.toArray⟩, .slice a kids.length c, .int .i64 mn, .int .i64 mx] 25)) (setL (W.alloc (.cells #[.int .i64 op, .slice ra rs.length rc, .string ⟨nm.toArray⟩, .slice a kids.length c, .int .i64 mn, .int .i64 mx] 25)) w.heap.size [.int .i64 4, .slice none 0 0, .string ⟨#[]⟩, .slice (some ⟨W.heap.size, 0, none⟩) 1 1, .int .i64 0, .int .i64 1] 0) :=
    ⟨by rw [setL_size]; exact Nat.le_refl _, fun k hk _ => ⟨hk, setL_heap _ (by rcases hk with h | h; have := h.2; omega; omega) _ _⟩⟩
  exact ⟨4, [], [], [.node op rs nm kids mn mx], 0, 1, none, 0, some ⟨W.heap.size, 0, none⟩, 1, (hS.al _).setL _ 4 none 0 0 [] (some ⟨W.heap.size, 0, none⟩) 1 1 0 1 rfl, NG.node (rs := []) RW.nil (hor.go hst2 (fun _ _ hx => NG.go hst2 _ _ hx)) 4 [] 0 1 (by simp), Sm.node (by simp) (by simp) (by simpa using hm)⟩

def pickS5 : List (List UInt8) := [[], [97], [49, 120], [97, 98, 99, 100, 101, 102, 103, 104, 105, 106, 107, 108, 109, 110, 111, 112, 113, 114, 115, 116, 117, 118, 119, 120, 121, 122, 97, 98, 99, 100, 101, 102, 103], [120, 95, 49]]
theorem pickS5_any (g : Nat) (W : World) (hc : CodesAt W g) : Calls Tryz.prog 21 #[.pointer (some ⟨g, 0, none⟩), .slice (some ⟨W.heap.size, 0, none⟩) 5 5] (W.alloc (.cells #[.string ⟨#[]⟩, .string ⟨#[97]⟩, .string ⟨#[49, 120]⟩, .string ⟨#[97, 98, 99, 100, 101, 102, 103, 104, 105, 106, 107, 108, 109, 110, 111, 112, 113, 114, 115, 116, 117, 118, 119, 120, 121, 122, 97, 98, 99, 100, 101, 102, 103]⟩, .string ⟨#[120, 95, 49]⟩] 9)) (PickP g W pickS5) := pickF g W pickS5 hc (by decide) (by decide)
theorem pickS5_len (x : List UInt8) (h : x ∈ pickS5) : x.length ≤ 1000 := by
  simp only [pickS5, List.mem_cons, List.not_mem_nil, or_false] at h
  rcases h with rfl | rfl | rfl | rfl | rfl <;> decide

set_option maxRecDepth 100000 in
set_option maxHeartbeats 40000000 in
theorem spoil_aux (M : Nat) : ∀ (t : NT) (v : Value) (F0 : Nat → Prop) (N g : Nat) (w : World), SizeOf.sizeOf t < M → (∀ k, F0 k → k ≠ g) → CodesAt w g → NG F0 w t v → Sm N t → N ≤ 2000 → Calls Tryz.prog 9 #[.pointer (some ⟨g, 0, none⟩), v] w (SQ F0 N g w) := by
  induction M with
  | zero => intro t v F0 N g w h; omega
  | succ M ih =>
  intro t v F0 N g w hM h0 hc hT hsm hN
  obtain ⟨op, rs, nm, kids, mn, mx, ra, rc, a, c, rfl, rfl, hnm, hrg, hkd⟩ := hT.open
  obtain ⟨hs1, hs2, hs3⟩ := hsm.open
  have IH := Lib.hid fun (i : Nat) (hi : i < kids.length) (u : Value) (F1 : Nat → Prop) (W : World) (h1 : ∀ k, F1 k → k ≠ g) (h2 : CodesAt W g) (h3 : NG F1 W kids[i] u) => ih kids[i] u F1 N g W (by have := kid_lt (op := op) (rs := rs) (nm := nm) (mn := mn) (mx := mx) i hi; omega) h1 h2 h3 (hs3 _ (List.getElem_mem hi)) hN
  have HNM : Hid (nm.length ≤ 1000) := Lib.hid hnm
  have HSM : Hid (∀ k ∈ kids, Sm N k) := Lib.hid hs3
  have HS0 := Lib.hid (SN.start hc op ra rs.length rc nm a kids.length c mn mx)
  have hlen : kids.length ≤ 2000 := Nat.le_trans hs2 hN
  have hrl : rs.length ≤ 2000 := Nat.le_trans hs1 hN
  have HL : Hid (rs.length ≤ N ∧ kids.length ≤ N) := Lib.hid ⟨hs1, hs2⟩
  have hold := HS0.out.gd.old h0
  have HRW0 := Lib.hid (hkd.go hold (R' := KR (FO F0 w) _) (fun _ _ h => NG.go hold _ _ h))
  have HRG0 := Lib.hid (hrg.go hold (fun _ _ h => h))
  have H0 := Lib.hid h0
  clear ih hT hsm hM hc hrg hkd hs1 hs2 hs3 hold h0
  have p3 := HS0.out.bk.ev 3 (by omega)
  have q3 := HS0.out.bk.fz 3
  go_enter Tryz.func9, Tryz.ntmps9
  go_upto_region 2 with (at_builtin; refine wpList_append_row rfl _ _ 23 25 (.agg #[.int .i64 0, .slice none 0 0, .string ⟨#[]⟩, .slice none 0 0, .int .i64 0, .int .i64 0]) 6 88 rfl Tryz.underlying23 infoN rfl (by decide) (w.heap.size + 2) rfl rfl HRW0.out kr_one (by omega) (by simp) ?_; intro v1 w1 hor1 hgr1; obtain ⟨a1, c1, rfl, _⟩ := hor1.rw (F := fun _ => True) (fun _ _ => trivial); have hb1 := ((Below.refl (w.heap.size + 2) _).grown hgr1 (by simp) (fun k hk => by cases hk)); have HS1 := Lib.hid (HS0.out.on hb1); have HT1 := Lib.hid (st_start H0.out HS1.out hor1 HRG0.out hb1); have p3b : w1.cell? ⟨w.heap.size, 3, none⟩ = some (.slice a kids.length c) := HS1.out.bk.ev 3 (by omega); have q3b := HS1.out.bk.fz 3; clear hor1 hgr1 hb1)
  clear p3 q3 p3b q3b HS1 HRW0 HRG0 HS0
  have k3 : (w1.setCell ⟨w.heap.size, 3, none⟩ (.slice a1 kids.length c1)).cell? ⟨w.heap.size, 3, none⟩ = some (.slice a1 kids.length c1) := HT1.out.sn.bk.ev 3 (by omega)
  obtain ⟨wx, hwx⟩ : ∃ wx, w1.setCell ⟨w.heap.size, 3, none⟩ (.slice a1 kids.length c1) = wx := ⟨_, rfl⟩
  rw [hwx] at HT1 k3
  go_cut [19] (fun b wy => ∃ bb : Bool, b = .bool bb ∧ (bb = true → 0 < kids.length) ∧ ST F0 g w op ra rc nm a1 c1 mn mx rs kids wy)
  case first =>
    (try rw [hwx])
    clear hwx
    by_cases hz : kids.length = 0
    · have z0 : decide ((0 : Int) < (kids.length : Int)) = false := decide_eq_false (by omega)
      have y0 : decide (0 < kids.length) = false := decide_eq_false (by omega)
      have HZ := Lib.hid hz
      clear hz
      go_wp2_with fail
      go_meet
      exact ⟨false, rfl, nofun, HT1.out⟩
    · have z0 : decide ((0 : Int) < (kids.length : Int)) = true := decide_eq_true (by omega)
      have y0 : decide (0 < kids.length) = true := decide_eq_true (by omega)
      have HZ : Hid (0 < kids.length) := Lib.hid (by omega)
      go_wp2_with fail
      refine (next_any g 3 _ HT1.out.sn.gd.codes (by omega) (by omega)).mono ?_
      rintro e w2 ⟨q, hq, rfl, hca, hap⟩
      have HT2 := Lib.hid (HT1.out.go hap hca)
      clear hca hap
      by_cases q0 : 0 < q
      · have z1 : decide ((0 : Int) < (q : Int)) = true := decide_eq_true (by omega)
        have y1 : decide (0 < q) = true := decide_eq_true (by omega)
        go_wp2_with fail
        go_meet
        exact ⟨true, rfl, fun _ => HZ.out, HT2.out⟩
      · have z1 : decide ((0 : Int) < (q : Int)) = false := decide_eq_false (by omega)
        have y1 : decide (0 < q) = false := decide_eq_false (by omega)
        go_wp2_with fail
        go_meet
        exact ⟨false, rfl, nofun, HT2.out⟩
  case rest =>
    obtain ⟨bb, rfl, hbb, hT⟩ := hcut
    have HT := Lib.hid hT
    clear hT HT1 hwx k3
    cases bb with
    | true =>
      have hpos : 0 < kids.length := hbb rfl
      clear hbb
      have c3 : wc.cell? ⟨w.heap.size, 3, none⟩ = some (.slice a1 kids.length c1) := HT.out.sn.bk.ev 3 (by omega)
      go_upto_region 4 with (go_at_call 18; refine (next_any g kids.length _ HT.out.sn.gd.codes (by omega) (by omega)).mono ?_; rintro e w2 ⟨i, hi, rfl, hca, hap⟩; have HT2 := Lib.hid (HT.out.go hap hca); clear hca hap)
      clear HT c3
      obtain ⟨q, cq, e1, hq, hql, hfz, us, hu, hcell, hkr⟩ := HT2.out.row.elem i hi
      injection e1 with e1 e2 e3
      subst e1 e3
      obtain ⟨op9, rs9, nm9, kids9, mn9, mx9, ra9, rc9, a9, c9, hk9, hv9, _⟩ := hkr.open
      injection hv9 with hv9
      have hus9 : us = [.int .i64 op9, .slice ra9 rs9.length rc9, .string ⟨nm9.toArray⟩, .slice a9 kids9.length c9, .int .i64 mn9, .int .i64 mx9] := congrArg Array.toList hv9
      subst hus9
      clear hv9 hu e2
      have HKR := Lib.hid (NG.go (F := FO F0 w) (w := w2) (F' := FO F0 w) (w' := w2.drew) ⟨by simp, fun k hk _ => ⟨hk, rfl⟩⟩ _ _ hkr)
      clear hkr
      have HTD := Lib.hid HT2.out.dr
      have HIH := Lib.hid (IH.out i hi _ (FO F0 w) w2.drew (fun k hk => H0.out k hk.1) HTD.out.sn.gd.codes HKR.out)
      have HQ := Lib.hid hq
      have i1 : (i : Int) < (kids.length : Int) := by omega
      have i2 : (0 : Int) ≤ (i : Int) := by omega
      have c3 : w2.drew.cell? ⟨w.heap.size, 3, none⟩ = some (.slice (some ⟨q, 0, none⟩) kids.length c1) := HTD.out.sn.bk.ev 3 (by omega)
      have d0 : w2.drew.cell? ⟨q, i * 6, none⟩ = some (.int .i64 op9) := hcell 0 (by omega)
      have d1 : w2.drew.cell? ⟨q, i * 6 + 1, none⟩ = some (.slice ra9 rs9.length rc9) := hcell 1 (by omega)
      have d2 : w2.drew.cell? ⟨q, i * 6 + 2, none⟩ = some (.string ⟨nm9.toArray⟩) := hcell 2 (by omega)
      have d3 : w2.drew.cell? ⟨q, i * 6 + 3, none⟩ = some (.slice a9 kids9.length c9) := hcell 3 (by omega)
      have d4 : w2.drew.cell? ⟨q, i * 6 + 4, none⟩ = some (.int .i64 mn9) := hcell 4 (by omega)
      have d5 : w2.drew.cell? ⟨q, i * 6 + 5, none⟩ = some (.int .i64 mx9) := hcell 5 (by omega)
      have HTC : Hid (Calls Tryz.prog 9 #[.pointer (some ⟨g, 0, none⟩), .agg #[.int .i64 op9, .slice ra9 rs9.length rc9, .string ⟨nm9.toArray⟩, .slice a9 kids9.length c9, .int .i64 mn9, .int .i64 mx9]] w2.drew (SQ (FO F0 w) N g w2.drew)) := Lib.hid HIH.out
      have hqg : q ≠ g := by have := HTD.out.sn.gd.hg; omega
      have hqd : q < w2.drew.heap.size := hql
      clear hcell hfz hq hql HIH
      go_region_law (go_simp; go_at_call 9; refine HTC.out.mono ?_; rintro e w4 ⟨v4, t4, rfl, hT4, hg4, hsm4⟩; have HSM4 := Lib.hid hsm4; have HT4 := Lib.hid (HTD.out.go hg4.ap hg4.codes); obtain ⟨op8, rs8, nm8, kids8, mn8, mx8, ra8, rc8, a8, c8, rfl, rfl, _⟩ := hT4.open; have HN4 := Lib.hid hT4; have c4 : w4.cell? ⟨w.heap.size, 3, none⟩ = some (.slice (some ⟨q, 0, none⟩) kids.length c1) := HT4.out.sn.bk.ev 3 (by omega); obtain ⟨q2, cq2, e1, _, _, hfz, us, hu, hcell, _⟩ := HT4.out.row.elem i hi; injection e1 with e1 e2 e3; injection e1 with e1; injection e1 with e1; subst e1 e3; clear e2; obtain ⟨x0, hx0⟩ : ∃ x, w4.cell? ⟨q, i * 6, none⟩ = some x := ⟨us[0], (hcell 0 (by omega)).trans (List.getElem?_eq_getElem (by omega))⟩; have fq0 := hfz (i * 6); obtain ⟨x1, hx1⟩ : ∃ x, w4.cell? ⟨q, i * 6 + 1, none⟩ = some x := ⟨us[1], (hcell 1 (by omega)).trans (List.getElem?_eq_getElem (by omega))⟩; have fq1 := hfz (i * 6 + 1); obtain ⟨x2, hx2⟩ : ∃ x, w4.cell? ⟨q, i * 6 + 2, none⟩ = some x := ⟨us[2], (hcell 2 (by omega)).trans (List.getElem?_eq_getElem (by omega))⟩; have fq2 := hfz (i * 6 + 2); obtain ⟨x3, hx3⟩ : ∃ x, w4.cell? ⟨q, i * 6 + 3, none⟩ = some x := ⟨us[3], (hcell 3 (by omega)).trans (List.getElem?_eq_getElem (by omega))⟩; have fq3 := hfz (i * 6 + 3); obtain ⟨x4, hx4⟩ : ∃ x, w4.cell? ⟨q, i * 6 + 4, none⟩ = some x := ⟨us[4], (hcell 4 (by omega)).trans (List.getElem?_eq_getElem (by omega))⟩; have fq4 := hfz (i * 6 + 4); obtain ⟨x5, hx5⟩ : ∃ x, w4.cell? ⟨q, i * 6 + 5, none⟩ = some x := ⟨us[5], (hcell 5 (by omega)).trans (List.getElem?_eq_getElem (by omega))⟩; have fq5 := hfz (i * 6 + 5); obtain ⟨W9, hW9⟩ : ∃ W9, setL w4 q [.int .i64 op8, .slice ra8 rs8.length rc8, .string ⟨nm8.toArray⟩, .slice a8 kids8.length c8, .int .i64 mn8, .int .i64 mx8] (i * 6) = W9 := ⟨_, rfl⟩; obtain ⟨hS9, hK9, hR9⟩ := st_set HT4.out hi HQ.out hqd rfl HN4.out hW9; have HS9 := Lib.hid hS9; have HR9 := Lib.hid hR9; have HK9 := Lib.hid hK9; clear hS9 hR9 hK9 hcell hfz hu hT4 hg4 hsm4)
      all_goals
        (try rw [nest6i w4])
        rw [hW9]
        have hs9 : Sm (N + 1) (.node op rs nm (kids.set i (.node op8 rs8 nm8 kids8 mn8 mx8)) mn mx) := Sm.node (Nat.le_trans HL.out.1 (Nat.le_succ N)) (by rw [List.length_set]; exact Nat.le_trans HL.out.2 (Nat.le_succ N)) (fun k hk => (List.mem_or_eq_of_mem_set hk).elim (fun hk => Sm.mono (Nat.le_succ N) k (HSM.out k hk)) (fun hk => by rw [hk]; exact HSM4.out))
        have k0 : (W9).cell? ⟨w.heap.size, 0, none⟩ = some (.int .i64 op) := HS9.out.bk.ev 0 (by omega)
        have k1 : (W9).cell? ⟨w.heap.size, 1, none⟩ = some (.slice ra rs.length rc) := HS9.out.bk.ev 1 (by omega)
        have k2 : (W9).cell? ⟨w.heap.size, 2, none⟩ = some (.string ⟨nm.toArray⟩) := HS9.out.bk.ev 2 (by omega)
        have k3 : (W9).cell? ⟨w.heap.size, 3, none⟩ = some (.slice (some ⟨q, 0, none⟩) kids.length c1) := HS9.out.bk.ev 3 (by omega)
        have k4 : (W9).cell? ⟨w.heap.size, 4, none⟩ = some (.int .i64 mn) := HS9.out.bk.ev 4 (by omega)
        have k5 : (W9).cell? ⟨w.heap.size, 5, none⟩ = some (.int .i64 mx) := HS9.out.bk.ev 5 (by omega)
        obtain ⟨r0, r1, r2, r3, r4, r5, s0, s1, s2, s3, s4, s5⟩ := bk6 HS9.out.rb
        go_wp2_with fail
        rw [nest6 (W9)]
        exact spoil_ret (P := 4) rfl HS9.out _ _ rfl (by rfl) (NG.node HR9.out HK9.out op nm mn mx HNM.out) (hs9)
    | false =>
      clear hbb
      go_wp2_with fail
      refine (next_any g 8 _ HT.out.sn.gd.codes (by omega) (by omega)).mono ?_
      rintro e w2 ⟨q, hq, rfl, hca, hap⟩
      have HT2 := Lib.hid (HT.out.go hap hca)
      clear hca hap HT
      rcases (show q = 0 ∨ q = 1 ∨ q = 2 ∨ q = 3 ∨ q = 4 ∨ q = 5 ∨ q = 6 ∨ q = 7 by omega) with rfl | rfl | rfl | rfl | rfl | rfl | rfl | rfl
      · go_wp2_with fail
        refine (next_any g 10 _ HT2.out.sn.gd.codes (by omega) (by omega)).mono ?_
        rintro e w3 ⟨k, hk, rfl, hca, hap⟩
        have HT3 := Lib.hid (HT2.out.go hap hca)
        clear hca hap HT2
        have HS3 := Lib.hid (HT3.out.sn.set 0 (by omega) (.int .i64 ((k : Int) - 1)) (E' := nE ((k : Int) - 1) ra rs.length rc nm a1 kids.length c1 mn mx) (below6 rfl rfl rfl rfl rfl rfl))
        have hk := set_keep (b := w.heap.size) w3 0 (.int .i64 ((k : Int) - 1))
        have HKR := Lib.hid (HT3.out.krow hk.1 (fun k _ h1 _ _ => hk.2 k h1))
        have HRR := Lib.hid (HT3.out.rrow hk.1 (fun k _ h1 _ _ => hk.2 k h1))
        have pc : w3.cell? ⟨w.heap.size, 0, none⟩ = some (.int .i64 op) := HT3.out.sn.bk.ev 0 (by omega)
        have pf := HT3.out.sn.bk.fz 0
        clear hk
        have k0 : (w3.setCell ⟨w.heap.size, 0, none⟩ (.int .i64 ((k : Int) - 1))).cell? ⟨w.heap.size, 0, none⟩ = some (.int .i64 ((k : Int) - 1)) := HS3.out.bk.ev 0 (by omega)
        have k1 : (w3.setCell ⟨w.heap.size, 0, none⟩ (.int .i64 ((k : Int) - 1))).cell? ⟨w.heap.size, 1, none⟩ = some (.slice ra rs.length rc) := HS3.out.bk.ev 1 (by omega)
        have k2 : (w3.setCell ⟨w.heap.size, 0, none⟩ (.int .i64 ((k : Int) - 1))).cell? ⟨w.heap.size, 2, none⟩ = some (.string ⟨nm.toArray⟩) := HS3.out.bk.ev 2 (by omega)
        have k3 : (w3.setCell ⟨w.heap.size, 0, none⟩ (.int .i64 ((k : Int) - 1))).cell? ⟨w.heap.size, 3, none⟩ = some (.slice a1 kids.length c1) := HS3.out.bk.ev 3 (by omega)
        have k4 : (w3.setCell ⟨w.heap.size, 0, none⟩ (.int .i64 ((k : Int) - 1))).cell? ⟨w.heap.size, 4, none⟩ = some (.int .i64 mn) := HS3.out.bk.ev 4 (by omega)
        have k5 : (w3.setCell ⟨w.heap.size, 0, none⟩ (.int .i64 ((k : Int) - 1))).cell? ⟨w.heap.size, 5, none⟩ = some (.int .i64 mx) := HS3.out.bk.ev 5 (by omega)
        obtain ⟨r0, r1, r2, r3, r4, r5, s0, s1, s2, s3, s4, s5⟩ := bk6 HS3.out.rb
        go_wp2_with fail
        rw [nest6 (w3.setCell ⟨w.heap.size, 0, none⟩ (.int .i64 ((k : Int) - 1)))]
        exact spoil_ret (P := 4) rfl HS3.out _ _ rfl (by rfl) (NG.node HRR.out HKR.out ((k : Int) - 1) nm mn mx HNM.out) (Sm.node (by have := HL.out.1; omega) (by have := HL.out.2; omega) (fun k hk => Sm.mono (by omega) k (HSM.out k hk)))
      · go_wp2_with fail
        refine (mint_any g _ HT2.out.sn.gd.codes).mono ?_
        rintro e w3 ⟨n, rfl, hg3⟩
        have HT3 := Lib.hid (HT2.out.go hg3.ap hg3.codes)
        clear hg3 HT2
        have HS3 := Lib.hid (HT3.out.sn.set 4 (by omega) (.int .i64 n) (E' := nE op ra rs.length rc nm a1 kids.length c1 n mx) (below6 rfl rfl rfl rfl rfl rfl))
        have hk := set_keep (b := w.heap.size) w3 4 (.int .i64 n)
        have HKR := Lib.hid (HT3.out.krow hk.1 (fun k _ h1 _ _ => hk.2 k h1))
        have HRR := Lib.hid (HT3.out.rrow hk.1 (fun k _ h1 _ _ => hk.2 k h1))
        have pc : w3.cell? ⟨w.heap.size, 4, none⟩ = some (.int .i64 mn) := HT3.out.sn.bk.ev 4 (by omega)
        have pf := HT3.out.sn.bk.fz 4
        clear hk
        have k0 : (w3.setCell ⟨w.heap.size, 4, none⟩ (.int .i64 n)).cell? ⟨w.heap.size, 0, none⟩ = some (.int .i64 op) := HS3.out.bk.ev 0 (by omega)
        have k1 : (w3.setCell ⟨w.heap.size, 4, none⟩ (.int .i64 n)).cell? ⟨w.heap.size, 1, none⟩ = some (.slice ra rs.length rc) := HS3.out.bk.ev 1 (by omega)
        have k2 : (w3.setCell ⟨w.heap.size, 4, none⟩ (.int .i64 n)).cell? ⟨w.heap.size, 2, none⟩ = some (.string ⟨nm.toArray⟩) := HS3.out.bk.ev 2 (by omega)
        have k3 : (w3.setCell ⟨w.heap.size, 4, none⟩ (.int .i64 n)).cell? ⟨w.heap.size, 3, none⟩ = some (.slice a1 kids.length c1) := HS3.out.bk.ev 3 (by omega)
        have k4 : (w3.setCell ⟨w.heap.size, 4, none⟩ (.int .i64 n)).cell? ⟨w.heap.size, 4, none⟩ = some (.int .i64 n) := HS3.out.bk.ev 4 (by omega)
        have k5 : (w3.setCell ⟨w.heap.size, 4, none⟩ (.int .i64 n)).cell? ⟨w.heap.size, 5, none⟩ = some (.int .i64 mx) := HS3.out.bk.ev 5 (by omega)
        obtain ⟨r0, r1, r2, r3, r4, r5, s0, s1, s2, s3, s4, s5⟩ := bk6 HS3.out.rb
        go_wp2_with fail
        rw [nest6 (w3.setCell ⟨w.heap.size, 4, none⟩ (.int .i64 n))]
        exact spoil_ret (P := 4) rfl HS3.out _ _ rfl (by rfl) (NG.node HRR.out HKR.out op nm n mx HNM.out) (Sm.node (by have := HL.out.1; omega) (by have := HL.out.2; omega) (fun k hk => Sm.mono (by omega) k (HSM.out k hk)))
      · go_wp2_with fail
        refine (mint_any g _ HT2.out.sn.gd.codes).mono ?_
        rintro e w3 ⟨n, rfl, hg3⟩
        have HT3 := Lib.hid (HT2.out.go hg3.ap hg3.codes)
        clear hg3 HT2
        have HS3 := Lib.hid (HT3.out.sn.set 5 (by omega) (.int .i64 n) (E' := nE op ra rs.length rc nm a1 kids.length c1 mn n) (below6 rfl rfl rfl rfl rfl rfl))
        have hk := set_keep (b := w.heap.size) w3 5 (.int .i64 n)
        have HKR := Lib.hid (HT3.out.krow hk.1 (fun k _ h1 _ _ => hk.2 k h1))
        have HRR := Lib.hid (HT3.out.rrow hk.1 (fun k _ h1 _ _ => hk.2 k h1))
        have pc : w3.cell? ⟨w.heap.size, 5, none⟩ = some (.int .i64 mx) := HT3.out.sn.bk.ev 5 (by omega)
        have pf := HT3.out.sn.bk.fz 5
        clear hk
        have k0 : (w3.setCell ⟨w.heap.size, 5, none⟩ (.int .i64 n)).cell? ⟨w.heap.size, 0, none⟩ = some (.int .i64 op) := HS3.out.bk.ev 0 (by omega)
        have k1 : (w3.setCell ⟨w.heap.size, 5, none⟩ (.int .i64 n)).cell? ⟨w.heap.size, 1, none⟩ = some (.slice ra rs.length rc) := HS3.out.bk.ev 1 (by omega)
        have k2 : (w3.setCell ⟨w.heap.size, 5, none⟩ (.int .i64 n)).cell? ⟨w.heap.size, 2, none⟩ = some (.string ⟨nm.toArray⟩) := HS3.out.bk.ev 2 (by omega)
        have k3 : (w3.setCell ⟨w.heap.size, 5, none⟩ (.int .i64 n)).cell? ⟨w.heap.size, 3, none⟩ = some (.slice a1 kids.length c1) := HS3.out.bk.ev 3 (by omega)
        have k4 : (w3.setCell ⟨w.heap.size, 5, none⟩ (.int .i64 n)).cell? ⟨w.heap.size, 4, none⟩ = some (.int .i64 mn) := HS3.out.bk.ev 4 (by omega)
        have k5 : (w3.setCell ⟨w.heap.size, 5, none⟩ (.int .i64 n)).cell? ⟨w.heap.size, 5, none⟩ = some (.int .i64 n) := HS3.out.bk.ev 5 (by omega)
        obtain ⟨r0, r1, r2, r3, r4, r5, s0, s1, s2, s3, s4, s5⟩ := bk6 HS3.out.rb
        go_wp2_with fail
        rw [nest6 (w3.setCell ⟨w.heap.size, 5, none⟩ (.int .i64 n))]
        exact spoil_ret (P := 4) rfl HS3.out _ _ rfl (by rfl) (NG.node HRR.out HKR.out op nm mn n HNM.out) (Sm.node (by have := HL.out.1; omega) (by have := HL.out.2; omega) (fun k hk => Sm.mono (by omega) k (HSM.out k hk)))
      · have HPK : Hid (Calls Tryz.prog 21 #[.pointer (some ⟨g, 0, none⟩), .slice (some ⟨w2.heap.size, 0, none⟩) 5 5] (w2.alloc (.cells #[.string ⟨#[]⟩, .string ⟨#[97]⟩, .string ⟨#[49, 120]⟩, .string ⟨#[97, 98, 99, 100, 101, 102, 103, 104, 105, 106, 107, 108, 109, 110, 111, 112, 113, 114, 115, 116, 117, 118, 119, 120, 121, 122, 97, 98, 99, 100, 101, 102, 103]⟩, .string ⟨#[120, 95, 49]⟩] 9)) _) := Lib.hid (pickS5_any g w2 HT2.out.sn.gd.codes)
        go_wp2_with fail
        refine HPK.out.mono ?_
        rintro e w3 ⟨x, hx, rfl, hca, hap⟩
        have HT3 := Lib.hid (HT2.out.go hap hca)
        have HXL := Lib.hid (pickS5_len x hx)
        clear hca hap HT2 hx HPK
        have HS3 := Lib.hid (HT3.out.sn.set 2 (by omega) (.string ⟨x.toArray⟩) (E' := nE op ra rs.length rc x a1 kids.length c1 mn mx) (below6 rfl rfl rfl rfl rfl rfl))
        have hk := set_keep (b := w.heap.size) w3 2 (.string ⟨x.toArray⟩)
        have HKR := Lib.hid (HT3.out.krow hk.1 (fun k _ h1 _ _ => hk.2 k h1))
        have HRR := Lib.hid (HT3.out.rrow hk.1 (fun k _ h1 _ _ => hk.2 k h1))
        have pc : w3.cell? ⟨w.heap.size, 2, none⟩ = some (.string ⟨nm.toArray⟩) := HT3.out.sn.bk.ev 2 (by omega)
        have pf := HT3.out.sn.bk.fz 2
        clear hk
        have k0 : (w3.setCell ⟨w.heap.size, 2, none⟩ (.string ⟨x.toArray⟩)).cell? ⟨w.heap.size, 0, none⟩ = some (.int .i64 op) := HS3.out.bk.ev 0 (by omega)
        have k1 : (w3.setCell ⟨w.heap.size, 2, none⟩ (.string ⟨x.toArray⟩)).cell? ⟨w.heap.size, 1, none⟩ = some (.slice ra rs.length rc) := HS3.out.bk.ev 1 (by omega)
        have k2 : (w3.setCell ⟨w.heap.size, 2, none⟩ (.string ⟨x.toArray⟩)).cell? ⟨w.heap.size, 2, none⟩ = some (.string ⟨x.toArray⟩) := HS3.out.bk.ev 2 (by omega)
        have k3 : (w3.setCell ⟨w.heap.size, 2, none⟩ (.string ⟨x.toArray⟩)).cell? ⟨w.heap.size, 3, none⟩ = some (.slice a1 kids.length c1) := HS3.out.bk.ev 3 (by omega)
        have k4 : (w3.setCell ⟨w.heap.size, 2, none⟩ (.string ⟨x.toArray⟩)).cell? ⟨w.heap.size, 4, none⟩ = some (.int .i64 mn) := HS3.out.bk.ev 4 (by omega)
        have k5 : (w3.setCell ⟨w.heap.size, 2, none⟩ (.string ⟨x.toArray⟩)).cell? ⟨w.heap.size, 5, none⟩ = some (.int .i64 mx) := HS3.out.bk.ev 5 (by omega)
        obtain ⟨r0, r1, r2, r3, r4, r5, s0, s1, s2, s3, s4, s5⟩ := bk6 HS3.out.rb
        go_wp2_with fail
        rw [nest6 (w3.setCell ⟨w.heap.size, 2, none⟩ (.string ⟨x.toArray⟩))]
        exact spoil_ret (P := 4) rfl HS3.out _ _ rfl (by rfl) (NG.node HRR.out HKR.out op x mn mx HXL.out) (Sm.node (by have := HL.out.1; omega) (by have := HL.out.2; omega) (fun k hk => Sm.mono (by omega) k (HSM.out k hk)))
      · have r1 : w2.cell? ⟨w.heap.size, 1, none⟩ = some (.slice ra rs.length rc) := HT2.out.sn.bk.ev 1 (by omega)
        go_wp2_with (at_builtin; refine wpList_append_row rfl _ _ 22 56 (.agg #[.int .u8 0, .int .u8 0]) 2 2 rfl Tryz.underlying22 infoR rfl (by decide) w2.heap.size rfl rfl HT2.out.rg rg_one (by omega) (Nat.le_refl _) ?_; intro v3 w3 hor3 hgr3; have HSR := Lib.hid (sr_start HT2.out hor3 hgr3); clear hor3 hgr3)
        refine (next_any g 256 _ HSR.out.st.sn.gd.codes (by omega) (by omega)).mono ?_
        rintro e w4 ⟨x0, hx0, rfl, hca, hap⟩
        have HSR4 := Lib.hid (HSR.out.go hap hca)
        clear hca hap HSR
        obtain ⟨x, rfl⟩ : ∃ x : UInt8, x.toNat = x0 := ⟨UInt8.ofNat x0, Asc.ofNat_toNat8 (by omega)⟩
        have wx : IntKind.u8.wrap (x.toNat : Int) = (x.toNat : Int) := IntWalk.u8_in _ (by omega)
        go_wp2_with fail
        refine (next_any g 256 _ HSR4.out.st.sn.gd.codes (by omega) (by omega)).mono ?_
        rintro e w5 ⟨y0, hy0, rfl, hca, hap⟩
        have HSR5 := Lib.hid (HSR4.out.go hap hca)
        clear hca hap HSR4
        obtain ⟨y, rfl⟩ : ∃ y : UInt8, y.toNat = y0 := ⟨UInt8.ofNat y0, Asc.ofNat_toNat8 (by omega)⟩
        have wy : IntKind.u8.wrap (y.toNat : Int) = (y.toNat : Int) := IntWalk.u8_in _ (by omega)
        obtain ⟨i0, hi, hz0, hz1, hz2⟩ := info_parts infoR
        obtain ⟨cs, hown, hpush⟩ := HSR5.out.row.cells
        have HPU := Lib.hid hpush
        clear hpush
        go_wp2_with (at_builtin; refine wpList_append_lies _ rfl _ _ 22 rfl w2.heap.size 56 i0 (.agg #[.int .u8 0, .int .u8 0]) 2 2 Tryz.underlying22 hi hz0 hz1 hz2 rfl (by decide) _ rs.length cs rfl (hown.alloc _) ⟨w5.heap.size, 0, none⟩ 1 1 [.int .u8 (x.toNat : Int), .int .u8 (y.toNat : Int)] rfl rfl (World.news_of_block (heap_alloc_new w5 _)) (rg_one (x, y) _ rfl) (by omega) (by unfold maxLen; omega) (by omega) (Nat.le_trans HSR5.out.BW (by simp)) _ rfl ?_; intro g6 cap6 w6 hown6 hgr6 hat6 hlt6; obtain ⟨W9, hW9⟩ : ∃ W9, w6.setCell ⟨w.heap.size, 1, none⟩ (.slice (some ⟨g6, 0, none⟩) (rs.length + 1) cap6) = W9 := ⟨_, rfl⟩; obtain ⟨hS9, hR9, hK9, pc, pf⟩ := sr_push HSR5.out x y hown HPU.out (by omega) hgr6 rfl hown6 hW9; have HS9 := Lib.hid hS9; have HR9 := Lib.hid hR9; have HK9 := Lib.hid hK9; clear hS9 hR9 hK9 hown6 hgr6 hat6 hlt6 hown HPU; refine Hid.out ?_)
        refine Lib.hid ?_
        have k0 : (W9).cell? ⟨w.heap.size, 0, none⟩ = some (.int .i64 op) := HS9.out.bk.ev 0 (by omega)
        have k1 : (W9).cell? ⟨w.heap.size, 1, none⟩ = some (.slice (some ⟨g6, 0, none⟩) (rs.length + 1) cap6) := HS9.out.bk.ev 1 (by omega)
        have k2 : (W9).cell? ⟨w.heap.size, 2, none⟩ = some (.string ⟨nm.toArray⟩) := HS9.out.bk.ev 2 (by omega)
        have k3 : (W9).cell? ⟨w.heap.size, 3, none⟩ = some (.slice a1 kids.length c1) := HS9.out.bk.ev 3 (by omega)
        have k4 : (W9).cell? ⟨w.heap.size, 4, none⟩ = some (.int .i64 mn) := HS9.out.bk.ev 4 (by omega)
        have k5 : (W9).cell? ⟨w.heap.size, 5, none⟩ = some (.int .i64 mx) := HS9.out.bk.ev 5 (by omega)
        obtain ⟨r0, r1, r2, r3, r4, r5, s0, s1, s2, s3, s4, s5⟩ := bk6 HS9.out.rb
        go_wp2_with fail
        rw [nest6 (W9)]
        exact spoil_ret (P := 4) rfl HS9.out _ _ rfl (by rfl) (NG.node HR9.out HK9.out op nm mn mx HNM.out) (Sm.node (by have := HL.out.1; simp; omega) (by have := HL.out.2; omega) (fun k hk => Sm.mono (by omega) k (HSM.out k hk)))
      · have HS3 := Lib.hid (HT2.out.sn.set 3 (by omega) (.slice none 0 0) (E' := nE op ra rs.length rc nm none 0 0 mn mx) (below6 rfl rfl rfl rfl rfl rfl))
        have hk := set_keep (b := w.heap.size) w2 3 (.slice none 0 0)
        have HKR := Lib.hid (HT2.out.krow hk.1 (fun k _ h1 _ _ => hk.2 k h1))
        have HRR := Lib.hid (HT2.out.rrow hk.1 (fun k _ h1 _ _ => hk.2 k h1))
        have pc : w2.cell? ⟨w.heap.size, 3, none⟩ = some (.slice a1 kids.length c1) := HT2.out.sn.bk.ev 3 (by omega)
        have pf := HT2.out.sn.bk.fz 3
        clear hk
        have k0 : (w2.setCell ⟨w.heap.size, 3, none⟩ (.slice none 0 0)).cell? ⟨w.heap.size, 0, none⟩ = some (.int .i64 op) := HS3.out.bk.ev 0 (by omega)
        have k1 : (w2.setCell ⟨w.heap.size, 3, none⟩ (.slice none 0 0)).cell? ⟨w.heap.size, 1, none⟩ = some (.slice ra rs.length rc) := HS3.out.bk.ev 1 (by omega)
        have k2 : (w2.setCell ⟨w.heap.size, 3, none⟩ (.slice none 0 0)).cell? ⟨w.heap.size, 2, none⟩ = some (.string ⟨nm.toArray⟩) := HS3.out.bk.ev 2 (by omega)
        have k3 : (w2.setCell ⟨w.heap.size, 3, none⟩ (.slice none 0 0)).cell? ⟨w.heap.size, 3, none⟩ = some (.slice none 0 0) := HS3.out.bk.ev 3 (by omega)
        have k4 : (w2.setCell ⟨w.heap.size, 3, none⟩ (.slice none 0 0)).cell? ⟨w.heap.size, 4, none⟩ = some (.int .i64 mn) := HS3.out.bk.ev 4 (by omega)
        have k5 : (w2.setCell ⟨w.heap.size, 3, none⟩ (.slice none 0 0)).cell? ⟨w.heap.size, 5, none⟩ = some (.int .i64 mx) := HS3.out.bk.ev 5 (by omega)
        obtain ⟨r0, r1, r2, r3, r4, r5, s0, s1, s2, s3, s4, s5⟩ := bk6 HS3.out.rb
        go_wp2_with fail
        rw [nest6 (w2.setCell ⟨w.heap.size, 3, none⟩ (.slice none 0 0))]
        exact spoil_ret (P := 4) rfl HS3.out _ _ rfl (by rfl) (NG.node (kids := []) HRR.out RW.nil op nm mn mx HNM.out) (Sm.node (by have := HL.out.1; omega) (by simp) (by simp))
      · have c3 : w2.cell? ⟨w.heap.size, 3, none⟩ = some (.slice a1 kids.length c1) := HT2.out.sn.bk.ev 3 (by omega)
        obtain ⟨i0, hi, hz0, hz1, hz2⟩ := info_parts infoN
        obtain ⟨cs, hown, hpush⟩ := HT2.out.row.cells
        have HPU := Lib.hid hpush
        have hsz := HT2.out.sn.sz
        clear hpush
        go_wp2_with (at_builtin; refine wpList_append_lies _ rfl _ _ 23 rfl (w.heap.size + 2) 25 i0 (.agg #[.int .i64 0, .slice none 0 0, .string ⟨#[]⟩, .slice none 0 0, .int .i64 0, .int .i64 0]) 6 88 Tryz.underlying23 hi hz0 hz1 hz2 rfl (by decide) _ kids.length cs rfl (hown.alloc _) ⟨w2.heap.size, 0, none⟩ 1 1 [.int .i64 0, .slice none 0 0, .string ⟨#[]⟩, .slice none 0 0, .int .i64 0, .int .i64 0] rfl rfl (World.news_of_block (heap_alloc_new w2 _)) (node_one 0 none 0 0 [] none 0 0 0 0) (by omega) (by unfold maxLen; omega) (by omega) (Nat.le_trans hsz (by simp)) _ rfl ?_; intro g6 cap6 w6 hown6 hgr6 hat6 hlt6; obtain ⟨W9, hW9⟩ : ∃ W9, w6.setCell ⟨w.heap.size, 3, none⟩ (.slice (some ⟨g6, 0, none⟩) (kids.length + 1) cap6) = W9 := ⟨_, rfl⟩; obtain ⟨hS9, hK9, hR9, pc, pf⟩ := st_push HT2.out hown HPU.out (by omega) hgr6 rfl hown6 hW9; have HS9 := Lib.hid hS9; have HR9 := Lib.hid hR9; have HK9 := Lib.hid hK9; clear hS9 hR9 hK9 hown6 hgr6 hat6 hlt6 hown HPU; refine Hid.out ?_)
        refine Lib.hid ?_
        have k0 : (W9).cell? ⟨w.heap.size, 0, none⟩ = some (.int .i64 op) := HS9.out.bk.ev 0 (by omega)
        have k1 : (W9).cell? ⟨w.heap.size, 1, none⟩ = some (.slice ra rs.length rc) := HS9.out.bk.ev 1 (by omega)
        have k2 : (W9).cell? ⟨w.heap.size, 2, none⟩ = some (.string ⟨nm.toArray⟩) := HS9.out.bk.ev 2 (by omega)
        have k3 : (W9).cell? ⟨w.heap.size, 3, none⟩ = some (.slice (some ⟨g6, 0, none⟩) (kids.length + 1) cap6) := HS9.out.bk.ev 3 (by omega)
        have k4 : (W9).cell? ⟨w.heap.size, 4, none⟩ = some (.int .i64 mn) := HS9.out.bk.ev 4 (by omega)
        have k5 : (W9).cell? ⟨w.heap.size, 5, none⟩ = some (.int .i64 mx) := HS9.out.bk.ev 5 (by omega)
        obtain ⟨r0, r1, r2, r3, r4, r5, s0, s1, s2, s3, s4, s5⟩ := bk6 HS9.out.rb
        go_wp2_with fail
        rw [nest6 (W9)]
        exact spoil_ret (P := 4) rfl HS9.out _ _ rfl (by rfl) (NG.node HR9.out HK9.out op nm mn mx HNM.out) (Sm.node (by have := HL.out.1; omega) (by have := HL.out.2; simp; omega) (fun k hk => (List.mem_append.1 hk).elim (fun hk => Sm.mono (by omega) k (HSM.out k hk)) (fun hk => by rw [List.mem_singleton.1 hk]; exact Sm.node (by simp) (by simp) (by simp))))
      · have HLO : Hid (LO F0 N g w w2) := Lib.hid ⟨op, rs, nm, kids, mn, mx, ra, rc, a1, c1, HT2.out.sn, NG.node (HT2.out.rrow (Nat.le_refl _) (fun _ _ _ _ _ => rfl)) (HT2.out.krow (Nat.le_refl _) (fun _ _ _ _ _ => rfl)) op nm mn mx HNM.out, Sm.node (by have := HL.out.1; omega) (by have := HL.out.2; omega) (fun k hk => Sm.mono (by omega) k (HSM.out k hk))⟩
        clear HT2 hq
        go_wp2_with fail
        go_loopw [6] (fun i wr => ∃ k : Nat, i = .int .i64 k ∧ k ≤ 25 ∧ Hid (LO F0 N g w wr)) (fun i _ => 25 - (intOf i).toNat)
        case atStart => exact ⟨0, rfl, by omega, HLO⟩
        case round =>
          obtain ⟨k, rfl, hk, HLK⟩ := hrel
          clear HLO
          obtain ⟨op7, rs7, nm7, kids7, mn7, mx7, ra7, rc7, a7, c7, hS, hT, hm⟩ := HLK.out
          have HSN := Lib.hid hS
          have HTN := Lib.hid hT
          have HMN := Lib.hid hm
          clear hS hT hm HLK
          have k0 : (wr).cell? ⟨w.heap.size, 0, none⟩ = some (.int .i64 op7) := HSN.out.bk.ev 0 (by omega)
          have k1 : (wr).cell? ⟨w.heap.size, 1, none⟩ = some (.slice ra7 rs7.length rc7) := HSN.out.bk.ev 1 (by omega)
          have k2 : (wr).cell? ⟨w.heap.size, 2, none⟩ = some (.string ⟨nm7.toArray⟩) := HSN.out.bk.ev 2 (by omega)
          have k3 : (wr).cell? ⟨w.heap.size, 3, none⟩ = some (.slice a7 kids7.length c7) := HSN.out.bk.ev 3 (by omega)
          have k4 : (wr).cell? ⟨w.heap.size, 4, none⟩ = some (.int .i64 mn7) := HSN.out.bk.ev 4 (by omega)
          have k5 : (wr).cell? ⟨w.heap.size, 5, none⟩ = some (.int .i64 mx7) := HSN.out.bk.ev 5 (by omega)
          by_cases h25 : k = 25
          · subst h25
            obtain ⟨r0, r1, r2, r3, r4, r5, s0, s1, s2, s3, s4, s5⟩ := bk6 HSN.out.rb
            go_wp2_with fail
            rw [nest6 (wr)]
            exact spoil_ret (P := 4) rfl HSN.out _ _ rfl (by rfl) (HTN.out) (HMN.out)
          · have z25 : decide ((k : Int) < 25) = true := decide_eq_true (by omega)
            have y25 : decide (k < 25) = true := decide_eq_true (by omega)
            have hw1 : IntKind.i64.wrap ((k : Int) + 1) = (k : Int) + 1 := IntWalk.i64_in _ (by omega)
            have ka0 : ∀ o, (wr.alloc o).cell? ⟨w.heap.size, 0, none⟩ = some (.int .i64 op7) := fun o => (HSN.out.bk.al o).ev 0 (by omega)
            have ka1 : ∀ o, (wr.alloc o).cell? ⟨w.heap.size, 1, none⟩ = some (.slice ra7 rs7.length rc7) := fun o => (HSN.out.bk.al o).ev 1 (by omega)
            have ka2 : ∀ o, (wr.alloc o).cell? ⟨w.heap.size, 2, none⟩ = some (.string ⟨nm7.toArray⟩) := fun o => (HSN.out.bk.al o).ev 2 (by omega)
            have ka3 : ∀ o, (wr.alloc o).cell? ⟨w.heap.size, 3, none⟩ = some (.slice a7 kids7.length c7) := fun o => (HSN.out.bk.al o).ev 3 (by omega)
            have ka4 : ∀ o, (wr.alloc o).cell? ⟨w.heap.size, 4, none⟩ = some (.int .i64 mn7) := fun o => (HSN.out.bk.al o).ev 4 (by omega)
            have ka5 : ∀ o, (wr.alloc o).cell? ⟨w.heap.size, 5, none⟩ = some (.int .i64 mx7) := fun o => (HSN.out.bk.al o).ev 5 (by omega)
            have fa0 : ∀ o, (wr.alloc o).frozen? ⟨w.heap.size, 0, none⟩ = false := fun o => (HSN.out.bk.al o).fz 0
            have fa1 : ∀ o, (wr.alloc o).frozen? ⟨w.heap.size, 1, none⟩ = false := fun o => (HSN.out.bk.al o).fz 1
            have fa2 : ∀ o, (wr.alloc o).frozen? ⟨w.heap.size, 2, none⟩ = false := fun o => (HSN.out.bk.al o).fz 2
            have fa3 : ∀ o, (wr.alloc o).frozen? ⟨w.heap.size, 3, none⟩ = false := fun o => (HSN.out.bk.al o).fz 3
            have fa4 : ∀ o, (wr.alloc o).frozen? ⟨w.heap.size, 4, none⟩ = false := fun o => (HSN.out.bk.al o).fz 4
            have fa5 : ∀ o, (wr.alloc o).frozen? ⟨w.heap.size, 5, none⟩ = false := fun o => (HSN.out.bk.al o).fz 5
            go_wp2_with fail
            refine ⟨⟨k + 1, by go_num, by omega, Lib.hid ?_⟩, by simp [intOf]; omega⟩
            exact lo_step HSN.out HTN.out HMN.out

theorem spoil_any (t : NT) (v : Value) (F0 : Nat → Prop) (N g : Nat) (w : World) (h0 : ∀ k, F0 k → k ≠ g) (hc : CodesAt w g) (hT : NG F0 w t v) (hs : Sm N t) (hN : N ≤ 2000) : Calls Tryz.prog 9 #[.pointer (some ⟨g, 0, none⟩), v] w (SQ F0 N g w) := spoil_aux (SizeOf.sizeOf t + 1) t v F0 N g w (Nat.lt_succ_self _) h0 hc hT hs hN

end Go.Proofs.YtphbkompnddflaaGreatDoor

/-
 Joined: PatV, PatX, PatY, PatYa, PatYb, PatYc, PatYe, PatYg, PatYh, PzF, PzM.
-/
import Derived.Test.YtmpbjaodgajnfaaGreatDoorEfH
import Derived.Test.YtmpbjaodgajnfaaGreatDoorEfA
import Derived.BigQuiet
import Derived.Shelf.Strings.Search1
import Derived.Laws.CopyOwn
import Derived.Test.YtmpbjaodgajnfaaGreatDoorEfD
import Derived.Laws.Rows
namespace Go.Proofs.YtmpbjaodgajnfaaGreatDoor
open Go.RowKit
def runTo (f : Nat → Bool) (c : Nat) : Nat := if c + 1 < 256 ∧ f (c + 1) = true then runTo f (c + 1) else c
termination_by 256 - c
theorem runTo_ge (f : Nat → Bool) (c : Nat) : c ≤ runTo f c := by
 rw [runTo]
 split
 ·exact Nat.le_trans (Nat.le_succ c) (runTo_ge f (c + 1))
 ·exact Nat.le_refl _
termination_by 256 - c
def rngs (f : Nat → Bool) (c : Nat) : List (UInt8 × UInt8) :=
 if h : c < 256 then if f c = true then (UInt8.ofNat c, UInt8.ofNat (runTo f c)) :: rngs f (runTo f c + 1) else rngs f (c + 1) else []
termination_by 256 - c
decreasing_by
 ·have := runTo_ge f c
  omega
 ·omega
theorem rngs_off (f : Nat → Bool) (k : Nat) (h : k < 256) (hf : f k = false) : rngs f k = rngs f (k + 1) := by rw [rngs, dif_pos h, if_neg (by simp [hf])]
theorem rngs_on (f : Nat → Bool) (k : Nat) (h : k < 256) (hf : f k = true) : rngs f k = (UInt8.ofNat k, UInt8.ofNat (runTo f k)) :: rngs f (runTo f k + 1) := by rw [rngs, dif_pos h, if_pos hf]
theorem runTo_on (f : Nat → Bool) (m : Nat) (h : m + 1 < 256) (hf : f (m + 1) = true) : runTo f (m + 1) = runTo f m := by rw [runTo.eq_1 f m, if_pos ⟨h, hf⟩]
theorem runTo_off (f : Nat → Bool) (m : Nat) (h : m + 1 < 256 → f (m + 1) = false) : runTo f m = m := by
 rw [runTo, if_neg]
 rintro ⟨h1, h2⟩
 rw [h h1] at h2
 cases h2
theorem ofNat8 {k : Nat} (h : k < 256) : (UInt8.ofNat k).toNat = k := Asc.ofNat_toNat8 h
set_option maxHeartbeats 8000000 in
set_option maxRecDepth 1000000 in
theorem ranges_any (f : Nat → Bool) (w : World) : Calls Tryz.prog 168 #[.agg (setA f)] w fun e w' => ∃ v, e = .returned v ∧ OR w.heap.size 187 2 RgR w' (rngs f 0) v ∧ Below w.heap.size w w' := by
 go_enter Tryz.func168, Tryz.ntmps168
 go_wp2
 go_loopw [3, 4, 5] (fun l i fr wr => ∃ (k : Nat) (rs : List (UInt8 × UInt8)) (v : Value), v = l ∧ i = .int .i64 k ∧ k ≤ 256 ∧ Hid (rs ++ rngs f k = rngs f 0) ∧ rs.length ≤ k ∧ Hid (OR (w.heap.size + 1) 187 2 RgR wr rs v) ∧ Hid (wr.heap[w.heap.size]? = some (.cells (setA f) 213 (0, 0))) ∧ Hid (Below w.heap.size w wr)) (fun _ i _ _ => 256 - (intOf i).toNat)
 case atStart => exact ⟨0, [], _, rfl, rfl, by omega, Lib.hid rfl, by simp, Lib.hid OR.nil, Lib.hid (heap_alloc_new w _), Lib.hid ((Below.refl _ w).alloc (Nat.le_refl _) _)⟩
 case round =>
  obtain ⟨k, rs, v, rfl, rfl, hk, HR, hrl, HO, HB, HW⟩ := hrel
  by_cases hle : k < 256
  ·have z1 : decide ((k : Int) < 256) = true := decide_eq_true (by omega)
   have y1 : decide (k < 256) = true := decide_eq_true hle
   have i1 : (k : Int) < 256 := by omega
   have i2 : (0 : Int) ≤ (k : Int) := by omega
   have hw1 : IntKind.i64.wrap ((k : Int) + 1) = (k : Int) + 1 := IntWalk.i64_in _ (by omega)
   have hc : wr.cell? ⟨w.heap.size, k, none⟩ = some (.bool (f k)) := by
    rw [cell_of_row _ _ _ _ _ _ HB.out]
    exact setA_at f hle
   cases hf : f k with
   | false =>
    rw [hf] at hc
    go_wp2_with fail
    refine ⟨⟨k + 1, rs, v, rfl, by go_num, by omega, Lib.hid (by rw [← rngs_off f k hle hf]; exact HR.out), by omega, HO, HB, HW⟩, by simp [intOf]; omega⟩
   | true =>
    rw [hf] at hc
    go_wp2_with fail
    go_loopw [4] (fun i wx => ∃ m : Nat, i = .int .i64 m ∧ k ≤ m ∧ m < 256 ∧ Hid (runTo f m = runTo f k) ∧ wr = wx) (fun i _ => 256 - (intOf i).toNat)
    case atStart => exact ⟨k, rfl, Nat.le_refl _, hle, Lib.hid rfl, rfl⟩
    case round =>
     obtain ⟨m, rfl, hm1, hm2, HM, rfl⟩ := hrel
     have hw2 : IntKind.i64.wrap ((m : Int) + 1) = (m : Int) + 1 := IntWalk.i64_in _ (by omega)
     by_cases hgo : m + 1 < 256 ∧ f (m + 1) = true
     ·have x1 : decide ((m : Int) + 1 < 256) = true := decide_eq_true (by omega)
      have x2 : (m : Int) + 1 < 256 := by omega
      have x3 : (0 : Int) ≤ (m : Int) + 1 := by omega
      have x4 : ((m : Int) + 1).toNat = m + 1 := by omega
      have hc2 : wr.cell? ⟨w.heap.size, m + 1, none⟩ = some (.bool true) := by
       rw [cell_of_row _ _ _ _ _ _ HB.out, ← hgo.2]
       exact setA_at f hgo.1
      go_wp2_with fail
      refine ⟨⟨m + 1, by go_num, by omega, by omega, Lib.hid ((runTo_on f m hgo.1 hgo.2).trans HM.out), trivial⟩, by simp [intOf]; omega⟩
     ·have hmr : runTo f k = m := HM.out.symm.trans (runTo_off f m fun h => by cases h3 : f (m + 1) with | false => rfl | true => exact absurd ⟨h, h3⟩ hgo)
      have hmr2 := Lib.hid hmr
      have wx : IntKind.u8.wrap (k : Int) = (k : Int) := IntWalk.u8_in _ (by omega)
      have wy : IntKind.u8.wrap (m : Int) = (m : Int) := IntWalk.u8_in _ (by omega)
      obtain ⟨i0, hi, hz0, hz1, hz2⟩ := info_parts infoR
      obtain ⟨cs, hown, hpush⟩ := HO.out.cells
      have hBW : w.heap.size + 1 ≤ wr.heap.size := (Array.getElem?_eq_some_iff.1 HB.out).1
      have one2 : ∀ u ∈ [Value.int .u8 (k : Int), .int .u8 (m : Int)], u.oneCell' = true := by
       intro u hu
       simp only [List.mem_cons, List.not_mem_nil, or_false] at hu
       rcases hu with rfl | rfl <;> rfl
      clear hmr HM
      by_cases h1 : m + 1 < 256
      ·have x1 : decide ((m : Int) + 1 < 256) = true := decide_eq_true (by omega)
       have x2 : (m : Int) + 1 < 256 := by omega
       have x3 : (0 : Int) ≤ (m : Int) + 1 := by omega
       have x4 : ((m : Int) + 1).toNat = m + 1 := by omega
       have hc2 : wr.cell? ⟨w.heap.size, m + 1, none⟩ = some (.bool false) := by
        have hff : f (m + 1) = false := by cases h3 : f (m + 1) with | false => rfl | true => exact absurd ⟨h1, h3⟩ hgo
        rw [cell_of_row _ _ _ _ _ _ HB.out, ← hff]
        exact setA_at f h1
       clear hgo
       go_wp2_with (at_builtin; refine wpList_append_lies _ rfl _ _ 30 rfl (w.heap.size + 1) 187 i0 (.agg #[.int .u8 0, .int .u8 0]) 2 2 Tryz.underlying30 hi hz0 hz1 hz2 rfl (by decide) _ rs.length cs rfl (hown.alloc _) ⟨wr.heap.size, 0, none⟩ 1 1 [.int .u8 (k : Int), .int .u8 (m : Int)] rfl rfl (World.news_of_block (heap_alloc_new wr _)) one2 (by omega) (by unfold maxLen; omega) (by omega) (Nat.le_trans hBW (by simp)) _ rfl ?_; intro g6 cap6 w6 hown6 hgr6 hat6 hlt6; have HW6 := Lib.hid (push_below hgr6 hown hBW); have HO6 := Lib.hid (hpush RgR w6 (UInt8.ofNat k, UInt8.ofNat m) _ _ (fun _ _ h => h) rfl (by simp only [RgR]; rw [ofNat8 hle, ofNat8 hm2]) (by omega) hown6); clear hown6 hgr6 hat6 hlt6 hown hpush)
       refine ⟨⟨m + 1, rs ++ [(UInt8.ofNat k, UInt8.ofNat m)], _, rfl, by go_num, by omega, Lib.hid (by rw [List.append_assoc, List.singleton_append, ← HR.out, rngs_on f k hle hf, hmr2.out]), by simp; omega, HO6, Lib.hid ((HW6.out.block _ (Nat.lt_succ_self _)).trans HB.out), Lib.hid (HW.out.trans (HW6.out.mono (Nat.le_succ _)))⟩, by simp [intOf]; omega⟩
      ·have x1 : decide ((m : Int) + 1 < 256) = false := decide_eq_false (by omega)
       clear hgo
       go_wp2_with (at_builtin; refine wpList_append_lies _ rfl _ _ 30 rfl (w.heap.size + 1) 187 i0 (.agg #[.int .u8 0, .int .u8 0]) 2 2 Tryz.underlying30 hi hz0 hz1 hz2 rfl (by decide) _ rs.length cs rfl (hown.alloc _) ⟨wr.heap.size, 0, none⟩ 1 1 [.int .u8 (k : Int), .int .u8 (m : Int)] rfl rfl (World.news_of_block (heap_alloc_new wr _)) one2 (by omega) (by unfold maxLen; omega) (by omega) (Nat.le_trans hBW (by simp)) _ rfl ?_; intro g6 cap6 w6 hown6 hgr6 hat6 hlt6; have HW6 := Lib.hid (push_below hgr6 hown hBW); have HO6 := Lib.hid (hpush RgR w6 (UInt8.ofNat k, UInt8.ofNat m) _ _ (fun _ _ h => h) rfl (by simp only [RgR]; rw [ofNat8 hle, ofNat8 hm2]) (by omega) hown6); clear hown6 hgr6 hat6 hlt6 hown hpush)
       refine ⟨⟨m + 1, rs ++ [(UInt8.ofNat k, UInt8.ofNat m)], _, rfl, by go_num, by omega, Lib.hid (by rw [List.append_assoc, List.singleton_append, ← HR.out, rngs_on f k hle hf, hmr2.out]), by simp; omega, HO6, Lib.hid ((HW6.out.block _ (Nat.lt_succ_self _)).trans HB.out), Lib.hid (HW.out.trans (HW6.out.mono (Nat.le_succ _)))⟩, by simp [intOf]; omega⟩
  ·have z1 : decide ((k : Int) < 256) = false := decide_eq_false (by omega)
   have y1 : decide (k < 256) = false := decide_eq_false hle
   go_wp2_with fail
   go_ret
   have hr0 : rngs f k = [] := by rw [rngs, dif_neg hle]
   have := HR.out
   rw [hr0, List.append_nil] at this
   exact ⟨_, rfl, this ▸ (HO.out.own (fun _ _ => rfl) (fun _ _ h => h) _ (Nat.le_succ _)), HW.out⟩
end Go.Proofs.YtmpbjaodgajnfaaGreatDoor
namespace Go.Proofs.YtmpbjaodgajnfaaGreatDoor
open Go.RowKit
def NW (t : NT) (w : World) (e : Ending) (w' : World) : Prop := ∃ v, e = .returned v ∧ NG (fun k => w.heap.size ≤ k) w' t v ∧ Below w.heap.size w w'
theorem item_ret {fn : Func} {P : Tmp} (hfn : fn.results = #[.cell P 33]) {W : World} {b : Nat} {E : Nat → Value} (hS : BK b 6 E W) {tmps : Array Value} {df : _} (hdf : df = []) (hp : tmps.getD P undef = .pointer (some ⟨b, 0, none⟩)) {v0 v1 v2 v3 v4 v5 : Value} {post : Ending → World → Prop}
  (h : post (.returned (.agg #[v0, v1, v2, v3, v4, v5])) (setL W b [v0, v1, v2, v3, v4, v5] 0)) :
  bodyPost Tryz.prog fn post Exit.ret { tmps := tmps, defers := df } (setL W b [v0, v1, v2, v3, v4, v5] 0) := by
 have hc := setL_at (b := b) [v0, v1, v2, v3, v4, v5] W 0 (fun j _ hj => ⟨_, hS.ev j (by simpa using hj)⟩)
 exact bodyPost_ret (results_item (ty := 33) hfn tmps _ b [v0, v1, v2, v3, v4, v5] _ hp (fun j v hv => by have := hc j v hv; rwa [Nat.zero_add] at this) Tryz.underlying33 rfl (by kernel_rfl)) hdf h
set_option maxHeartbeats 8000000 in
set_option maxRecDepth 1000000 in
theorem class_any (f : Nat → Bool) (w : World) : Calls Tryz.prog 151 #[.agg (setA f)] w (NW (.node 1 (rngs f 0) [] [] 0 0) w) := by
 go_enter Tryz.func151, Tryz.ntmps151
 go_wp2
 refine wp_load_set _ rfl w.heap.size rfl f 213 (heap_alloc2_old w _ _) ?_
 go_wp2_with fail
 refine (ranges_any f _).mono ?_
 rintro e w2 ⟨v, rfl, hor, hb⟩
 have HB : Hid (BK (w.heap.size + 1) 6 (nE 0 none 0 0 [] none 0 0 0 0) w2) := Lib.hid ((by simpa using nE_new (w.alloc (.cells (setA f) 213)) 0 none 0 0 [] none 0 0 0 0 : BK (w.heap.size + 1) 6 (nE 0 none 0 0 [] none 0 0 0 0) _).on hb (by simp))
 have HW : Hid (Below w.heap.size w w2) := Lib.hid ((((Below.refl _ w).alloc (Nat.le_refl _) _).alloc (by simp) _).trans (hb.mono (by simp; omega)))
 have hrw := hor.rw (F := fun k => w.heap.size + 2 ≤ k) (fun b hb => by simpa using hb)
 clear hor hb
 obtain ⟨a, c, rfl, hrest⟩ := hrw
 have HR : Hid (RW (fun k => w.heap.size + 2 ≤ k) 2 RgR w2 (rngs f 0) (.slice a (rngs f 0).length c)) := Lib.hid ⟨a, c, rfl, hrest⟩
 clear hrest
 obtain ⟨k0, k1, k2, k3, k4, k5, f0, f1, f2, f3, f4, f5⟩ := bk6 HB.out
 go_wp2_with fail
 rw [nest6 w2]
 have hbl := setL_below (B := w.heap.size) (b := w.heap.size + 1) (Nat.le_succ _) [.int .i64 1, .slice a (rngs f 0).length c, .string ⟨#[]⟩, .slice none 0 0, .int .i64 0, .int .i64 0] w2 0
 refine item_ret (P := 2) rfl HB.out rfl (by rfl) ⟨_, rfl, ?_, HW.out.trans hbl⟩
 exact NG.node (kids := []) (HR.out.go ⟨hbl.size, fun k hk _ => ⟨by omega, setL_heap _ (by omega) _ _⟩⟩ (fun _ _ h => h)) RW.nil 1 [] 0 0 (by simp)
end Go.Proofs.YtmpbjaodgajnfaaGreatDoor
namespace Go.Proofs.YtmpbjaodgajnfaaGreatDoor
open Go.RowKit
def psE (l : List UInt8) (at_ e : Nat) (i : Nat) : Value := if i = 0 then .string ⟨l.toArray⟩ else if i = 1 then .int .i64 (at_ : Int) else .int .i64 (e : Int)
def PSt (b : Nat) (l : List UInt8) (at_ e : Nat) (W : World) : Prop := BK b 3 (psE l at_ e) W
structure PK (b : Nat) (l : List UInt8) (at_ e : Nat) (w w' : World) : Prop where
 ap : Apart b w w'
 st : PSt b l at_ e w'
theorem Apart.setCell {b : Nat} (w : World) (i : Nat) (v : Value) : Apart b w (w.setCell ⟨b, i, none⟩ v) := ⟨(Below.refl _ w).setCell (p := ⟨b, i, none⟩) (Nat.le_refl _) v, fun k h1 _ => Below.heap_setCell _ _ _ k (by intro e; simp only at e; omega)⟩
theorem psE_two (l : List UInt8) (at_ e x : Nat) : ∀ i, i < 3 → Upd (psE l at_ e) 2 (.int .i64 (x : Int)) i = psE l at_ x i := fun i hi => by
 match i, hi with
 | 0, _ => rfl
 | 1, _ => rfl
 | 2, _ => rfl
set_option maxHeartbeats 4000000 in
set_option maxRecDepth 1000000 in
theorem fail_any (b : Nat) (l : List UInt8) (at_ e : Nat) (x : Nat) (w : World) (h : PSt b l at_ e w) : Calls Tryz.prog 52 #[.pointer (some ⟨b, 0, none⟩), .int .i64 (x : Int)] w fun r w' => r = .returned (.tuple #[]) ∧ PK b l at_ (if e = 0 then x else e) w w' := by
 have hb := h.lt
 have c2 : w.cell? ⟨b, 2, none⟩ = some (.int .i64 (e : Int)) := h.ev 2 (by omega)
 have f2 := h.fz 2
 have H := Lib.hid h
 clear h
 go_enter Tryz.func52, Tryz.ntmps52
 by_cases he : e = 0
 ·subst he
  go_wp2_with fail
  go_end0
  exact ⟨rfl, Apart.setCell w 2 _, (H.out.set 2 (by omega) _).cong (psE_two l at_ 0 x)⟩
 ·have z1 : ((e : Int) == 0) = false := by rw [beq_eq_false_iff_ne]; omega
  rw [if_neg he]
  clear he
  go_wp2_with fail
  go_end0
  exact ⟨rfl, Apart.refl _ _, H.out⟩
theorem Kinds.ap {b : Nat} {w w' : World} (h : Kinds w) (hb : 1 < b) (ha : Apart b w w') : Kinds w' := ⟨Nat.lt_of_lt_of_le h.1 ha.1.size, fun c hc => (ha.cell (p := ⟨1, c, none⟩) (Nat.ne_of_lt hb) h.1).trans (h.2 c hc)⟩
theorem Kinds.on {B : Nat} {w w' : World} (h : Kinds w) (hb : 1 < B) (k : Below B w w') : Kinds w' := ⟨Nat.lt_of_lt_of_le h.1 k.size, fun c hc => (k.cell (p := ⟨1, c, none⟩) hb).trans (h.2 c hc)⟩
structure PS (b : Nat) (l : List UInt8) (at_ : Nat) (w : World) : Prop where
 st : PSt b l at_ 0 w
 le : at_ ≤ l.length
 len : l.length ≤ 1000
 kd : Kinds w
 kb : 1 < b
structure PQ (b : Nat) (l : List UInt8) (at_ : Nat) (w w' : World) : Prop where
 ap : Apart b w w'
 ps : PS b l at_ w'
theorem PS.drewN {b : Nat} {l : List UInt8} {at_ : Nat} {w : World} (h : PS b l at_ w) (n : Nat) : PQ b l at_ w (w.drewN n) := ⟨⟨⟨rfl, rfl, rfl, Nat.le_refl _, fun _ _ => rfl⟩, fun _ _ _ => rfl⟩, ⟨h.st.keep rfl (Nat.le_refl _), h.le, h.len, ⟨h.kd.1, h.kd.2⟩, h.kb⟩⟩
theorem PQ.refl {b : Nat} {l : List UInt8} {at_ : Nat} {w : World} (h : PS b l at_ w) : PQ b l at_ w w := ⟨Apart.refl _ _, h⟩
theorem PQ.trans {b : Nat} {l : List UInt8} {i j : Nat} {w w1 w2 : World} (h : PQ b l i w w1) (k : PQ b l j w1 w2) : PQ b l j w w2 := ⟨h.ap.trans k.ap, k.ps⟩
theorem PQ.on {b : Nat} {l : List UInt8} {i : Nat} {w w1 w2 : World} (h : PQ b l i w w1) (k : Below w1.heap.size w1 w2) : PQ b l i w w2 := ⟨h.ap.trans (Apart.of_below k h.ps.st.lt), ⟨h.ps.st.on k h.ps.st.lt, h.ps.le, h.ps.len, h.ps.kd.below k, h.ps.kb⟩⟩
theorem PS.on {b : Nat} {l : List UInt8} {i : Nat} {w w' : World} (h : PS b l i w) {B : Nat} (k : Below B w w') (hb : b < B) : PS b l i w' := ⟨h.st.on k hb, h.le, h.len, h.kd.on (Nat.lt_trans h.kb hb) k, h.kb⟩
theorem PQ.far {b : Nat} {l : List UInt8} {i : Nat} {w w1 w2 : World} (h : PQ b l i w w1) (k : Below w.heap.size w1 w2) (hb : b < w.heap.size) : PQ b l i w w2 := ⟨⟨h.ap.1.trans (k.mono (Nat.le_of_lt hb)), fun j h1 h2 => (k.block j h2).trans (h.ap.2 j h1 h2)⟩, h.ps.on k hb⟩
theorem psE_one (l : List UInt8) (at_ x : Nat) : ∀ i, i < 3 → Upd (psE l at_ 0) 1 (.int .i64 (x : Int)) i = psE l x 0 i := fun i hi => by
 match i, hi with
 | 0, _ => rfl
 | 1, _ => rfl
 | 2, _ => rfl
theorem PS.to {b : Nat} {l : List UInt8} {i : Nat} {w : World} (h : PS b l i w) (j : Nat) (hj : j ≤ l.length) : PQ b l j w (w.setCell ⟨b, 1, none⟩ (.int .i64 (j : Int))) := ⟨Apart.setCell w 1 _, ⟨(h.st.set 1 (by omega) _).cong (psE_one l i j), hj, h.len, h.kd.ap h.kb (Apart.setCell w 1 _), h.kb⟩⟩
theorem PS.c0 {b : Nat} {l : List UInt8} {i : Nat} {w : World} (h : PS b l i w) : w.cell? ⟨b, 0, none⟩ = some (.string ⟨l.toArray⟩) := h.st.ev 0 (by omega)
theorem PS.c1 {b : Nat} {l : List UInt8} {i : Nat} {w : World} (h : PS b l i w) : w.cell? ⟨b, 1, none⟩ = some (.int .i64 (i : Int)) := h.st.ev 1 (by omega)
theorem PS.c2 {b : Nat} {l : List UInt8} {i : Nat} {w : World} (h : PS b l i w) : w.cell? ⟨b, 2, none⟩ = some (.int .i64 0) := h.st.ev 2 (by omega)
set_option maxHeartbeats 4000000 in
set_option maxRecDepth 1000000 in
theorem pnext_ok (b : Nat) (l : List UInt8) (at_ : Nat) (w : World) (h : PS b l at_ w) (v : Nat) (hv : Asc.at_ l at_ = v) (hv2 : v < 256) : Calls Tryz.prog 101 #[.pointer (some ⟨b, 0, none⟩)] w fun r w' => r = .returned (.tuple #[.int .u8 (v : Int), .bool true]) ∧ PQ b l at_ w w' := by
 have hl : at_ < l.length := Asc.at_lt (by omega)
 have hb := h.st.lt
 have c0 := h.c0
 have c1 := h.c1
 have c2 := h.c2
 have H := Lib.hid h
 obtain ⟨c, ⟨_, hx⟩, hc, _⟩ := byte_at l at_ hl
 have e : c = v := by rw [← hc, ← hv, Asc.at_of hl]
 rw [e] at hx
 clear h e hc hv
 have z1 : decide ((l.length : Int) ≤ (at_ : Int)) = false := decide_eq_false (by omega)
 have y1 : decide (l.length ≤ at_) = false := decide_eq_false (by omega)
 have i1 : (at_ : Int) < (l.length : Int) := by omega
 have i2 : (0 : Int) ≤ (at_ : Int) := by omega
 go_enter Tryz.func101, Tryz.ntmps101
 go_wp2_with fail
 go_quiet (fail)
 go_wp2_with fail
 go_quiet (fail)
 go_wp2_with fail
 go_ret2
 exact ⟨rfl, (H.out.drewN _).trans ((H.out.drewN _).ps.drewN _)⟩
set_option maxHeartbeats 4000000 in
set_option maxRecDepth 1000000 in
theorem pnext_end (b : Nat) (l : List UInt8) (at_ : Nat) (w : World) (h : PS b l at_ w) (hl : l.length ≤ at_) : Calls Tryz.prog 101 #[.pointer (some ⟨b, 0, none⟩)] w fun r w' => r = .returned (.tuple #[.int .u8 0, .bool false]) ∧ PQ b l at_ w w' := by
 have hb := h.st.lt
 have c0 := h.c0
 have c1 := h.c1
 have c2 := h.c2
 have H := Lib.hid h
 clear h
 have z1 : decide ((l.length : Int) ≤ (at_ : Int)) = true := decide_eq_true (by omega)
 have y1 : decide (l.length ≤ at_) = true := decide_eq_true (by omega)
 go_enter Tryz.func101, Tryz.ntmps101
 go_wp2_with fail
 go_quiet (fail)
 go_wp2_with fail
 go_ret2
 exact ⟨rfl, H.out.drewN _⟩
end Go.Proofs.YtmpbjaodgajnfaaGreatDoor
namespace Go.Proofs.YtmpbjaodgajnfaaGreatDoor
open Go.RowKit
set_option maxHeartbeats 4000000 in
set_option maxRecDepth 1000000 in
theorem psees_yes (b : Nat) (l : List UInt8) (at_ : Nat) (w : World) (h : PS b l at_ w) (c : Nat) (hc : Asc.at_ l at_ = c) (hc2 : c < 256) : Calls Tryz.prog 103 #[.pointer (some ⟨b, 0, none⟩), .int .u8 (c : Int)] w fun r w' => r = .returned (.bool true) ∧ PQ b l at_ w w' := by
 have HN := Lib.hid (pnext_ok b l at_ w h c hc hc2)
 clear h hc
 go_enter Tryz.func103, Tryz.ntmps103
 go_wp2_with (go_at_call 101; refine HN.out.mono ?_; rintro e w1 ⟨rfl, hq⟩; have HQ := Lib.hid hq; clear hq)
 go_ret
 exact ⟨rfl, HQ.out⟩
set_option maxHeartbeats 4000000 in
set_option maxRecDepth 1000000 in
theorem psees_no (b : Nat) (l : List UInt8) (at_ : Nat) (w : World) (h : PS b l at_ w) (c : Nat) (hc : Asc.at_ l at_ ≠ c) : Calls Tryz.prog 103 #[.pointer (some ⟨b, 0, none⟩), .int .u8 (c : Int)] w fun r w' => r = .returned (.bool false) ∧ PQ b l at_ w w' := by
 by_cases hl : at_ < l.length
 ·obtain ⟨v, hv⟩ : ∃ v, Asc.at_ l at_ = v := ⟨_, rfl⟩
  have HN := Lib.hid (pnext_ok b l at_ w h v hv (by have := Asc.at_le hl; omega))
  have z1 : ((v : Int) == (c : Int)) = false := by rw [beq_eq_false_iff_ne]; omega
  clear h hc hv hl
  go_enter Tryz.func103, Tryz.ntmps103
  go_wp2_with (go_at_call 101; refine HN.out.mono ?_; rintro e w1 ⟨rfl, hq⟩; have HQ := Lib.hid hq; clear hq)
  go_ret
  exact ⟨rfl, HQ.out⟩
 ·have HN := Lib.hid (pnext_end b l at_ w h (by omega))
  clear h hc hl
  go_enter Tryz.func103, Tryz.ntmps103
  go_wp2_with (go_at_call 101; refine HN.out.mono ?_; rintro e w1 ⟨rfl, hq⟩; have HQ := Lib.hid hq; clear hq)
  go_ret
  exact ⟨rfl, HQ.out⟩
set_option maxHeartbeats 4000000 in
set_option maxRecDepth 1000000 in
theorem ptakes_yes (b : Nat) (l : List UInt8) (at_ : Nat) (w : World) (h : PS b l at_ w) (c : Nat) (hc : Asc.at_ l at_ = c) (hc2 : c < 256) : Calls Tryz.prog 74 #[.pointer (some ⟨b, 0, none⟩), .int .u8 (c : Int)] w fun r w' => r = .returned (.bool true) ∧ PQ b l (at_ + 1) w w' := by
 have HN := Lib.hid (psees_yes b l at_ w h c hc hc2)
 have hl : at_ < l.length := Asc.at_lt (by omega)
 have hl2 := h.len
 have hw : IntKind.i64.wrap ((at_ : Int) + 1) = (at_ : Int) + 1 := IntWalk.i64_in _ (by omega)
 have HL := Lib.hid hl
 clear h hc hl
 go_enter Tryz.func74, Tryz.ntmps74
 go_wp2_with (go_at_call 103; refine HN.out.mono ?_; rintro e w1 ⟨rfl, hq⟩; have HQ := Lib.hid hq; have c1 := hq.ps.c1; have f1 := hq.ps.st.fz 1; clear hq)
 go_ret
 exact ⟨rfl, HQ.out.trans (HQ.out.ps.to (at_ + 1) HL.out)⟩
set_option maxHeartbeats 4000000 in
set_option maxRecDepth 1000000 in
theorem pexpect_yes (b : Nat) (l : List UInt8) (at_ : Nat) (w : World) (h : PS b l at_ w) (c : Nat) (hc : Asc.at_ l at_ = c) (hc2 : c < 256) : Calls Tryz.prog 156 #[.pointer (some ⟨b, 0, none⟩), .int .u8 (c : Int)] w fun r w' => r = .returned (.tuple #[]) ∧ PQ b l (at_ + 1) w w' := by
 have HN := Lib.hid (ptakes_yes b l at_ w h c hc hc2)
 clear h hc
 go_enter Tryz.func156, Tryz.ntmps156
 go_wp2_with (go_at_call 74; refine HN.out.mono ?_; rintro e w1 ⟨rfl, hq⟩; have HQ := Lib.hid hq; clear hq)
 go_end0
 exact ⟨rfl, HQ.out⟩
def joinT (op : Int) (ts : List NT) : NT := match ts with
 | [] => .node 0 [] [] [] 0 0
 | [t] => t
 | t :: u :: r => .node op [] [] (t :: u :: r) 0 0
def NB (B : Nat) (t : NT) (w : World) (e : Ending) (w' : World) : Prop := ∃ v, e = .returned v ∧ NG (fun k => B ≤ k) w' t v ∧ Below w.heap.size w w'
theorem new_ret {fn : Func} {P : Tmp} (hfn : fn.results = #[.cell P 33]) {w : World} {v0 v1 v2 v3 v4 v5 : Value} {ty : TypeId} {tmps : Array Value} {df : _} (hdf : df = []) (hp : tmps.getD P undef = .pointer (some ⟨w.heap.size, 0, none⟩)) {post : Ending → World → Prop}
  (h : post (.returned (.agg #[v0, v1, v2, v3, v4, v5])) (w.alloc (.cells #[v0, v1, v2, v3, v4, v5] ty))) :
  bodyPost Tryz.prog fn post Exit.ret { tmps := tmps, defers := df } (w.alloc (.cells #[v0, v1, v2, v3, v4, v5] ty)) :=
 bodyPost_ret (results_cell_row hfn tmps _ w.heap.size ty #[v0, v1, v2, v3, v4, v5] (0, 0) _ hp (heap_alloc_new w _) Tryz.underlying33 rfl (by kernel_rfl)) hdf h
theorem al_below (w : World) (o : Obj) : Below w.heap.size w (w.alloc o) := (Below.refl _ w).alloc (Nat.le_refl _) o
theorem al_stay {B : Nat} (w : World) (o : Obj) : Stay (fun k => B ≤ k) (fun k => B ≤ k) w (w.alloc o) := ⟨(al_below w o).size, fun k hk hl => ⟨hk, (al_below w o).block k hl⟩⟩
set_option maxHeartbeats 8000000 in
set_option maxRecDepth 1000000 in
theorem join_any (op : Int) (ts : List NT) (v : Value) (w : World) (B : Nat) (h : RW (fun k => B ≤ k) 6 (KR (fun k => B ≤ k) w) w ts v) : Calls Tryz.prog 75 #[.int .i64 op, v] w (NB B (joinT op ts) w) := by
 have H := Lib.hid h
 obtain ⟨a, c, rfl, hm, hk⟩ := h
 have HK := Lib.hid hk
 clear hk
 match ts, H, HK, hm with
 | [], H, HK, hm =>
  clear hm
  go_enter Tryz.func75, Tryz.ntmps75
  go_wp2_with fail
  refine new_ret (P := 4) rfl rfl (by rfl) ⟨_, rfl, ?_, al_below w _⟩
  exact NG.node (rs := []) (kids := []) RW.nil RW.nil 0 [] 0 0 (by simp)
 | [t], H, HK, hm =>
  obtain ⟨blk, off, rfl, hl, hF, hc⟩ := HK.out (by simp)
  obtain ⟨us, hu, hcell, hr⟩ := hc 0 (by simp)
  have HR := Lib.hid hr
  obtain ⟨op', rs, nm, kids, mn, mx, ra, rc, a', c', ht, ev, _⟩ := NG.open hr
  have eu : us = [.int .i64 op', .slice ra rs.length rc, .string ⟨nm.toArray⟩, .slice a' kids.length c', .int .i64 mn, .int .i64 mx] := by
   injection ev with ev
   have := congrArg Array.toList ev
   simpa using this
  subst eu
  have hal : ∀ j, (w.alloc (.cells #[.int .i64 0, .slice none 0 0, .string ⟨#[]⟩, .slice none 0 0, .int .i64 0, .int .i64 0] 33)).cell? ⟨blk, j, none⟩ = w.cell? ⟨blk, j, none⟩ := fun j => (al_below w _).cell (p := ⟨blk, j, none⟩) hl
  have e0 := (hal _).trans ((hcell 0 (by simp)).trans (show _ = some (Value.int .i64 op') from rfl))
  have e1 := (hal _).trans ((hcell 1 (by simp)).trans (show _ = some (Value.slice ra rs.length rc) from rfl))
  have e2 := (hal _).trans ((hcell 2 (by simp)).trans (show _ = some (Value.string ⟨nm.toArray⟩) from rfl))
  have e3 := (hal _).trans ((hcell 3 (by simp)).trans (show _ = some (Value.slice a' kids.length c') from rfl))
  have e4 := (hal _).trans ((hcell 4 (by simp)).trans (show _ = some (Value.int .i64 mn) from rfl))
  have e5 := (hal _).trans ((hcell 5 (by simp)).trans (show _ = some (Value.int .i64 mx) from rfl))
  clear hm hal hcell hc hr hF ev ht
  simp only [Nat.zero_mul, Nat.add_zero] at e0 e1 e2 e3 e4 e5
  go_enter Tryz.func75, Tryz.ntmps75
  go_wp2_with fail
  exact new_ret (P := 4) rfl rfl (by rfl) ⟨_, rfl, NG.go (al_stay w _) _ _ HR.out, al_below w _⟩
 | t :: u :: r, H, HK, hm =>
  obtain ⟨n, hn⟩ : ∃ n, (t :: u :: r).length = n := ⟨_, rfl⟩
  have hn2 : 2 ≤ n := by rw [← hn]; simp
  have z0 : ((n : Int) == 0) = false := by rw [beq_eq_false_iff_ne]; omega
  have z1 : ((n : Int) == 1) = false := by rw [beq_eq_false_iff_ne]; omega
  rw [hn] at H ⊢
  clear hm hn HK
  go_enter Tryz.func75, Tryz.ntmps75
  go_wp2_with fail
  refine new_ret (P := 4) rfl rfl (by rfl) ⟨_, rfl, ?_, al_below w _⟩
  exact NG.node (rs := []) (kids := t :: u :: r) RW.nil (H.out.go (al_stay w _) (fun _ _ h => KR.go (al_stay w _) _ _ h)) op [] 0 0 (by simp)
end Go.Proofs.YtmpbjaodgajnfaaGreatDoor
namespace Go.Proofs.YtmpbjaodgajnfaaGreatDoor
open Go.RowKit
def capN (l : List UInt8) : Nat := if 0 < nlen l ∧ Asc.at_ l (nlen l) = 58 then nlen l else 0
theorem capN_no (l : List UInt8) (h : ¬ (0 < nlen l ∧ Asc.at_ l (nlen l) = 58)) : capN l = 0 := if_neg h
theorem capN_yes (l : List UInt8) (h : 0 < nlen l) (h2 : Asc.at_ l (nlen l) = 58) : capN l = nlen l := if_pos ⟨h, h2⟩
set_option maxHeartbeats 4000000 in
set_option maxRecDepth 1000000 in
theorem capt_any (l : List UInt8) (w : World) (hk : Kinds w) (hml : l.length ≤ 9223372036854775807) :
  Calls Tryz.prog 165 #[.string ⟨l.toArray⟩] w fun e w' => e = .returned (.int .i64 (capN l)) ∧ w = w' := by
 have HN := Lib.hid (nlen_any l w hk hml)
 obtain ⟨n, hn⟩ : ∃ n, nlen l = n := ⟨_, rfl⟩
 obtain ⟨R, hR⟩ : ∃ R, capN l = R := ⟨_, rfl⟩
 have h0 : ¬ (0 < n ∧ Asc.at_ l n = 58) → 0 = R := fun h => by rw [← hR, capN_no l (by rw [hn]; exact h)]
 have h1 : 0 < n → Asc.at_ l n = 58 → n = R := fun h h2 => by rw [← hR, capN_yes l (by rw [hn]; exact h) (by rw [hn]; exact h2), hn]
 rw [hn] at HN
 rw [hR]
 have H0 := Lib.hid h0
 have H1 := Lib.hid h1
 clear hn hR h0 h1 hk
 rcases Nat.eq_zero_or_pos n with rfl | hpos
 ·have HZ := Lib.hid (H0.out (by omega))
  go_enter Tryz.func165, Tryz.ntmps165
  go_wp2_with (go_at_call 132; refine HN.out.mono ?_; rintro e w' ⟨rfl, rfl⟩)
  go_ret
  exact ⟨ret_int (by rw [← HZ.out]; rfl), rfl⟩
 ·have z0 : decide ((0 : Int) < (n : Int)) = true := decide_eq_true (by omega)
  have y0 : decide (0 < n) = true := decide_eq_true hpos
  by_cases hlt : n < l.length
  ·have z1 : decide ((n : Int) < (l.length : Int)) = true := decide_eq_true (by omega)
   have y1 : decide (n < l.length) = true := decide_eq_true hlt
   have i1 : (n : Int) < (l.length : Int) := by omega
   have i2 : (0 : Int) ≤ (n : Int) := by omega
   obtain ⟨c, ⟨_, hx⟩, hc, hb⟩ := byte_at l n hlt
   have hc' : Asc.at_ l n = c := by rw [Asc.at_of hlt, hc]
   by_cases h58 : c = 58
   ·have HZ := Lib.hid (H1.out hpos (by rw [hc', h58]))
    subst h58
    clear hc hc'
    go_enter Tryz.func165, Tryz.ntmps165
    go_wp2_with (go_at_call 132; refine HN.out.mono ?_; rintro e w' ⟨rfl, rfl⟩)
    go_ret
    exact ⟨ret_int (by rw [← HZ.out]), rfl⟩
   ·have z2 : ((c : Int) == 58) = false := by rw [beq_eq_false_iff_ne]; omega
    have HZ := Lib.hid (H0.out (fun h => h58 (hc'.symm.trans h.2)))
    clear hc hc' h58
    go_enter Tryz.func165, Tryz.ntmps165
    go_wp2_with (go_at_call 132; refine HN.out.mono ?_; rintro e w' ⟨rfl, rfl⟩)
    go_ret
    exact ⟨ret_int (by rw [← HZ.out]; rfl), rfl⟩
  ·have z1 : decide ((n : Int) < (l.length : Int)) = false := decide_eq_false (by omega)
   have y1 : decide (n < l.length) = false := decide_eq_false hlt
   have HZ := Lib.hid (H0.out (fun h => hlt (Asc.at_lt (by omega))))
   clear hlt
   go_enter Tryz.func165, Tryz.ntmps165
   go_wp2_with (go_at_call 132; refine HN.out.mono ?_; rintro e w' ⟨rfl, rfl⟩)
   go_ret
   exact ⟨ret_int (by rw [← HZ.out]; rfl), rfl⟩
set_option maxHeartbeats 4000000 in
set_option maxRecDepth 1000000 in
theorem printable_yes (c : Nat) (w : World) (h1 : 32 ≤ c) (h2 : c ≤ 126) : Calls Tryz.prog 153 #[.int .u8 (c : Int)] w fun e w' => e = .returned (.bool true) ∧ w = w' := by
 have z1 : decide ((32 : Int) ≤ (c : Int)) = true := decide_eq_true (by omega)
 have y1 : decide (32 ≤ c) = true := decide_eq_true h1
 have z2 : decide ((c : Int) ≤ 126) = true := decide_eq_true (by omega)
 have y2 : decide (c ≤ 126) = true := decide_eq_true h2
 go_enter Tryz.func153, Tryz.ntmps153
 go_wp2_with fail
 go_ret
 exact ⟨rfl, rfl⟩
set_option maxHeartbeats 4000000 in
set_option maxRecDepth 1000000 in
theorem slite_any (s : ByteArray) (c : Int) (w : World) : Calls Tryz.prog 172 #[.string s, .int .u8 c] w fun e w' => e = .returned (.int .i64 (Lib.indexByte s.data.toList c.toNat.toUInt8)) ∧ w' = w := by
 go_enter Tryz.func172, Tryz.ntmps172
 go_wp2
 rw [run_callFunc_extern Tryz.func176 (by kernel_rfl) (by kernel_rfl) (by kernel_rfl) (e := Extern.BytealgIndexByte.indexByte) (by kernel_rfl), Lib.run_indexByteString]
 simp only [Result.andThen]
 rw [Oper.upon_value]
 go_wp2
 go_ret
 exact ⟨rfl, rfl⟩
set_option maxHeartbeats 4000000 in
set_option maxRecDepth 1000000 in
theorem ibyte_any (s : ByteArray) (c : Int) (w : World) : Calls Tryz.prog 154 #[.string s, .int .u8 c] w fun e w' => e = .returned (.int .i64 (Lib.indexByte s.data.toList c.toNat.toUInt8)) ∧ w' = w := by
 go_enter Tryz.func154, Tryz.ntmps154
 go_wp2_with (go_at_call 172; refine (slite_any _ _ _).mono ?_; rintro e w' ⟨rfl, rfl⟩)
 go_ret
 exact ⟨rfl, rfl⟩
def spec : List UInt8 := [40, 41, 91, 93, 123, 125, 42, 43, 63, 124, 46, 94, 36, 92]
theorem special_no (c : UInt8) (w : World) (h : c ∉ spec) : Calls Tryz.prog 154 #[.string ⟨#[40, 41, 91, 93, 123, 125, 42, 43, 63, 124, 46, 94, 36, 92]⟩, .int .u8 (c.toNat : Int)] w fun e w' => e = .returned (.int .i64 (-1)) ∧ w' = w := by
 refine (ibyte_any _ _ w).mono ?_
 rintro e w' ⟨rfl, rfl⟩
 refine ⟨?_, rfl⟩
 show Ending.returned (.int .i64 (Lib.indexByte spec _)) = _
 rw [u8_of, Asc.indexByte_pos, if_neg (Asc.pos_none fun j hj => fun e => h (by rw [← e]; exact List.getElem_mem hj))]
theorem ret_set3 {fn : Func} {p t u : Tmp} (hfn : fn.results = #[.cell p 213, .tmp t, .tmp u]) {w : World} {f : Nat → Bool} {g : Nat} {ty : TypeId} (hg : w.heap[g]? = some (.cells (setA f) ty (0, 0))) {tmps : Array Value} {df : _} (hdf : df = []) (hp : tmps.getD p undef = .pointer (some ⟨g, 0, none⟩)) {post : Ending → World → Prop}
  (h : post (.returned (.tuple #[.agg (setA f), tmps.getD t undef, tmps.getD u undef])) w) : bodyPost Tryz.prog fn post Exit.ret { tmps := tmps, defers := df } w := by
 have hp' : tmps[p]?.getD undef = .pointer (some ⟨g, 0, none⟩) := by simpa using hp
 have hl := run_loadVar_row (P := Tryz.prog) w g ty 213 (setA f) (0, 0) _ hg undS rfl (by rw [setA_size]; exact (zero_of_info infoS).2)
 exact bodyPost_ret (by simp [results, hfn, hp', asAddr, hl]) hdf h
theorem put_set2 {W : World} {g : Nat} {f : Nat → Bool} {t : TypeId} (hg : W.heap[g]? = some (.cells (setA f) t (0, 0))) (f' : Nat → Bool) : ∃ W', (storeCells ⟨g, 0, none⟩ (setA f').toList).run Tryz.prog W = .ok () W' ∧ W'.heap[g]? = some (.cells (setA f') t (0, 0)) ∧ Below g W W' ∧ (storeCells ⟨g, 0, none⟩ (setA f').toList).run Tryz.prog W' = .ok () W' := by
 have h1 := setRow_heap W g _ (setA f') t (0, 0) hg
 refine ⟨_, put_set hg f', h1, below_setRow (Below.refl _ W) (Nat.le_refl _) _, ?_⟩
 have := put_set h1 f'
 rwa [setRow_self _ _ _ _ _ h1] at this
theorem put_self {W : World} {g : Nat} {f : Nat → Bool} {t : TypeId} (hg : W.heap[g]? = some (.cells (setA f) t (0, 0))) : (storeCells ⟨g, 0, none⟩ (setA f).toList).run Tryz.prog W = .ok () W := by
 have := put_set hg f
 rwa [setRow_self _ _ _ _ _ hg] at this
end Go.Proofs.YtmpbjaodgajnfaaGreatDoor
namespace Go.Proofs.YtmpbjaodgajnfaaGreatDoor
open Go.RowKit
structure PR (b : Nat) (l : List UInt8) (i : Nat) (w W : World) : Prop where
 pq : PQ b l i w W
 bk : BK w.heap.size 6 (nE 0 none 0 0 [] none 0 0 0 0) W
 hb : b < w.heap.size
theorem PR.start {b : Nat} {l : List UInt8} {i : Nat} {w : World} (h : PS b l i w) : PR b l i w (w.alloc (.cells #[.int .i64 0, .slice none 0 0, .string ⟨#[]⟩, .slice none 0 0, .int .i64 0, .int .i64 0] 33)) := ⟨(PQ.refl h).on (al_below w _), nE_new w 0 none 0 0 [] none 0 0 0 0, h.st.lt⟩
theorem PR.go {b : Nat} {l : List UInt8} {i j : Nat} {w W W' : World} (h : PR b l i w W) (k : PQ b l j W W') : PR b l j w W' := ⟨h.pq.trans k, h.bk.go k.ap (Nat.ne_of_gt h.hb), h.hb⟩
theorem PR.sz {b : Nat} {l : List UInt8} {i : Nat} {w W : World} (h : PR b l i w W) : w.heap.size < W.heap.size := h.bk.lt
theorem PR.far {b : Nat} {l : List UInt8} {i : Nat} {w W W' : World} (h : PR b l i w W) (k : Below (w.heap.size + 1) W W') : PR b l i w W' := ⟨h.pq.far (k.mono (Nat.le_succ _)) h.hb, h.bk.on k (Nat.lt_succ_self _), h.hb⟩
theorem PR.on {b : Nat} {l : List UInt8} {i : Nat} {w W W' : World} (h : PR b l i w W) (k : Below W.heap.size W W') : PR b l i w W' := h.far (k.mono h.sz)
theorem PR.ps {b : Nat} {l : List UInt8} {i : Nat} {w W : World} (h : PR b l i w W) : PS b l i W := h.pq.ps
theorem NG.up {W W' : World} {B : Nat} {t : NT} {v : Value} (h : NG (fun k => W.heap.size ≤ k) W' t v) (hB : B < W.heap.size) : NG (fun k => B < k) W' t v := NG.go ⟨Nat.le_refl _, fun _ hk _ => ⟨Nat.lt_of_lt_of_le hB hk, rfl⟩⟩ _ _ h
end Go.Proofs.YtmpbjaodgajnfaaGreatDoor
namespace Go.Proofs.YtmpbjaodgajnfaaGreatDoor
open Go.RowKit
theorem NG.pq {b B j : Nat} {l : List UInt8} {W W' : World} {t : NT} {v : Value} (h : NG (fun k => B < k) W t v) (k : PQ b l j W W') (hb : b ≤ B) : NG (fun k => B < k) W' t v := NG.go ⟨k.ap.1.size, fun _ hk hl => ⟨hk, k.ap.block (by omega) hl⟩⟩ _ _ h
theorem NG.low {B : Nat} {W W' : World} {t : NT} {v : Value} (h : NG (fun k => B < k) W t v) (k : Below W.heap.size W W') : NG (fun k => B < k) W' t v := NG.go ⟨k.size, fun _ hk hl => ⟨hk, k.block _ hl⟩⟩ _ _ h
theorem bkn {b : Nat} {W : World} {op : Int} {ra : Option Addr} {rn rc : Nat} {nm : List UInt8} {a : Option Addr} {n c : Nat} {mn mx : Int} (h : BK b 6 (nE op ra rn rc nm a n c mn mx) W) :
  W.cell? ⟨b, 0, none⟩ = some (.int .i64 op) ∧ W.cell? ⟨b, 1, none⟩ = some (.slice ra rn rc) ∧ W.cell? ⟨b, 2, none⟩ = some (.string ⟨nm.toArray⟩) ∧ W.cell? ⟨b, 3, none⟩ = some (.slice a n c) ∧ W.cell? ⟨b, 4, none⟩ = some (.int .i64 mn) ∧ W.cell? ⟨b, 5, none⟩ = some (.int .i64 mx) :=
 ⟨h.ev 0 (by omega), h.ev 1 (by omega), h.ev 2 (by omega), h.ev 3 (by omega), h.ev 4 (by omega), h.ev 5 (by omega)⟩
structure PA (b : Nat) (l : List UInt8) (i : Nat) (w : World) (q : Nat) (E : Nat → Value) (t : NT) (v : Value) (W : World) : Prop where
 pr : PR b l i w W
 bk : BK q 6 E W
 ng : NG (fun k => w.heap.size < k) W t v
 hq : w.heap.size < q
theorem PA.go {b : Nat} {l : List UInt8} {i j : Nat} {w : World} {q : Nat} {E : Nat → Value} {t : NT} {v : Value} {W W' : World} (h : PA b l i w q E t v W) (k : PQ b l j W W') : PA b l j w q E t v W' := ⟨h.pr.go k, h.bk.go k.ap (by have := h.pr.hb; have := h.hq; omega), h.ng.pq k (Nat.le_of_lt h.pr.hb), h.hq⟩
theorem PA.start {b : Nat} {l : List UInt8} {j : Nat} {w W : World} {t : NT} {op : Int} {ra : Option Addr} {rn rc : Nat} {nm : List UInt8} {a : Option Addr} {n c : Nat} {mn mx : Int} (h : PR b l j w W) (hT : NG (fun k => w.heap.size < k) W t (.agg #[.int .i64 op, .slice ra rn rc, .string ⟨nm.toArray⟩, .slice a n c, .int .i64 mn, .int .i64 mx])) :
  PA b l j w W.heap.size (nE op ra rn rc nm a n c mn mx) t (.agg #[.int .i64 op, .slice ra rn rc, .string ⟨nm.toArray⟩, .slice a n c, .int .i64 mn, .int .i64 mx]) (W.alloc (.cells #[.int .i64 op, .slice ra rn rc, .string ⟨nm.toArray⟩, .slice a n c, .int .i64 mn, .int .i64 mx] 33)) :=
 ⟨h.on (al_below W _), nE_new W op ra rn rc nm a n c mn mx, hT.low (al_below W _), h.sz⟩
end Go.Proofs.YtmpbjaodgajnfaaGreatDoor
namespace Go.Proofs.YtmpbjaodgajnfaaGreatDoor
open Go.RowKit
end Go.Proofs.YtmpbjaodgajnfaaGreatDoor
namespace Go.Proofs.YtmpbjaodgajnfaaGreatDoor
open Go.RowKit
structure SL (b : Nat) (l : List UInt8) (i : Nat) (w : World) (kids : List NT) (v : Value) (W : World) : Prop where
 pr : PR b l i w W
 row : OR (w.heap.size + 1) 33 6 (KR (FF (fun k => w.heap.size < k) v) W) W kids v
section
variable {b i j : Nat} {l : List UInt8} {w W W' : World} {kids : List NT} {v x : Value} {t : NT}
theorem SL.start (h : PR b l i w W) : SL b l i w [] (.slice none 0 0) W := ⟨h, OR.nil⟩
theorem SL.go (h : SL b l i w kids v W) (k : PQ b l j W W') : SL b l j w kids v W' :=
 ⟨h.pr.go k, h.row.keep (fun m h1 h2 => k.ap.block (by have := h.pr.hb; omega) h2) (fun _ _ hx => KR.go ⟨k.ap.1.size, fun m hm hl => ⟨hm, k.ap.block (by have := h.pr.hb; have := hm.1; omega) hl⟩⟩ _ _ hx)⟩
theorem SL.new (h : SL b l i w kids v W) (hT : NG (fun k => W.heap.size ≤ k) W' t x) : NG (FF (fun k => w.heap.size < k) v) W' t x :=
 NG.go ⟨Nat.le_refl _, fun k hk _ => ⟨⟨Nat.lt_of_lt_of_le h.pr.sz hk, fun e => by have := (h.row.lt e).2; omega⟩, rfl⟩⟩ _ _ hT
theorem SL.push {o : Obj} {g' cap H : Nat} {W5 : World} (h : SL b l i w kids v W) (cs : List Value) (hown : W.ownsRow (w.heap.size + 1) 33 6 v kids.length cs)
  (hpush : ∀ (R' : NT → List Value → Prop) (W' : World) (x : NT) (us : List Value) (v' : Value), (∀ x us, KR (FF (fun k => w.heap.size < k) v) W x us → R' x us) → us.length = 6 → R' x us → kids.length + 1 ≤ 1000000 → W'.ownsRow (w.heap.size + 1) 33 6 v' (kids.length + 1) (cs ++ us) → OR (w.heap.size + 1) 33 6 R' W' (kids ++ [x]) v')
  (hgr : (W.alloc o).grownBy W5 v.ownBlock) (hat : v.ownBlock = some g' ∨ g' = H) (hH : H = (W.alloc o).heap.size) (us : List Value) (hu : us.length = 6) (hx : KR (FF (fun k => w.heap.size < k) v) W t us) (hl : kids.length + 1 ≤ 1000000)
  (ho : W5.ownsRow (w.heap.size + 1) 33 6 (.slice (some ⟨g', 0, none⟩) (kids.length + 1) cap) (kids.length + 1) (cs ++ us)) : SL b l i w (kids ++ [t]) (.slice (some ⟨g', 0, none⟩) (kids.length + 1) cap) W5 := by
 have hB := push_below hgr hown h.pr.sz
 have hst := push_stay (G := fun k => w.heap.size < k) (n := kids.length + 1) (cap := cap) hgr (hat.imp id (fun e => by rw [e, hH]; simp))
 exact ⟨h.pr.far hB, hpush _ _ t us _ (fun _ _ h => KR.go hst _ _ h) hu (KR.go hst _ _ hx) hl ho⟩
theorem SL.rows (h : SL b l i w kids v W) : RW (fun k => w.heap.size + 1 ≤ k) 6 (KR (fun k => w.heap.size + 1 ≤ k) W) W kids v :=
 (h.row.rw (F := fun k => w.heap.size + 1 ≤ k) (fun _ h => h)).go ⟨Nat.le_refl _, fun _ hk _ => ⟨hk, rfl⟩⟩ (fun _ _ h => KR.go ⟨Nat.le_refl _, fun _ hk _ => ⟨hk.1, rfl⟩⟩ _ _ h)
end
end Go.Proofs.YtmpbjaodgajnfaaGreatDoor
namespace Go.Proofs.YtmpbjaodgajnfaaGreatDoor
open Go.RowKit
theorem SL.lit {b i : Nat} {l : List UInt8} {w W : World} {t : NT} (h : PR b l i w W) (us : List Value) (hu : us.length = 6) (hT : KR (fun k => w.heap.size < k) W t us) : SL b l i w [t] (.slice (some ⟨W.heap.size, 0, none⟩) 1 1) (W.alloc (.cells us.toArray 33)) :=
 ⟨h.on (al_below W _), OR.lit W t us h.sz hu (KR.go ⟨(al_below W _).size, fun k hk hl => ⟨⟨hk, fun e => by simp only [Value.ownBlock, Option.some.injEq] at e; omega⟩, (al_below W _).block k hl⟩⟩ _ _ hT)⟩
end Go.Proofs.YtmpbjaodgajnfaaGreatDoor
namespace Go.Proofs.YtmpbjaodgajnfaaGreatDoor
open Go.RowKit
theorem results_item3 {P : Program} {fn : Func} {p t u : Tmp} {ty : TypeId} (h : fn.results = #[.cell p ty, .tmp t, .tmp u]) (tmps : Array Value) (w : World) (g : Nat) (cs : List Value) (d : TypeDesc)
  (hp : tmps.getD p undef = .pointer (some ⟨g, 0, none⟩)) (hc : ∀ j v, cs[j]? = some v → w.cell? ⟨g, j, none⟩ = some v)
  (hu : P.underlying ty = some d) (hd : (match d with | .struct _ | .array _ _ => true | _ => false) = true) (hi : (P.info? ty).map (·.size) = some cs.length) :
  (results fn tmps).run P w = .ok (.tuple #[.agg cs.toArray, tmps.getD t undef, tmps.getD u undef]) w := by
 have hl : (loadCells ⟨g, 0, none⟩ cs.length).run P w = .ok cs.toArray w :=
  run_loadCells_list (P := P) w ⟨g, 0, none⟩ cs (fun j v hv => by
   have hadd : (⟨g, 0, none⟩ : Addr).add j = ⟨g, j, none⟩ := by unfold Addr.add; split <;> simp_all
   rw [hadd]
   exact hc j v hv)
 have hv : (loadVar ty ⟨g, 0, none⟩).run P w = .ok (.agg cs.toArray) w := by
  cases hq : P.info? ty with
  | none => simp [hq] at hi
  | some i =>
   have hs : i.size = cs.length := by simpa [hq] using hi
   have hagg : (isAgg ty).run P w = .ok true w := by
    unfold isAgg
    rw [Sem.run_bind, run_underlying hu w]
    cases d <;> simp_all
   simp [loadVar, Sem.run_bind, hagg, sizeOf, typeInfo, hq, hs, hl]
 have hp' : tmps[p]?.getD undef = .pointer (some ⟨g, 0, none⟩) := by simpa using hp
 simp [results, h, hp', asAddr, hv]
theorem item_ret3 {fn : Func} {P t u : Tmp} (hfn : fn.results = #[.cell P 33, .tmp t, .tmp u]) {W : World} {b : Nat} {E : Nat → Value} (hS : BK b 6 E W) {tmps : Array Value} {df : _} (hdf : df = []) (hp : tmps.getD P undef = .pointer (some ⟨b, 0, none⟩)) {v0 v1 v2 v3 v4 v5 : Value} {post : Ending → World → Prop}
  (h : post (.returned (.tuple #[.agg #[v0, v1, v2, v3, v4, v5], tmps.getD t undef, tmps.getD u undef])) (setL W b [v0, v1, v2, v3, v4, v5] 0)) :
  bodyPost Tryz.prog fn post Exit.ret { tmps := tmps, defers := df } (setL W b [v0, v1, v2, v3, v4, v5] 0) := by
 have hc := setL_at (b := b) [v0, v1, v2, v3, v4, v5] W 0 (fun j _ hj => ⟨_, hS.ev j (by simpa using hj)⟩)
 exact bodyPost_ret (results_item3 (ty := 33) hfn tmps _ b [v0, v1, v2, v3, v4, v5] _ hp (fun j v hv => by have := hc j v hv; rwa [Nat.zero_add] at this) Tryz.underlying33 rfl (by kernel_rfl)) hdf h
end Go.Proofs.YtmpbjaodgajnfaaGreatDoor
namespace Go.Proofs.YtmpbjaodgajnfaaGreatDoor
open Go.RowKit
theorem rngs_skip (f : Nat → Bool) (hi : Nat) (hhi : hi ≤ 256) : ∀ lo, lo ≤ hi → (∀ j, lo ≤ j → j < hi → f j = false) → rngs f lo = rngs f hi := by
 intro lo h1 h2
 obtain ⟨n, hn⟩ : ∃ n, hi - lo = n := ⟨_, rfl⟩
 induction n generalizing lo with
 | zero => rw [show lo = hi by omega]
 | succ n ih => rw [rngs_off f lo (by omega) (h2 lo (Nat.le_refl _) (by omega)), ih (lo + 1) (by omega) (fun j h3 h4 => h2 j (by omega) h4) (by omega)]
theorem runTo_all (f : Nat → Bool) (hi : Nat) (hhi : hi < 256) (hend : hi + 1 < 256 → f (hi + 1) = false) : ∀ lo, lo ≤ hi → (∀ j, lo < j → j ≤ hi → f j = true) → runTo f lo = hi := by
 intro lo h1 h2
 obtain ⟨n, hn⟩ : ∃ n, hi - lo = n := ⟨_, rfl⟩
 induction n generalizing lo with
 | zero => rw [show lo = hi by omega]; exact runTo_off f hi hend
 | succ n ih => rw [← runTo_on f lo (by omega) (h2 (lo + 1) (by omega) (by omega)), ih (lo + 1) (by omega) (fun j h3 h4 => h2 j (by omega) h4) (by omega)]
theorem rngs_one (f : Nat → Bool) (lo hi : Nat) (h : lo ≤ hi) (h2 : hi < 256) (hf : ∀ j, j < 256 → (f j = true ↔ lo ≤ j ∧ j ≤ hi)) : rngs f 0 = [(UInt8.ofNat lo, UInt8.ofNat hi)] := by
 have hno : ∀ j, j < 256 → ¬ (lo ≤ j ∧ j ≤ hi) → f j = false := fun j hj hn => by cases hh : f j with | false => rfl | true => exact absurd ((hf j hj).1 hh) hn
 rw [rngs_skip f lo (by omega) 0 (Nat.zero_le _) (fun j _ hj => hno j (by omega) (by omega)), rngs_on f lo (by omega) ((hf lo (by omega)).2 ⟨Nat.le_refl _, h⟩),
  runTo_all f hi h2 (fun h3 => hno _ h3 (by omega)) lo h (fun j h3 h4 => (hf j (by omega)).2 ⟨by omega, h4⟩), rngs_skip f 256 (Nat.le_refl _) (hi + 1) (by omega) (fun j h3 h4 => hno j h4 (by omega))]
 rw [rngs, dif_neg (by omega)]
theorem rngs_d : rngs Asc.isDigit 0 = [(48, 57)] := rngs_one _ 48 57 (by omega) (by omega) (fun j _ => by unfold Asc.isDigit; simp)
theorem rngs_c (c : UInt8) : rngs (spanF c.toNat (c.toNat + 1)) 0 = [(c, c)] := by
 have := UInt8.toNat_lt c
 rw [rngs_one _ c.toNat c.toNat (Nat.le_refl _) this (fun j _ => by unfold spanF; simp; omega)]
 simp
end Go.Proofs.YtmpbjaodgajnfaaGreatDoor
namespace Go.Proofs.YtmpbjaodgajnfaaGreatDoor
open Go.RowKit
def mixF (g f : Nat → Bool) (k j : Nat) : Bool := if j < k then g j else f j
theorem mixF_none (g f : Nat → Bool) : setA (mixF g f 0) = setA f := setA_congr fun i _ => by simp [mixF]
theorem mixF_all (g f : Nat → Bool) : setA (mixF g f 256) = setA g := setA_congr fun i h => by simp [mixF, h]
theorem mixF_succ (g f : Nat → Bool) (k : Nat) : setA (fun j => if j = k then g k else mixF g f k j) = setA (mixF g f (k + 1)) := setA_congr fun i _ => by
 unfold mixF
 by_cases e : i = k
 ·subst e
  simp
 ·rw [if_neg e]
  by_cases h : i < k
  ·rw [if_pos h, if_pos (by omega)]
  ·rw [if_neg h, if_neg (by omega)]
def SB (b : Nat) (f : Nat → Bool) (w : World) : Prop := w.heap[b]? = some (.cells (setA f) 213 (0, 0))
theorem SB.cell {b : Nat} {f : Nat → Bool} {w : World} (h : SB b f w) {i : Nat} (hi : i < 256) : w.cell? ⟨b, i, none⟩ = some (.bool (f i)) := by
 rw [cell_of_row _ _ _ _ _ _ h]
 exact setA_at f hi
theorem SB.lt {b : Nat} {f : Nat → Bool} {w : World} (h : SB b f w) : b < w.heap.size := (Array.getElem?_eq_some_iff.1 h).1
theorem SB.fz {b : Nat} {f : Nat → Bool} {w : World} (h : SB b f w) (i : Nat) : w.frozen? ⟨b, i, none⟩ = false := Lib.frozen_of_heap h i
theorem SB.set {b : Nat} {f : Nat → Bool} {w : World} (h : SB b f w) (k : Nat) (x : Bool) : SB b (fun j => if j = k then x else f j) (w.setCell ⟨b, k, none⟩ (.bool x)) := by
 unfold SB
 rw [← setA_set]
 exact heap_setCell_same w b k _ _ _ h
theorem SB.other {b b' : Nat} {f : Nat → Bool} {w : World} (h : SB b f w) (k : Nat) (v : Value) (hn : b ≠ b') : SB b f (w.setCell ⟨b', k, none⟩ v) := (heap_setCell_other w ⟨b', k, none⟩ b v hn).trans h
theorem SB.on {b B : Nat} {f : Nat → Bool} {w w' : World} (h : SB b f w) (k : Below B w w') (hb : b < B) : SB b f w' := (k.block b hb).trans h
theorem SB.go {b g : Nat} {f : Nat → Bool} {w w' : World} (h : SB b f w) (k : Apart g w w') (hb : b ≠ g) : SB b f w' := (k.block hb h.lt).trans h
theorem SB.eq {b : Nat} {f g : Nat → Bool} {w : World} (h : SB b f w) (e : setA f = setA g) : SB b g w := by unfold SB; rw [← e]; exact h
theorem SB.new (w : World) (f : Nat → Bool) : SB w.heap.size f (w.alloc (.cells (setA f) 213)) := heap_alloc_new w _
set_option maxHeartbeats 4000000 in
set_option maxRecDepth 1000000 in
theorem not_any (f : Nat → Bool) (w : World) : Calls Tryz.prog 150 #[.agg (setA f)] w fun e w' => e = .returned (.agg (setA (fun c => !f c))) ∧ Below w.heap.size w w' := by
 have hv := (zero_of_info infoS).1
 go_enter Tryz.func150, Tryz.ntmps150
 go_wp2
 rw [← setA_false]
 have H0 : Hid (SB w.heap.size (mixF (fun c => !f c) f 0) ((w.alloc (.cells (setA f) 213)).alloc (.cells (setA (fun _ => false)) 213))) := Lib.hid (((SB.new w f).on (al_below _ _) (by simp)).eq (mixF_none _ _).symm)
 have H1 : Hid (SB (w.heap.size + 1) (fun _ => false) ((w.alloc (.cells (setA f) 213)).alloc (.cells (setA (fun _ => false)) 213))) := Lib.hid (by have := SB.new (w.alloc (.cells (setA f) 213)) (fun _ => false); simpa using this)
 have HB : Hid (Below w.heap.size w ((w.alloc (.cells (setA f) 213)).alloc (.cells (setA (fun _ => false)) 213))) := Lib.hid ((al_below w _).trans ((al_below _ _).mono (by simp)))
 go_loopw [4] (fun i wr => ∃ (k : Nat), i = .int .i64 k ∧ k ≤ 256 ∧ Hid (SB w.heap.size (mixF (fun c => !f c) f k) wr) ∧ Hid (SB (w.heap.size + 1) (fun _ => false) wr) ∧ Hid (Below w.heap.size w wr)) (fun i _ => 256 - (intOf i).toNat)
 case atStart => exact ⟨0, rfl, by omega, H0, H1, HB⟩
 case round =>
  obtain ⟨k, rfl, hk, HS, HR, HBL⟩ := hrel
  clear H0 H1 HB
  by_cases hle : k < 256
  ·have z1 : decide ((k : Int) < 256) = true := decide_eq_true (by omega)
   have y1 : decide (k < 256) = true := decide_eq_true hle
   have i1 : (k : Int) < 256 := by omega
   have i2 : (0 : Int) ≤ (k : Int) := by omega
   have hw1 : IntKind.i64.wrap ((k : Int) + 1) = (k : Int) + 1 := IntWalk.i64_in _ (by omega)
   have hc : wr.cell? ⟨w.heap.size, k, none⟩ = some (.bool (f k)) := by
    rw [HS.out.cell hle]
    simp [mixF]
   have hf := HS.out.fz k
   go_wp2
   refine ⟨⟨k + 1, by go_num, by omega, Lib.hid ((HS.out.set k (!f k)).eq (mixF_succ (fun c => !f c) f k)), Lib.hid (HR.out.other k _ (by simp)), Lib.hid (HBL.out.setCell (p := ⟨w.heap.size, k, none⟩) (Nat.le_refl _) _)⟩, by simp [intOf]; omega⟩
  ·have z1 : decide ((k : Int) < 256) = false := decide_eq_false (by omega)
   have y1 : decide (k < 256) = false := decide_eq_false hle
   obtain rfl : k = 256 := by omega
   have hs := HS.out.eq (mixF_all (fun c => !f c) f)
   obtain ⟨w4, e4, h4, hb4, e4'⟩ := put_set2 HR.out (fun c => !f c)
   have HB4 := Lib.hid (HBL.out.trans (hb4.mono (Nat.le_succ _)))
   clear hb4 HS
   go_wp2_with fail
   refine wp_load_set _ rfl w.heap.size rfl _ _ hs ?_
   go_wp2_with fail
   exact ret_set rfl h4 rfl rfl ⟨rfl, HB4.out⟩
set_option maxHeartbeats 4000000 in
set_option maxRecDepth 1000000 in
theorem with_any (f g : Nat → Bool) (w : World) : Calls Tryz.prog 167 #[.agg (setA f), .agg (setA g)] w fun e w' => e = .returned (.agg (setA (fun c => f c || g c))) ∧ Below w.heap.size w w' := by
 have hv := (zero_of_info infoS).1
 go_enter Tryz.func167, Tryz.ntmps167
 go_wp2
 rw [← setA_false]
 have hb1 := al_below w (.cells (setA f) 213)
 have hb2 := al_below (w.alloc (.cells (setA f) 213)) (.cells (setA g) 213)
 have hb3 := al_below ((w.alloc (.cells (setA f) 213)).alloc (.cells (setA g) 213)) (.cells (setA (fun _ => false)) 213)
 obtain ⟨w0, hw0⟩ : ∃ w0, ((w.alloc (.cells (setA f) 213)).alloc (.cells (setA g) 213)).alloc (.cells (setA (fun _ => false)) 213) = w0 := ⟨_, rfl⟩
 have H0 : Hid (SB w.heap.size (mixF (fun c => f c || g c) f 0) w0) := Lib.hid (by rw [← hw0]; exact ((((SB.new w f).on hb2 (by simp)).on hb3 (by simp; omega)).eq (mixF_none _ _).symm))
 have H1 : Hid (SB (w.heap.size + 1) g w0) := Lib.hid (by
  have := SB.new (w.alloc (.cells (setA f) 213)) g
  rw [← hw0]
  exact SB.on (by simpa using this) hb3 (by simp))
 have H2 : Hid (SB (w.heap.size + 1 + 1) (fun _ => false) w0) := Lib.hid (by
  have := SB.new ((w.alloc (.cells (setA f) 213)).alloc (.cells (setA g) 213)) (fun _ => false)
  rw [← hw0]
  simpa using this)
 have HB : Hid (Below w.heap.size w w0) := Lib.hid (by rw [← hw0]; exact hb1.trans ((hb2.trans (hb3.mono hb2.size)).mono hb1.size))
 rw [hw0]
 clear hb1 hb2 hb3 hw0
 go_loopw [6] (fun i wr => ∃ (k : Nat), i = .int .i64 k ∧ k ≤ 256 ∧ Hid (SB w.heap.size (mixF (fun c => f c || g c) f k) wr) ∧ Hid (SB (w.heap.size + 1) g wr) ∧ Hid (SB (w.heap.size + 1 + 1) (fun _ => false) wr) ∧ Hid (Below w.heap.size w wr)) (fun i _ => 256 - (intOf i).toNat)
 case atStart => exact ⟨0, rfl, by omega, H0, H1, H2, HB⟩
 case round =>
  obtain ⟨k, rfl, hk, HS, HT, HR, HBL⟩ := hrel
  clear H0 H1 H2 HB
  by_cases hle : k < 256
  ·have z1 : decide ((k : Int) < 256) = true := decide_eq_true (by omega)
   have y1 : decide (k < 256) = true := decide_eq_true hle
   have i1 : (k : Int) < 256 := by omega
   have i2 : (0 : Int) ≤ (k : Int) := by omega
   have hw1 : IntKind.i64.wrap ((k : Int) + 1) = (k : Int) + 1 := IntWalk.i64_in _ (by omega)
   have hc : wr.cell? ⟨w.heap.size, k, none⟩ = some (.bool (f k)) := by
    rw [HS.out.cell hle]
    simp [mixF]
   have hd : wr.cell? ⟨w.heap.size + 1, k, none⟩ = some (.bool (g k)) := HT.out.cell hle
   have hf := HS.out.fz k
   have HX := Lib.hid (fun (x : Bool) (hx : (f k || g k) = x) => ((HS.out.set k x).eq (by rw [← hx]; exact mixF_succ (fun c => f c || g c) f k) : SB w.heap.size (mixF (fun c => f c || g c) f (k + 1)) (wr.setCell ⟨w.heap.size, k, none⟩ (.bool x))))
   cases hfk : f k with
   | true =>
    rw [hfk] at hc HX
    have HX' := Lib.hid (HX.out true rfl)
    clear HX hfk
    go_wp2
    refine ⟨⟨k + 1, by go_num, by omega, HX', Lib.hid (HT.out.other k _ (by simp)), Lib.hid (HR.out.other k _ (by omega)), Lib.hid (HBL.out.setCell (p := ⟨w.heap.size, k, none⟩) (Nat.le_refl _) _)⟩, by simp [intOf]; omega⟩
   | false =>
    rw [hfk] at hc HX
    have HX' := Lib.hid (HX.out (g k) rfl)
    clear HX hfk
    go_wp2
    refine ⟨⟨k + 1, by go_num, by omega, HX', Lib.hid (HT.out.other k _ (by simp)), Lib.hid (HR.out.other k _ (by omega)), Lib.hid (HBL.out.setCell (p := ⟨w.heap.size, k, none⟩) (Nat.le_refl _) _)⟩, by simp [intOf]; omega⟩
  ·have z1 : decide ((k : Int) < 256) = false := decide_eq_false (by omega)
   have y1 : decide (k < 256) = false := decide_eq_false hle
   obtain rfl : k = 256 := by omega
   have hs := HS.out.eq (mixF_all (fun c => f c || g c) f)
   obtain ⟨w4, e4, h4, hb4, e4'⟩ := put_set2 HR.out (fun c => f c || g c)
   have HB4 := Lib.hid (HBL.out.trans (hb4.mono (by omega)))
   clear hb4 HS
   go_wp2_with fail
   refine wp_load_set _ rfl w.heap.size rfl _ _ hs ?_
   go_wp2_with fail
   exact ret_set rfl h4 rfl rfl ⟨rfl, HB4.out⟩
theorem wpl_load_set {ops : Array Oper} {rest : List Oper} {o : Oper} {a : Act} {w : World} {Q : Exit → Act → World → Prop} (hgd : o.guard = none) (x : Operand) (ho : o.op = .load 213 x) (g : Nat) (hx : a.eval x = .pointer (some ⟨g, 0, none⟩)) (f : Nat → Bool) (hg : SB g f w)
  (h : wpList Tryz.prog ops Q rest (a.put o.dst (.agg (setA f))) w) : wpList Tryz.prog ops Q (o :: rest) a w :=
 wpList_plain hgd fun _ hK => wp_load_set x ho g hx f _ hg (hK _ _ h)
end Go.Proofs.YtmpbjaodgajnfaaGreatDoor
namespace Go.Proofs.YtmpbjaodgajnfaaGreatDoor
abbrev Out (α : Type) := Except (Nat × Nat) (α × Nat)
def clsT (f : Nat → Bool) : NT := .node 1 (rngs f 0) [] [] 0 0
def selfE (c : Nat) : Bool := decide (32 ≤ c) && decide (c ≤ 126) && !Asc.isLetter c && !Asc.isDigit c
def escM (l : List UInt8) (i : Nat) : Out ((Nat → Bool) × Nat × Bool) :=
 if Asc.at_ l i = 100 then .ok ((Asc.isDigit, 100, false), i + 1)
 else if Asc.at_ l i = 119 then .ok ((Asc.isWord, 119, false), i + 1)
 else if Asc.at_ l i = 115 then .ok ((Asc.isSpace, 115, false), i + 1)
 else if Asc.at_ l i = 110 then .ok ((spanF 10 11, 10, true), i + 1)
 else if Asc.at_ l i = 116 then .ok ((spanF 9 10, 9, true), i + 1)
 else if selfE (Asc.at_ l i) then .ok ((spanF (Asc.at_ l i) (Asc.at_ l i + 1), Asc.at_ l i, true), i + 1)
 else .error (i, 1)
def selfI (c : Nat) : Bool := decide (32 ≤ c) && decide (c ≤ 126) && decide (c ≠ 93) && decide (c ≠ 45) && decide (c ≠ 94)
def dws (c : Nat) : Bool := decide (c = 100) || decide (c = 119) || decide (c = 115)
def itemM (l : List UInt8) (single : Bool) (i : Nat) : Out ((Nat → Bool) × Nat × Bool) :=
 if Asc.at_ l i = 92 then (if single && dws (Asc.at_ l (i + 1)) then .error (i, 1) else escM l (i + 1))
 else if selfI (Asc.at_ l i) then .ok ((spanF (Asc.at_ l i) (Asc.at_ l i + 1), Asc.at_ l i, true), i + 1)
 else .error (i, 1)
def braL (l : List UInt8) : Nat → Bool → Nat → (Nat → Bool) → Out (Nat → Bool)
 | 0, _, i, _ => .error (i, 0)
 | n + 1, first, i, all =>
  if first = false ∧ Asc.at_ l i = 93 then .ok (all, i)
  else match itemM l false i with
   | .error x => .error x
   | .ok ((s, lo, one), j) =>
    if one = true ∧ Asc.at_ l j = 45 then
     match itemM l true (j + 1) with
     | .error x => .error x
     | .ok ((_, hi, _), k) => if hi < lo then .error (k, 2) else braL l n false k (fun c => all c || spanF lo (hi + 1) c)
    else braL l n false j (fun c => all c || s c)
def braM (l : List UInt8) (i : Nat) : Out NT :=
 match braL l (l.length + 1) true (if Asc.at_ l i = 94 then i + 1 else i) (fun _ => false) with
 | .error x => .error x
 | .ok (f, j) => .ok (clsT (if Asc.at_ l i = 94 then (fun c => !f c) else f), j + 1)
def boundM (l : List UInt8) (i : Nat) : Out Nat :=
 if Asc.isDigit (Asc.at_ l i) then
  (if Asc.isDigit (Asc.at_ l (i + 1)) then
   (if 40 < (Asc.at_ l i - 48) * 10 + (Asc.at_ l (i + 1) - 48) then .error (i + 2, 2) else .ok ((Asc.at_ l i - 48) * 10 + (Asc.at_ l (i + 1) - 48), i + 2))
  else .ok (Asc.at_ l i - 48, i + 1))
 else .error (i, 1)
def boundsM (l : List UInt8) (i : Nat) : Out (Int × Int) :=
 match boundM l i with
 | .error x => .error x
 | .ok (lo, j) =>
  if Asc.at_ l j = 44 then
   (if Asc.at_ l (j + 1) = 125 then .ok (((lo : Int), -1), j + 2)
   else match boundM l (j + 1) with
    | .error x => .error x
    | .ok (hi, k) => if hi < lo then .error (k, 2) else if Asc.at_ l k = 125 then .ok (((lo : Int), (hi : Int)), k + 1) else .error (k, 1))
  else if Asc.at_ l j = 125 then .ok (((lo : Int), (lo : Int)), j + 1) else .error (j, 1)
def grpI (l : List UInt8) (i : Nat) : Nat := if 0 < capN (l.drop i) then i + capN (l.drop i) + 1 else i
section
variable (ch : Nat → Out NT) (l : List UInt8)
def grpM (i : Nat) : Out NT :=
 match ch (grpI l i) with
 | .error x => .error x
 | .ok (t, j) => if Asc.at_ l j = 41 then .ok (if 0 < capN (l.drop i) then .node 5 [] (Asc.seg l i (i + capN (l.drop i))) [t] 0 0 else t, j + 1) else .error (j, 1)
def selfA (c : Nat) : Bool := decide (32 ≤ c) && decide (c ≤ 126) && !(spec.map UInt8.toNat).contains c
def atomM (i : Nat) : Out NT :=
 if Asc.at_ l i = 40 then grpM ch l (i + 1)
 else if Asc.at_ l i = 91 then braM l (i + 1)
 else if Asc.at_ l i = 46 then .ok (clsT (fun c => !spanF 10 11 c), i + 1)
 else if Asc.at_ l i = 94 then .ok (.node 6 [] [] [] 0 0, i + 1)
 else if Asc.at_ l i = 36 then .ok (.node 7 [] [] [] 0 0, i + 1)
 else if Asc.at_ l i = 92 then (match escM l (i + 1) with
  | .error x => .error x
  | .ok ((s, _, _), j) => .ok (clsT s, j))
 else if selfA (Asc.at_ l i) then .ok (clsT (spanF (Asc.at_ l i) (Asc.at_ l i + 1)), i + 1)
 else .error (i, 1)
def repM (i : Nat) : Out NT :=
 match atomM ch l i with
 | .error x => .error x
 | .ok (t, j) =>
  if Asc.at_ l j = 42 then .ok (.node 4 [] [] [t] 0 (-1), j + 1)
  else if Asc.at_ l j = 43 then .ok (.node 4 [] [] [t] 1 (-1), j + 1)
  else if Asc.at_ l j = 63 then .ok (.node 4 [] [] [t] 0 1, j + 1)
  else if Asc.at_ l j = 123 then (match boundsM l (j + 1) with
   | .error x => .error x
   | .ok ((lo, hi), k) => .ok (.node 4 [] [] [t] lo hi, k))
  else .ok (t, j)
def catL : Nat → Nat → List NT → Out NT
 | 0, i, _ => .error (i, 0)
 | n + 1, i, ts =>
  if Asc.at_ l i = 999 ∨ Asc.at_ l i = 124 ∨ Asc.at_ l i = 41 then .ok (joinT 2 ts, i)
  else match repM ch l i with
   | .error x => .error x
   | .ok (t, j) => catL n j (ts ++ [t])
def catM (i : Nat) : Out NT := catL ch l (l.length + 1) i []
def altL : Nat → Nat → List NT → Out NT
 | 0, i, _ => .error (i, 0)
 | n + 1, i, ts =>
  if Asc.at_ l i = 124 then (match catM ch l (i + 1) with
   | .error x => .error x
   | .ok (t, j) => altL n j (ts ++ [t]))
  else .ok (joinT 3 ts, i)
def choB (i : Nat) : Out NT :=
 match catM ch l i with
 | .error x => .error x
 | .ok (t, j) => altL ch l (l.length + 1) j [t]
end
def choM (l : List UInt8) : Nat → Nat → Out NT
 | 0, i => .error (i, 0)
 | d + 1, i => choB (choM l d) l i
def fits {α : Type} (r : Out α) (t : α) (j e : Nat) : Prop := match r with
 | .ok (t', j') => t = t' ∧ j = j' ∧ e = 0
 | .error (k, x) => j = k ∧ e = x ∧ e ≠ 0
theorem fits_cases {α : Type} {r : Out α} {t : α} {j e : Nat} (h : fits r t j e) : (r = .ok (t, j) ∧ e = 0) ∨ (r = .error (j, e) ∧ e ≠ 0) := by
 unfold fits at h
 split at h
 ·obtain ⟨rfl, rfl, rfl⟩ := h
  exact .inl ⟨rfl, rfl⟩
 ·obtain ⟨rfl, rfl, h⟩ := h
  exact .inr ⟨rfl, h⟩
theorem fits_ok {α : Type} {t : α} {j : Nat} : fits (.ok (t, j)) t j 0 := ⟨rfl, rfl, rfl⟩
theorem fits_err {α : Type} {t : α} {j e : Nat} (h : e ≠ 0) : fits (.error (j, e)) t j e := ⟨rfl, rfl, h⟩
end Go.Proofs.YtmpbjaodgajnfaaGreatDoor

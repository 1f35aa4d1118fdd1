/-
 Joined: PatS, PatV, PatX, PatY.
-/
import Derived.Test.YtgcpinnnfoanjaaGreatDoorRdD
import Derived.Test.YtgcpinnnfoanjaaGreatDoorRdZb
import Derived.Test.YtgcpinnnfoanjaaGreatDoorRdZa
import Derived.BigQuiet
namespace Go.Proofs.YtgcpinnnfoanjaaGreatDoor
open Go.RowKit
theorem infoR : (Tryz.prog.info? 87).map (fun i => (i.zero, i.size, i.bytes)) = some (some (.agg #[.int .u8 0, .int .u8 0]), 2, 2) := by kernel_rfl
structure SN (g : Nat) (w : World) (E : Nat → Value) (W : World) : Prop where
 gd : GD g w W
 bk : BK w.heap.size 6 E W
 rb : BK (w.heap.size + 1) 6 (nE 0 none 0 0 [] none 0 0 0 0) W
section
variable {g : Nat} {w W W' : World} {E : Nat → Value}
theorem SN.go (h : SN g w E W) (ha : Apart g W W') (hc : CodesAt W' g) : SN g w E W' := ⟨h.gd.go ha hc, h.bk.go ha (Nat.ne_of_gt h.gd.hg), h.rb.go ha (by have := h.gd.hg; omega)⟩
theorem SN.on (h : SN g w E W) (hb : Below (w.heap.size + 2) W W') : SN g w E W' := ⟨h.gd.on (hb.mono (by omega)), h.bk.on hb (by omega), h.rb.on hb (by omega)⟩
theorem SN.al (h : SN g w E W) (o : Obj) : SN g w E (W.alloc o) := ⟨h.gd.al o, h.bk.al o, h.rb.al o⟩
theorem SN.dr (h : SN g w E W) : SN g w E W.drew := ⟨h.gd.dr, h.bk.dr, h.rb.dr⟩
theorem SN.sz (h : SN g w E W) : w.heap.size + 2 ≤ W.heap.size := h.rb.lt
theorem SN.set (h : SN g w E W) (i : Nat) (hi : i < 6) (v : Value) {E' : Nat → Value} (he : ∀ j, j < 6 → Upd E i v j = E' j) : SN g w E' (W.setCell ⟨w.heap.size, i, none⟩ v) :=
 ⟨h.gd.set (Nat.le_refl _) i v, (h.bk.set i hi v).cong he, h.rb.other (by omega) i v⟩
theorem SN.far (h : SN g w E W) {b : Nat} (hb : w.heap.size + 2 ≤ b) (i : Nat) (v : Value) : SN g w E (W.setCell ⟨b, i, none⟩ v) := ⟨h.gd.set (by omega) i v, h.bk.other (by omega) i v, h.rb.other (by omega) i v⟩
theorem SN.setL (h : SN g w E W) (vs : List Value) (op : Int) (ra : Option Addr) (rn rc : Nat) (nm : List UInt8) (a : Option Addr) (n cp : Nat) (mn mx : Int) (hv : vs = [.int .i64 op, .slice ra rn rc, .string ⟨nm.toArray⟩, .slice a n cp, .int .i64 mn, .int .i64 mx]) : SN g w (nE op ra rn rc nm a n cp mn mx) (setL W w.heap.size vs 0) := by
 subst hv
 exact ⟨h.gd.on (setL_below (Nat.le_refl _) _ _ _), bk_set6 h.bk op ra rn rc nm a n cp mn mx, h.rb.keep (setL_heap _ (by omega) _ _) (by rw [setL_size]; exact Nat.le_refl _)⟩
end
theorem SN.start {g : Nat} {w : World} (hc : CodesAt w g) (op : Int) (ra : Option Addr) (rn rc : Nat) (nm : List UInt8) (a : Option Addr) (n cp : Nat) (mn mx : Int) :
  SN g w (nE op ra rn rc nm a n cp mn mx) ((w.alloc (.cells #[.int .i64 op, .slice ra rn rc, .string ⟨nm.toArray⟩, .slice a n cp, .int .i64 mn, .int .i64 mx] 38)).alloc (.cells #[.int .i64 0, .slice none 0 0, .string ⟨#[]⟩, .slice none 0 0, .int .i64 0, .int .i64 0] 38)) := by
 refine ⟨((GD.start hc).al _).al _, (nE_new w op ra rn rc nm a n cp mn mx).al _, ?_⟩
 have := nE_new (w.alloc (.cells #[.int .i64 op, .slice ra rn rc, .string ⟨nm.toArray⟩, .slice a n cp, .int .i64 mn, .int .i64 mx] 38)) 0 none 0 0 [] none 0 0 0 0
 simpa using this
end Go.Proofs.YtgcpinnnfoanjaaGreatDoor
namespace Go.Proofs.YtgcpinnnfoanjaaGreatDoor
open Go.RowKit
def runTo (f : Nat → Bool) (c : Nat) : Nat := if c + 1 < 256 ∧ f (c + 1) = true then runTo f (c + 1) else c
termination_by 256 - c
theorem runTo_ge (f : Nat → Bool) (c : Nat) : c ≤ runTo f c := by
 rw [runTo]
 split
 ·exact Nat.le_trans (Nat.le_succ c) (runTo_ge f (c + 1))
 ·exact Nat.le_refl _
termination_by 256 - c
def rngs (f : Nat → Bool) (c : Nat) : List (UInt8 × UInt8) :=
 if h : c < 256 then if f c = true then (UInt8.ofNat c, UInt8.ofNat (runTo f c)) :: rngs f (runTo f c + 1) else rngs f (c + 1) else []
termination_by 256 - c
decreasing_by
 ·have := runTo_ge f c
  omega
 ·omega
theorem rngs_off (f : Nat → Bool) (k : Nat) (h : k < 256) (hf : f k = false) : rngs f k = rngs f (k + 1) := by rw [rngs, dif_pos h, if_neg (by simp [hf])]
theorem rngs_on (f : Nat → Bool) (k : Nat) (h : k < 256) (hf : f k = true) : rngs f k = (UInt8.ofNat k, UInt8.ofNat (runTo f k)) :: rngs f (runTo f k + 1) := by rw [rngs, dif_pos h, if_pos hf]
theorem runTo_on (f : Nat → Bool) (m : Nat) (h : m + 1 < 256) (hf : f (m + 1) = true) : runTo f (m + 1) = runTo f m := by rw [runTo.eq_1 f m, if_pos ⟨h, hf⟩]
theorem runTo_off (f : Nat → Bool) (m : Nat) (h : m + 1 < 256 → f (m + 1) = false) : runTo f m = m := by
 rw [runTo, if_neg]
 rintro ⟨h1, h2⟩
 rw [h h1] at h2
 cases h2
theorem ofNat8 {k : Nat} (h : k < 256) : (UInt8.ofNat k).toNat = k := Asc.ofNat_toNat8 h
set_option maxHeartbeats 8000000 in
set_option maxRecDepth 1000000 in
theorem ranges_any (f : Nat → Bool) (w : World) : Calls Tryz.prog 147 #[.agg (setA f)] w fun e w' => ∃ v, e = .returned v ∧ OR w.heap.size 87 2 RgR w' (rngs f 0) v ∧ Below w.heap.size w w' := by
 go_enter Tryz.func147, Tryz.ntmps147
 go_wp2
 go_loopw [3, 4, 5] (fun l i fr wr => ∃ (k : Nat) (rs : List (UInt8 × UInt8)) (v : Value), v = l ∧ i = .int .i64 k ∧ k ≤ 256 ∧ Hid (rs ++ rngs f k = rngs f 0) ∧ rs.length ≤ k ∧ Hid (OR (w.heap.size + 1) 87 2 RgR wr rs v) ∧ Hid (wr.heap[w.heap.size]? = some (.cells (setA f) 160 (0, 0))) ∧ Hid (Below w.heap.size w wr)) (fun _ i _ _ => 256 - (intOf i).toNat)
 case atStart => exact ⟨0, [], _, rfl, rfl, by omega, Lib.hid rfl, by simp, Lib.hid OR.nil, Lib.hid (heap_alloc_new w _), Lib.hid ((Below.refl _ w).alloc (Nat.le_refl _) _)⟩
 case round =>
  obtain ⟨k, rs, v, rfl, rfl, hk, HR, hrl, HO, HB, HW⟩ := hrel
  by_cases hle : k < 256
  ·have z1 : decide ((k : Int) < 256) = true := decide_eq_true (by omega)
   have y1 : decide (k < 256) = true := decide_eq_true hle
   have i1 : (k : Int) < 256 := by omega
   have i2 : (0 : Int) ≤ (k : Int) := by omega
   have hw1 : IntKind.i64.wrap ((k : Int) + 1) = (k : Int) + 1 := IntWalk.i64_in _ (by omega)
   have hc : wr.cell? ⟨w.heap.size, k, none⟩ = some (.bool (f k)) := by
    rw [cell_of_row _ _ _ _ _ _ HB.out]
    exact setA_at f hle
   cases hf : f k with
   | false =>
    rw [hf] at hc
    go_wp2_with fail
    refine ⟨⟨k + 1, rs, v, rfl, by go_num, by omega, Lib.hid (by rw [← rngs_off f k hle hf]; exact HR.out), by omega, HO, HB, HW⟩, by simp [intOf]; omega⟩
   | true =>
    rw [hf] at hc
    go_wp2_with fail
    go_loopw [4] (fun i wx => ∃ m : Nat, i = .int .i64 m ∧ k ≤ m ∧ m < 256 ∧ Hid (runTo f m = runTo f k) ∧ wr = wx) (fun i _ => 256 - (intOf i).toNat)
    case atStart => exact ⟨k, rfl, Nat.le_refl _, hle, Lib.hid rfl, rfl⟩
    case round =>
     obtain ⟨m, rfl, hm1, hm2, HM, rfl⟩ := hrel
     have hw2 : IntKind.i64.wrap ((m : Int) + 1) = (m : Int) + 1 := IntWalk.i64_in _ (by omega)
     by_cases hgo : m + 1 < 256 ∧ f (m + 1) = true
     ·have x1 : decide ((m : Int) + 1 < 256) = true := decide_eq_true (by omega)
      have x2 : (m : Int) + 1 < 256 := by omega
      have x3 : (0 : Int) ≤ (m : Int) + 1 := by omega
      have x4 : ((m : Int) + 1).toNat = m + 1 := by omega
      have hc2 : wr.cell? ⟨w.heap.size, m + 1, none⟩ = some (.bool true) := by
       rw [cell_of_row _ _ _ _ _ _ HB.out, ← hgo.2]
       exact setA_at f hgo.1
      go_wp2_with fail
      refine ⟨⟨m + 1, by go_num, by omega, by omega, Lib.hid ((runTo_on f m hgo.1 hgo.2).trans HM.out), trivial⟩, by simp [intOf]; omega⟩
     ·have hmr : runTo f k = m := HM.out.symm.trans (runTo_off f m fun h => by cases h3 : f (m + 1) with | false => rfl | true => exact absurd ⟨h, h3⟩ hgo)
      have hmr2 := Lib.hid hmr
      have wx : IntKind.u8.wrap (k : Int) = (k : Int) := IntWalk.u8_in _ (by omega)
      have wy : IntKind.u8.wrap (m : Int) = (m : Int) := IntWalk.u8_in _ (by omega)
      obtain ⟨i0, hi, hz0, hz1, hz2⟩ := info_parts infoR
      obtain ⟨cs, hown, hpush⟩ := HO.out.cells
      have hBW : w.heap.size + 1 ≤ wr.heap.size := (Array.getElem?_eq_some_iff.1 HB.out).1
      have one2 : ∀ u ∈ [Value.int .u8 (k : Int), .int .u8 (m : Int)], u.oneCell' = true := by
       intro u hu
       simp only [List.mem_cons, List.not_mem_nil, or_false] at hu
       rcases hu with rfl | rfl <;> rfl
      clear hmr HM
      by_cases h1 : m + 1 < 256
      ·have x1 : decide ((m : Int) + 1 < 256) = true := decide_eq_true (by omega)
       have x2 : (m : Int) + 1 < 256 := by omega
       have x3 : (0 : Int) ≤ (m : Int) + 1 := by omega
       have x4 : ((m : Int) + 1).toNat = m + 1 := by omega
       have hc2 : wr.cell? ⟨w.heap.size, m + 1, none⟩ = some (.bool false) := by
        have hff : f (m + 1) = false := by cases h3 : f (m + 1) with | false => rfl | true => exact absurd ⟨h1, h3⟩ hgo
        rw [cell_of_row _ _ _ _ _ _ HB.out, ← hff]
        exact setA_at f h1
       clear hgo
       go_wp2_with (at_builtin; refine wpList_append_lies _ rfl _ _ 35 rfl (w.heap.size + 1) 87 i0 (.agg #[.int .u8 0, .int .u8 0]) 2 2 Tryz.underlying35 hi hz0 hz1 hz2 rfl (by decide) _ rs.length cs rfl (hown.alloc _) ⟨wr.heap.size, 0, none⟩ 1 1 [.int .u8 (k : Int), .int .u8 (m : Int)] rfl rfl (World.news_of_block (heap_alloc_new wr _)) one2 (by omega) (by unfold maxLen; omega) (by omega) (Nat.le_trans hBW (by simp)) _ rfl ?_; intro g6 cap6 w6 hown6 hgr6 hat6 hlt6; have HW6 := Lib.hid (push_below hgr6 hown hBW); have HO6 := Lib.hid (hpush RgR w6 (UInt8.ofNat k, UInt8.ofNat m) _ _ (fun _ _ h => h) rfl (by simp only [RgR]; rw [ofNat8 hle, ofNat8 hm2]) (by omega) hown6); clear hown6 hgr6 hat6 hlt6 hown hpush)
       refine ⟨⟨m + 1, rs ++ [(UInt8.ofNat k, UInt8.ofNat m)], _, rfl, by go_num, by omega, Lib.hid (by rw [List.append_assoc, List.singleton_append, ← HR.out, rngs_on f k hle hf, hmr2.out]), by simp; omega, HO6, Lib.hid ((HW6.out.block _ (Nat.lt_succ_self _)).trans HB.out), Lib.hid (HW.out.trans (HW6.out.mono (Nat.le_succ _)))⟩, by simp [intOf]; omega⟩
      ·have x1 : decide ((m : Int) + 1 < 256) = false := decide_eq_false (by omega)
       clear hgo
       go_wp2_with (at_builtin; refine wpList_append_lies _ rfl _ _ 35 rfl (w.heap.size + 1) 87 i0 (.agg #[.int .u8 0, .int .u8 0]) 2 2 Tryz.underlying35 hi hz0 hz1 hz2 rfl (by decide) _ rs.length cs rfl (hown.alloc _) ⟨wr.heap.size, 0, none⟩ 1 1 [.int .u8 (k : Int), .int .u8 (m : Int)] rfl rfl (World.news_of_block (heap_alloc_new wr _)) one2 (by omega) (by unfold maxLen; omega) (by omega) (Nat.le_trans hBW (by simp)) _ rfl ?_; intro g6 cap6 w6 hown6 hgr6 hat6 hlt6; have HW6 := Lib.hid (push_below hgr6 hown hBW); have HO6 := Lib.hid (hpush RgR w6 (UInt8.ofNat k, UInt8.ofNat m) _ _ (fun _ _ h => h) rfl (by simp only [RgR]; rw [ofNat8 hle, ofNat8 hm2]) (by omega) hown6); clear hown6 hgr6 hat6 hlt6 hown hpush)
       refine ⟨⟨m + 1, rs ++ [(UInt8.ofNat k, UInt8.ofNat m)], _, rfl, by go_num, by omega, Lib.hid (by rw [List.append_assoc, List.singleton_append, ← HR.out, rngs_on f k hle hf, hmr2.out]), by simp; omega, HO6, Lib.hid ((HW6.out.block _ (Nat.lt_succ_self _)).trans HB.out), Lib.hid (HW.out.trans (HW6.out.mono (Nat.le_succ _)))⟩, by simp [intOf]; omega⟩
  ·have z1 : decide ((k : Int) < 256) = false := decide_eq_false (by omega)
   have y1 : decide (k < 256) = false := decide_eq_false hle
   go_wp2_with fail
   go_ret
   have hr0 : rngs f k = [] := by rw [rngs, dif_neg hle]
   have := HR.out
   rw [hr0, List.append_nil] at this
   exact ⟨_, rfl, this ▸ (HO.out.own (fun _ _ => rfl) (fun _ _ h => h) _ (Nat.le_succ _)), HW.out⟩
end Go.Proofs.YtgcpinnnfoanjaaGreatDoor
namespace Go.Proofs.YtgcpinnnfoanjaaGreatDoor
open Go.RowKit
def NW (t : NT) (w : World) (e : Ending) (w' : World) : Prop := ∃ v, e = .returned v ∧ NG (fun k => w.heap.size ≤ k) w' t v ∧ Below w.heap.size w w'
theorem item_ret {fn : Func} {P : Tmp} (hfn : fn.results = #[.cell P 38]) {W : World} {b : Nat} {E : Nat → Value} (hS : BK b 6 E W) {tmps : Array Value} {df : _} (hdf : df = []) (hp : tmps.getD P undef = .pointer (some ⟨b, 0, none⟩)) {v0 v1 v2 v3 v4 v5 : Value} {post : Ending → World → Prop}
  (h : post (.returned (.agg #[v0, v1, v2, v3, v4, v5])) (setL W b [v0, v1, v2, v3, v4, v5] 0)) :
  bodyPost Tryz.prog fn post Exit.ret { tmps := tmps, defers := df } (setL W b [v0, v1, v2, v3, v4, v5] 0) := by
 have hc := setL_at (b := b) [v0, v1, v2, v3, v4, v5] W 0 (fun j _ hj => ⟨_, hS.ev j (by simpa using hj)⟩)
 exact bodyPost_ret (results_item (ty := 38) hfn tmps _ b [v0, v1, v2, v3, v4, v5] _ hp (fun j v hv => by have := hc j v hv; rwa [Nat.zero_add] at this) Tryz.underlying38 rfl (by kernel_rfl)) hdf h
set_option maxHeartbeats 8000000 in
set_option maxRecDepth 1000000 in
theorem class_any (f : Nat → Bool) (w : World) : Calls Tryz.prog 128 #[.agg (setA f)] w (NW (.node 1 (rngs f 0) [] [] 0 0) w) := by
 go_enter Tryz.func128, Tryz.ntmps128
 go_wp2
 refine wp_load_set _ rfl w.heap.size rfl f 160 (heap_alloc2_old w _ _) ?_
 go_wp2_with fail
 refine (ranges_any f _).mono ?_
 rintro e w2 ⟨v, rfl, hor, hb⟩
 have HB : Hid (BK (w.heap.size + 1) 6 (nE 0 none 0 0 [] none 0 0 0 0) w2) := Lib.hid ((by simpa using nE_new (w.alloc (.cells (setA f) 160)) 0 none 0 0 [] none 0 0 0 0 : BK (w.heap.size + 1) 6 (nE 0 none 0 0 [] none 0 0 0 0) _).on hb (by simp))
 have HW : Hid (Below w.heap.size w w2) := Lib.hid ((((Below.refl _ w).alloc (Nat.le_refl _) _).alloc (by simp) _).trans (hb.mono (by simp; omega)))
 have hrw := hor.rw (F := fun k => w.heap.size + 2 ≤ k) (fun b hb => by simpa using hb)
 clear hor hb
 obtain ⟨a, c, rfl, hrest⟩ := hrw
 have HR : Hid (RW (fun k => w.heap.size + 2 ≤ k) 2 RgR w2 (rngs f 0) (.slice a (rngs f 0).length c)) := Lib.hid ⟨a, c, rfl, hrest⟩
 clear hrest
 obtain ⟨k0, k1, k2, k3, k4, k5, f0, f1, f2, f3, f4, f5⟩ := bk6 HB.out
 go_wp2_with fail
 rw [nest6 w2]
 have hbl := setL_below (B := w.heap.size) (b := w.heap.size + 1) (Nat.le_succ _) [.int .i64 1, .slice a (rngs f 0).length c, .string ⟨#[]⟩, .slice none 0 0, .int .i64 0, .int .i64 0] w2 0
 refine item_ret (P := 2) rfl HB.out rfl (by rfl) ⟨_, rfl, ?_, HW.out.trans hbl⟩
 exact NG.node (kids := []) (HR.out.go ⟨hbl.size, fun k hk _ => ⟨by omega, setL_heap _ (by omega) _ _⟩⟩ (fun _ _ h => h)) RW.nil 1 [] 0 0 (by simp)
end Go.Proofs.YtgcpinnnfoanjaaGreatDoor
namespace Go.Proofs.YtgcpinnnfoanjaaGreatDoor
open Go.RowKit
def psE (l : List UInt8) (at_ e : Nat) (i : Nat) : Value := if i = 0 then .string ⟨l.toArray⟩ else if i = 1 then .int .i64 (at_ : Int) else .int .i64 (e : Int)
def PSt (b : Nat) (l : List UInt8) (at_ e : Nat) (W : World) : Prop := BK b 3 (psE l at_ e) W
def nx (l : List UInt8) (at_ e : Nat) : Option UInt8 := if e = 0 then l[at_]? else none
structure PK (b : Nat) (l : List UInt8) (at_ e : Nat) (w w' : World) : Prop where
 ap : Apart b w w'
 st : PSt b l at_ e w'
theorem Apart.setCell {b : Nat} (w : World) (i : Nat) (v : Value) : Apart b w (w.setCell ⟨b, i, none⟩ v) := ⟨(Below.refl _ w).setCell (p := ⟨b, i, none⟩) (Nat.le_refl _) v, fun k h1 _ => Below.heap_setCell _ _ _ k (by intro e; simp only at e; omega)⟩
theorem psE_two (l : List UInt8) (at_ e x : Nat) : ∀ i, i < 3 → Upd (psE l at_ e) 2 (.int .i64 (x : Int)) i = psE l at_ x i := fun i hi => by
 match i, hi with
 | 0, _ => rfl
 | 1, _ => rfl
 | 2, _ => rfl
set_option maxHeartbeats 4000000 in
set_option maxRecDepth 1000000 in
theorem fail_any (b : Nat) (l : List UInt8) (at_ e : Nat) (x : Nat) (w : World) (h : PSt b l at_ e w) : Calls Tryz.prog 56 #[.pointer (some ⟨b, 0, none⟩), .int .i64 (x : Int)] w fun r w' => r = .returned (.tuple #[]) ∧ PK b l at_ (if e = 0 then x else e) w w' := by
 have hb := h.lt
 have c2 : w.cell? ⟨b, 2, none⟩ = some (.int .i64 (e : Int)) := h.ev 2 (by omega)
 have f2 := h.fz 2
 have H := Lib.hid h
 clear h
 go_enter Tryz.func56, Tryz.ntmps56
 by_cases he : e = 0
 ·subst he
  go_wp2_with fail
  go_end0
  exact ⟨rfl, Apart.setCell w 2 _, (H.out.set 2 (by omega) _).cong (psE_two l at_ 0 x)⟩
 ·have z1 : ((e : Int) == 0) = false := by rw [beq_eq_false_iff_ne]; omega
  rw [if_neg he]
  clear he
  go_wp2_with fail
  go_end0
  exact ⟨rfl, Apart.refl _ _, H.out⟩
theorem Kinds.ap {b : Nat} {w w' : World} (h : Kinds w) (hb : 0 < b) (ha : Apart b w w') : Kinds w' := ⟨Nat.lt_of_lt_of_le h.1 ha.1.size, fun c hc => (ha.cell (p := ⟨0, c, none⟩) (Nat.ne_of_lt hb) h.1).trans (h.2 c hc)⟩
theorem Kinds.on {B : Nat} {w w' : World} (h : Kinds w) (hb : 0 < B) (k : Below B w w') : Kinds w' := ⟨Nat.lt_of_lt_of_le h.1 k.size, fun c hc => (k.cell (p := ⟨0, c, none⟩) hb).trans (h.2 c hc)⟩
structure PS (b : Nat) (l : List UInt8) (at_ : Nat) (w : World) : Prop where
 st : PSt b l at_ 0 w
 le : at_ ≤ l.length
 len : l.length ≤ 1000
 kd : Kinds w
 kb : 0 < b
structure PQ (b : Nat) (l : List UInt8) (at_ : Nat) (w w' : World) : Prop where
 ap : Apart b w w'
 ps : PS b l at_ w'
theorem PS.drewN {b : Nat} {l : List UInt8} {at_ : Nat} {w : World} (h : PS b l at_ w) (n : Nat) : PQ b l at_ w (w.drewN n) := ⟨⟨⟨rfl, rfl, rfl, Nat.le_refl _, fun _ _ => rfl⟩, fun _ _ _ => rfl⟩, ⟨h.st.keep rfl (Nat.le_refl _), h.le, h.len, ⟨h.kd.1, h.kd.2⟩, h.kb⟩⟩
theorem PQ.refl {b : Nat} {l : List UInt8} {at_ : Nat} {w : World} (h : PS b l at_ w) : PQ b l at_ w w := ⟨Apart.refl _ _, h⟩
theorem PQ.trans {b : Nat} {l : List UInt8} {i j : Nat} {w w1 w2 : World} (h : PQ b l i w w1) (k : PQ b l j w1 w2) : PQ b l j w w2 := ⟨h.ap.trans k.ap, k.ps⟩
theorem PQ.on {b : Nat} {l : List UInt8} {i : Nat} {w w1 w2 : World} (h : PQ b l i w w1) (k : Below w1.heap.size w1 w2) : PQ b l i w w2 := ⟨h.ap.trans (Apart.of_below k h.ps.st.lt), ⟨h.ps.st.on k h.ps.st.lt, h.ps.le, h.ps.len, h.ps.kd.below k, h.ps.kb⟩⟩
theorem PS.on {b : Nat} {l : List UInt8} {i : Nat} {w w' : World} (h : PS b l i w) {B : Nat} (k : Below B w w') (hb : b < B) : PS b l i w' := ⟨h.st.on k hb, h.le, h.len, h.kd.on (Nat.lt_trans h.kb hb) k, h.kb⟩
theorem PQ.far {b : Nat} {l : List UInt8} {i : Nat} {w w1 w2 : World} (h : PQ b l i w w1) (k : Below w.heap.size w1 w2) (hb : b < w.heap.size) : PQ b l i w w2 := ⟨⟨h.ap.1.trans (k.mono (Nat.le_of_lt hb)), fun j h1 h2 => (k.block j h2).trans (h.ap.2 j h1 h2)⟩, h.ps.on k hb⟩
theorem psE_one (l : List UInt8) (at_ x : Nat) : ∀ i, i < 3 → Upd (psE l at_ 0) 1 (.int .i64 (x : Int)) i = psE l x 0 i := fun i hi => by
 match i, hi with
 | 0, _ => rfl
 | 1, _ => rfl
 | 2, _ => rfl
theorem PS.to {b : Nat} {l : List UInt8} {i : Nat} {w : World} (h : PS b l i w) (j : Nat) (hj : j ≤ l.length) : PQ b l j w (w.setCell ⟨b, 1, none⟩ (.int .i64 (j : Int))) := ⟨Apart.setCell w 1 _, ⟨(h.st.set 1 (by omega) _).cong (psE_one l i j), hj, h.len, h.kd.ap h.kb (Apart.setCell w 1 _), h.kb⟩⟩
theorem PS.c0 {b : Nat} {l : List UInt8} {i : Nat} {w : World} (h : PS b l i w) : w.cell? ⟨b, 0, none⟩ = some (.string ⟨l.toArray⟩) := h.st.ev 0 (by omega)
theorem PS.c1 {b : Nat} {l : List UInt8} {i : Nat} {w : World} (h : PS b l i w) : w.cell? ⟨b, 1, none⟩ = some (.int .i64 (i : Int)) := h.st.ev 1 (by omega)
theorem PS.c2 {b : Nat} {l : List UInt8} {i : Nat} {w : World} (h : PS b l i w) : w.cell? ⟨b, 2, none⟩ = some (.int .i64 0) := h.st.ev 2 (by omega)
set_option maxHeartbeats 4000000 in
set_option maxRecDepth 1000000 in
theorem pnext_ok (b : Nat) (l : List UInt8) (at_ : Nat) (w : World) (h : PS b l at_ w) (v : Nat) (hv : Asc.at_ l at_ = v) (hv2 : v < 256) : Calls Tryz.prog 87 #[.pointer (some ⟨b, 0, none⟩)] w fun r w' => r = .returned (.tuple #[.int .u8 (v : Int), .bool true]) ∧ PQ b l at_ w w' := by
 have hl : at_ < l.length := Asc.at_lt (by omega)
 have hb := h.st.lt
 have c0 := h.c0
 have c1 := h.c1
 have c2 := h.c2
 have H := Lib.hid h
 obtain ⟨c, ⟨_, hx⟩, hc, _⟩ := byte_at l at_ hl
 have e : c = v := by rw [← hc, ← hv, Asc.at_of hl]
 rw [e] at hx
 clear h e hc hv
 have z1 : decide ((l.length : Int) ≤ (at_ : Int)) = false := decide_eq_false (by omega)
 have y1 : decide (l.length ≤ at_) = false := decide_eq_false (by omega)
 have i1 : (at_ : Int) < (l.length : Int) := by omega
 have i2 : (0 : Int) ≤ (at_ : Int) := by omega
 go_enter Tryz.func87, Tryz.ntmps87
 go_wp2_with fail
 go_quiet (fail)
 go_wp2_with fail
 go_quiet (fail)
 go_wp2_with fail
 go_ret2
 exact ⟨rfl, (H.out.drewN _).trans ((H.out.drewN _).ps.drewN _)⟩
set_option maxHeartbeats 4000000 in
set_option maxRecDepth 1000000 in
theorem pnext_end (b : Nat) (l : List UInt8) (at_ : Nat) (w : World) (h : PS b l at_ w) (hl : l.length ≤ at_) : Calls Tryz.prog 87 #[.pointer (some ⟨b, 0, none⟩)] w fun r w' => r = .returned (.tuple #[.int .u8 0, .bool false]) ∧ PQ b l at_ w w' := by
 have hb := h.st.lt
 have c0 := h.c0
 have c1 := h.c1
 have c2 := h.c2
 have H := Lib.hid h
 clear h
 have z1 : decide ((l.length : Int) ≤ (at_ : Int)) = true := decide_eq_true (by omega)
 have y1 : decide (l.length ≤ at_) = true := decide_eq_true (by omega)
 go_enter Tryz.func87, Tryz.ntmps87
 go_wp2_with fail
 go_quiet (fail)
 go_wp2_with fail
 go_ret2
 exact ⟨rfl, H.out.drewN _⟩
end Go.Proofs.YtgcpinnnfoanjaaGreatDoor
namespace Go.Proofs.YtgcpinnnfoanjaaGreatDoor
open Go.RowKit
set_option maxHeartbeats 4000000 in
set_option maxRecDepth 1000000 in
theorem psees_yes (b : Nat) (l : List UInt8) (at_ : Nat) (w : World) (h : PS b l at_ w) (c : Nat) (hc : Asc.at_ l at_ = c) (hc2 : c < 256) : Calls Tryz.prog 89 #[.pointer (some ⟨b, 0, none⟩), .int .u8 (c : Int)] w fun r w' => r = .returned (.bool true) ∧ PQ b l at_ w w' := by
 have HN := Lib.hid (pnext_ok b l at_ w h c hc hc2)
 clear h hc
 go_enter Tryz.func89, Tryz.ntmps89
 go_wp2_with (go_at_call 87; refine HN.out.mono ?_; rintro e w1 ⟨rfl, hq⟩; have HQ := Lib.hid hq; clear hq)
 go_ret
 exact ⟨rfl, HQ.out⟩
set_option maxHeartbeats 4000000 in
set_option maxRecDepth 1000000 in
theorem psees_no (b : Nat) (l : List UInt8) (at_ : Nat) (w : World) (h : PS b l at_ w) (c : Nat) (hc : Asc.at_ l at_ ≠ c) : Calls Tryz.prog 89 #[.pointer (some ⟨b, 0, none⟩), .int .u8 (c : Int)] w fun r w' => r = .returned (.bool false) ∧ PQ b l at_ w w' := by
 by_cases hl : at_ < l.length
 ·obtain ⟨v, hv⟩ : ∃ v, Asc.at_ l at_ = v := ⟨_, rfl⟩
  have HN := Lib.hid (pnext_ok b l at_ w h v hv (by have := Asc.at_le hl; omega))
  have z1 : ((v : Int) == (c : Int)) = false := by rw [beq_eq_false_iff_ne]; omega
  clear h hc hv hl
  go_enter Tryz.func89, Tryz.ntmps89
  go_wp2_with (go_at_call 87; refine HN.out.mono ?_; rintro e w1 ⟨rfl, hq⟩; have HQ := Lib.hid hq; clear hq)
  go_ret
  exact ⟨rfl, HQ.out⟩
 ·have HN := Lib.hid (pnext_end b l at_ w h (by omega))
  clear h hc hl
  go_enter Tryz.func89, Tryz.ntmps89
  go_wp2_with (go_at_call 87; refine HN.out.mono ?_; rintro e w1 ⟨rfl, hq⟩; have HQ := Lib.hid hq; clear hq)
  go_ret
  exact ⟨rfl, HQ.out⟩
set_option maxHeartbeats 4000000 in
set_option maxRecDepth 1000000 in
theorem ptakes_yes (b : Nat) (l : List UInt8) (at_ : Nat) (w : World) (h : PS b l at_ w) (c : Nat) (hc : Asc.at_ l at_ = c) (hc2 : c < 256) : Calls Tryz.prog 74 #[.pointer (some ⟨b, 0, none⟩), .int .u8 (c : Int)] w fun r w' => r = .returned (.bool true) ∧ PQ b l (at_ + 1) w w' := by
 have HN := Lib.hid (psees_yes b l at_ w h c hc hc2)
 have hl : at_ < l.length := Asc.at_lt (by omega)
 have hl2 := h.len
 have hw : IntKind.i64.wrap ((at_ : Int) + 1) = (at_ : Int) + 1 := IntWalk.i64_in _ (by omega)
 have HL := Lib.hid hl
 clear h hc hl
 go_enter Tryz.func74, Tryz.ntmps74
 go_wp2_with (go_at_call 89; refine HN.out.mono ?_; rintro e w1 ⟨rfl, hq⟩; have HQ := Lib.hid hq; have c1 := hq.ps.c1; have f1 := hq.ps.st.fz 1; clear hq)
 go_ret
 exact ⟨rfl, HQ.out.trans (HQ.out.ps.to (at_ + 1) HL.out)⟩
set_option maxHeartbeats 4000000 in
set_option maxRecDepth 1000000 in
theorem pexpect_yes (b : Nat) (l : List UInt8) (at_ : Nat) (w : World) (h : PS b l at_ w) (c : Nat) (hc : Asc.at_ l at_ = c) (hc2 : c < 256) : Calls Tryz.prog 133 #[.pointer (some ⟨b, 0, none⟩), .int .u8 (c : Int)] w fun r w' => r = .returned (.tuple #[]) ∧ PQ b l (at_ + 1) w w' := by
 have HN := Lib.hid (ptakes_yes b l at_ w h c hc hc2)
 clear h hc
 go_enter Tryz.func133, Tryz.ntmps133
 go_wp2_with (go_at_call 74; refine HN.out.mono ?_; rintro e w1 ⟨rfl, hq⟩; have HQ := Lib.hid hq; clear hq)
 go_end0
 exact ⟨rfl, HQ.out⟩
def joinT (op : Int) (ts : List NT) : NT := match ts with
 | [] => .node 0 [] [] [] 0 0
 | [t] => t
 | t :: u :: r => .node op [] [] (t :: u :: r) 0 0
def NB (B : Nat) (t : NT) (w : World) (e : Ending) (w' : World) : Prop := ∃ v, e = .returned v ∧ NG (fun k => B ≤ k) w' t v ∧ Below w.heap.size w w'
theorem new_ret {fn : Func} {P : Tmp} (hfn : fn.results = #[.cell P 38]) {w : World} {v0 v1 v2 v3 v4 v5 : Value} {ty : TypeId} {tmps : Array Value} {df : _} (hdf : df = []) (hp : tmps.getD P undef = .pointer (some ⟨w.heap.size, 0, none⟩)) {post : Ending → World → Prop}
  (h : post (.returned (.agg #[v0, v1, v2, v3, v4, v5])) (w.alloc (.cells #[v0, v1, v2, v3, v4, v5] ty))) :
  bodyPost Tryz.prog fn post Exit.ret { tmps := tmps, defers := df } (w.alloc (.cells #[v0, v1, v2, v3, v4, v5] ty)) :=
 bodyPost_ret (results_cell_row hfn tmps _ w.heap.size ty #[v0, v1, v2, v3, v4, v5] (0, 0) _ hp (heap_alloc_new w _) Tryz.underlying38 rfl (by kernel_rfl)) hdf h
theorem al_below (w : World) (o : Obj) : Below w.heap.size w (w.alloc o) := (Below.refl _ w).alloc (Nat.le_refl _) o
theorem al_stay {B : Nat} (w : World) (o : Obj) : Stay (fun k => B ≤ k) (fun k => B ≤ k) w (w.alloc o) := ⟨(al_below w o).size, fun k hk hl => ⟨hk, (al_below w o).block k hl⟩⟩
set_option maxHeartbeats 8000000 in
set_option maxRecDepth 1000000 in
theorem join_any (op : Int) (ts : List NT) (v : Value) (w : World) (B : Nat) (h : RW (fun k => B ≤ k) 6 (KR (fun k => B ≤ k) w) w ts v) : Calls Tryz.prog 75 #[.int .i64 op, v] w (NB B (joinT op ts) w) := by
 have H := Lib.hid h
 obtain ⟨a, c, rfl, hm, hk⟩ := h
 have HK := Lib.hid hk
 clear hk
 match ts, H, HK, hm with
 | [], H, HK, hm =>
  clear hm
  go_enter Tryz.func75, Tryz.ntmps75
  go_wp2_with fail
  refine new_ret (P := 4) rfl rfl (by rfl) ⟨_, rfl, ?_, al_below w _⟩
  exact NG.node (rs := []) (kids := []) RW.nil RW.nil 0 [] 0 0 (by simp)
 | [t], H, HK, hm =>
  obtain ⟨blk, off, rfl, hl, hF, hc⟩ := HK.out (by simp)
  obtain ⟨us, hu, hcell, hr⟩ := hc 0 (by simp)
  have HR := Lib.hid hr
  obtain ⟨op', rs, nm, kids, mn, mx, ra, rc, a', c', ht, ev, _⟩ := NG.open hr
  have eu : us = [.int .i64 op', .slice ra rs.length rc, .string ⟨nm.toArray⟩, .slice a' kids.length c', .int .i64 mn, .int .i64 mx] := by
   injection ev with ev
   have := congrArg Array.toList ev
   simpa using this
  subst eu
  have hal : ∀ j, (w.alloc (.cells #[.int .i64 0, .slice none 0 0, .string ⟨#[]⟩, .slice none 0 0, .int .i64 0, .int .i64 0] 38)).cell? ⟨blk, j, none⟩ = w.cell? ⟨blk, j, none⟩ := fun j => (al_below w _).cell (p := ⟨blk, j, none⟩) hl
  have e0 := (hal _).trans ((hcell 0 (by simp)).trans (show _ = some (Value.int .i64 op') from rfl))
  have e1 := (hal _).trans ((hcell 1 (by simp)).trans (show _ = some (Value.slice ra rs.length rc) from rfl))
  have e2 := (hal _).trans ((hcell 2 (by simp)).trans (show _ = some (Value.string ⟨nm.toArray⟩) from rfl))
  have e3 := (hal _).trans ((hcell 3 (by simp)).trans (show _ = some (Value.slice a' kids.length c') from rfl))
  have e4 := (hal _).trans ((hcell 4 (by simp)).trans (show _ = some (Value.int .i64 mn) from rfl))
  have e5 := (hal _).trans ((hcell 5 (by simp)).trans (show _ = some (Value.int .i64 mx) from rfl))
  clear hm hal hcell hc hr hF ev ht
  simp only [Nat.zero_mul, Nat.add_zero] at e0 e1 e2 e3 e4 e5
  go_enter Tryz.func75, Tryz.ntmps75
  go_wp2_with fail
  exact new_ret (P := 4) rfl rfl (by rfl) ⟨_, rfl, NG.go (al_stay w _) _ _ HR.out, al_below w _⟩
 | t :: u :: r, H, HK, hm =>
  obtain ⟨n, hn⟩ : ∃ n, (t :: u :: r).length = n := ⟨_, rfl⟩
  have hn2 : 2 ≤ n := by rw [← hn]; simp
  have z0 : ((n : Int) == 0) = false := by rw [beq_eq_false_iff_ne]; omega
  have z1 : ((n : Int) == 1) = false := by rw [beq_eq_false_iff_ne]; omega
  rw [hn] at H ⊢
  clear hm hn HK
  go_enter Tryz.func75, Tryz.ntmps75
  go_wp2_with fail
  refine new_ret (P := 4) rfl rfl (by rfl) ⟨_, rfl, ?_, al_below w _⟩
  exact NG.node (rs := []) (kids := t :: u :: r) RW.nil (H.out.go (al_stay w _) (fun _ _ h => KR.go (al_stay w _) _ _ h)) op [] 0 0 (by simp)
end Go.Proofs.YtgcpinnnfoanjaaGreatDoor

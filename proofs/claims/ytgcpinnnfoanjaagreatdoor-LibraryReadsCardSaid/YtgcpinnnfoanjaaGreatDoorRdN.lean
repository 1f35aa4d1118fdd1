/-
 Joined: RpA, RpB, RpC, RpD, FactsB.
-/
import Derived.Test.YtgcpinnnfoanjaaGreatDoorRdG
import Derived.Test.YtgcpinnnfoanjaaGreatDoorRdE
import Derived.Test.YtgcpinnnfoanjaaGreatDoorRdD
import Derived.BigQuiet
import Derived.StillTailTactics
import Derived.Test.YtgcpinnnfoanjaaGreatDoorRdF
import Derived.Test.YtgcpinnnfoanjaaGreatDoorRdM
namespace Go.Proofs.YtgcpinnnfoanjaaGreatDoor
open Go.RowKit
theorem infoQ : (Tryz.prog.info? 167).map (fun i => (i.zero, i.size)) = some (some (.agg (Array.replicate 256 (.bool false))), 256) := by kernel_rfl
theorem undQ : Tryz.prog.underlying 167 = some (.array 256 4) := by kernel_rfl
theorem wp_load_setQ {o : Oper} {a : Act} {w : World} {K : Act → World → Prop} {Q : Exit → Act → World → Prop} (x : Operand) (ho : o.op = .load 167 x) (g : Nat) (hx : a.eval x = .pointer (some ⟨g, 0, none⟩)) (f : Nat → Bool) (t : TypeId) (hg : w.heap[g]? = some (.cells (setA f) t (0, 0)))
  (h : K (a.put o.dst (.agg (setA f))) w) : o.wp Tryz.prog a w K Q := wp_load_row _ x ho g hx t (setA f) (0, 0) _ hg undQ rfl (by rw [setA_size]; exact (zero_of_info infoQ).2) h
theorem ret_setQ {fn : Func} {p : Tmp} (hfn : fn.results = #[.cell p 167]) {w : World} {f : Nat → Bool} {g : Nat} {t : TypeId} (hg : w.heap[g]? = some (.cells (setA f) t (0, 0))) {tmps : Array Value} {df : _} (hdf : df = []) (hp : tmps.getD p undef = .pointer (some ⟨g, 0, none⟩)) {post : Ending → World → Prop} (h : post (.returned (.agg (setA f))) w) :
  bodyPost Tryz.prog fn post Exit.ret { tmps := tmps, defers := df } w := bodyPost_ret (results_cell_row hfn tmps w g t (setA f) (0, 0) _ hp hg undQ rfl (by rw [setA_size]; exact (zero_of_info infoQ).2)) hdf h
def SbQ (b : Nat) (f : Nat → Bool) (w : World) : Prop := w.heap[b]? = some (.cells (setA f) 167 (0, 0))
theorem SbQ.cell {b : Nat} {f : Nat → Bool} {w : World} (h : SbQ b f w) {i : Nat} (hi : i < 256) : w.cell? ⟨b, i, none⟩ = some (.bool (f i)) := by
 rw [cell_of_row _ _ _ _ _ _ h]
 exact setA_at f hi
theorem SbQ.lt {b : Nat} {f : Nat → Bool} {w : World} (h : SbQ b f w) : b < w.heap.size := (Array.getElem?_eq_some_iff.1 h).1
theorem SbQ.fz {b : Nat} {f : Nat → Bool} {w : World} (h : SbQ b f w) (i : Nat) : w.frozen? ⟨b, i, none⟩ = false := Lib.frozen_of_heap h i
theorem SbQ.set {b : Nat} {f : Nat → Bool} {w : World} (h : SbQ b f w) (k : Nat) (x : Bool) : SbQ b (fun j => if j = k then x else f j) (w.setCell ⟨b, k, none⟩ (.bool x)) := by
 unfold SbQ
 rw [← setA_set]
 exact heap_setCell_same w b k _ _ _ h
theorem SbQ.other {b b' : Nat} {f : Nat → Bool} {w : World} (h : SbQ b f w) (k : Nat) (v : Value) (hn : b ≠ b') : SbQ b f (w.setCell ⟨b', k, none⟩ v) := (heap_setCell_other w ⟨b', k, none⟩ b v hn).trans h
theorem SbQ.on {b B : Nat} {f : Nat → Bool} {w w' : World} (h : SbQ b f w) (k : Below B w w') (hb : b < B) : SbQ b f w' := (k.block b hb).trans h
theorem SbQ.eq {b : Nat} {f g : Nat → Bool} {w : World} (h : SbQ b f w) (e : setA f = setA g) : SbQ b g w := by unfold SbQ; rw [← e]; exact h
theorem SbQ.new (w : World) (f : Nat → Bool) : SbQ w.heap.size f (w.alloc (.cells (setA f) 167)) := heap_alloc_new w _
theorem wpl_load_setQ {ops : Array Oper} {rest : List Oper} {o : Oper} {a : Act} {w : World} {Q : Exit → Act → World → Prop} (hgd : o.guard = none) (x : Operand) (ho : o.op = .load 167 x) (g : Nat) (hx : a.eval x = .pointer (some ⟨g, 0, none⟩)) (f : Nat → Bool) (hg : SbQ g f w)
  (h : wpList Tryz.prog ops Q rest (a.put o.dst (.agg (setA f))) w) : wpList Tryz.prog ops Q (o :: rest) a w :=
 wpList_plain hgd fun _ hK => wp_load_setQ x ho g hx f _ hg (hK _ _ h)
def plusF (f : Nat → Bool) (lo k j : Nat) : Bool := f j || spanF lo k j
theorem plusF_none (f : Nat → Bool) (lo : Nat) : setA (plusF f lo lo) = setA f := setA_congr fun i _ => by
 unfold plusF spanF
 by_cases h : lo ≤ i
 ·rw [decide_eq_false (show ¬ i < lo by omega), Bool.and_false, Bool.or_false]
 ·rw [decide_eq_false h, Bool.false_and, Bool.or_false]
theorem plusF_less (f : Nat → Bool) (lo k : Nat) (h : k ≤ lo) : setA (plusF f lo k) = setA f := setA_congr fun i _ => by
 unfold plusF spanF
 by_cases h2 : lo ≤ i
 ·rw [decide_eq_false (show ¬ i < k by omega), Bool.and_false, Bool.or_false]
 ·rw [decide_eq_false h2, Bool.false_and, Bool.or_false]
theorem plusF_succ (f : Nat → Bool) (lo k : Nat) (h : lo ≤ k) : setA (fun j => if j = k then true else plusF f lo k j) = setA (plusF f lo (k + 1)) := setA_congr fun i _ => by
 unfold plusF spanF
 by_cases e : i = k
 ·subst e
  rw [if_pos rfl, decide_eq_true h, decide_eq_true (Nat.lt_succ_self i), Bool.and_true, Bool.or_true]
 ·rw [if_neg e, show decide (i < k) = decide (i < k + 1) from decide_eq_decide.2 (by omega)]
set_option maxHeartbeats 4000000 in
set_option maxRecDepth 1000000 in
theorem rwith_any (f : Nat → Bool) (lo hi : Nat) (hlo : lo < 256) (hhi : hi < 256) (w : World) : Calls Tryz.prog 136 #[.agg (setA f), .int .i64 (lo : Int), .int .i64 (hi : Int)] w fun e w' => e = .returned (.agg (setA (fun c => f c || spanF lo (hi + 1) c))) ∧ Below w.heap.size w w' := by
 ·have hv := (zero_of_info infoQ).1
  go_enter Tryz.func136, Tryz.ntmps136
  go_wp2
  rw [← setA_false]
  have H0 : Hid (SbQ w.heap.size (plusF f lo lo) ((w.alloc (.cells (setA f) 167)).alloc (.cells (setA (fun _ => false)) 167))) := Lib.hid (((SbQ.new w f).on (al_below _ _) (by simp)).eq (plusF_none _ _).symm)
  have H1 : Hid (SbQ (w.heap.size + 1) (fun _ => false) ((w.alloc (.cells (setA f) 167)).alloc (.cells (setA (fun _ => false)) 167))) := Lib.hid (by have := SbQ.new (w.alloc (.cells (setA f) 167)) (fun _ => false); simpa using this)
  have HB : Hid (Below w.heap.size w ((w.alloc (.cells (setA f) 167)).alloc (.cells (setA (fun _ => false)) 167))) := Lib.hid ((al_below w _).trans ((al_below _ _).mono (by simp)))
  go_loopw [7] (fun i wr => ∃ (k : Nat), i = .int .i64 k ∧ lo ≤ k ∧ k ≤ 256 ∧ (lo ≤ hi → k ≤ hi + 1) ∧ (hi < lo → k = lo) ∧ Hid (SbQ w.heap.size (plusF f lo k) wr) ∧ Hid (SbQ (w.heap.size + 1) (fun _ => false) wr) ∧ Hid (Below w.heap.size w wr)) (fun i _ => 256 - (intOf i).toNat)
  case atStart => exact ⟨lo, rfl, Nat.le_refl _, by omega, by omega, fun _ => rfl, H0, H1, HB⟩
  case round =>
   obtain ⟨k, rfl, hk1, hk2, hk3, hk4, HS, HR, HBL⟩ := hrel
   clear H0 H1 HB
   by_cases hle : k ≤ hi
   ·have z1 : decide ((k : Int) ≤ (hi : Int)) = true := decide_eq_true (by omega)
    have y1 : decide (k ≤ hi) = true := decide_eq_true hle
    have i1 : (k : Int) < 256 := by omega
    have i2 : (0 : Int) ≤ (k : Int) := by omega
    have hw1 : IntKind.i64.wrap ((k : Int) + 1) = (k : Int) + 1 := IntWalk.i64_in _ (by omega)
    have hc : wr.cell? ⟨w.heap.size, k, none⟩ = some (.bool (plusF f lo k k)) := HS.out.cell (by omega)
    have hf := HS.out.fz k
    have hp : plusF f lo k k = f k := by unfold plusF spanF; rw [decide_eq_false (Nat.lt_irrefl k), Bool.and_false, Bool.or_false]
    rw [hp] at hc
    clear hp
    go_wp2
    refine ⟨⟨k + 1, by go_num, by omega, by omega, by omega, by omega, Lib.hid ((HS.out.set k true).eq (plusF_succ f lo k hk1)), Lib.hid (HR.out.other k _ (by simp)), Lib.hid (HBL.out.setCell (p := ⟨w.heap.size, k, none⟩) (Nat.le_refl _) _)⟩, by simp [intOf]; omega⟩
   ·have z1 : decide ((k : Int) ≤ (hi : Int)) = false := decide_eq_false (by omega)
    have y1 : decide (k ≤ hi) = false := decide_eq_false hle
    have hks : setA (plusF f lo k) = setA (fun c => f c || spanF lo (hi + 1) c) := by
     rcases Nat.lt_or_ge hi lo with h | h
     ·rw [hk4 h, plusF_none, show (fun c => f c || spanF lo (hi + 1) c) = plusF f lo (hi + 1) from rfl, plusF_less _ _ _ (by omega)]
     ·rw [show k = hi + 1 by omega]
      rfl
    have hs := HS.out.eq hks
    obtain ⟨w4, e4, h4, hb4, e4'⟩ := put_set2 HR.out (fun c => f c || spanF lo (hi + 1) c)
    have HB4 := Lib.hid (HBL.out.trans (hb4.mono (Nat.le_succ _)))
    clear hb4 HS hks
    go_wp2_with fail
    refine wp_load_setQ _ rfl w.heap.size rfl _ _ hs ?_
    go_wp2_with fail
    exact ret_setQ rfl h4 rfl rfl ⟨rfl, HB4.out⟩
theorem runTo_up (f : Nat → Bool) (k m : Nat) (hk : k < m) (hm : m < 256) (h : runTo f (m - 1) = runTo f k) (hf : f m = true) : runTo f (m + 1 - 1) = runTo f k := by
 have e := runTo_on f (m - 1) (by omega) (by rw [show m - 1 + 1 = m by omega]; exact hf)
 rw [show m - 1 + 1 = m by omega] at e
 rw [show m + 1 - 1 = m by omega, e, h]
set_option maxHeartbeats 8000000 in
set_option maxRecDepth 1000000 in
theorem rranges_any (f : Nat → Bool) (w : World) : Calls Tryz.prog 153 #[.agg (setA f)] w fun e w' => ∃ v, e = .returned v ∧ OR w.heap.size 87 2 RgR w' (rngs f 0) v ∧ Below w.heap.size w w' := by
 go_enter Tryz.func153, Tryz.ntmps153
 go_wp2
 go_loopw [3, 4, 5] (fun l i fr wr => ∃ (k : Nat) (rs : List (UInt8 × UInt8)) (v : Value), v = l ∧ i = .int .i64 k ∧ k ≤ 256 ∧ Hid (rs ++ rngs f k = rngs f 0) ∧ rs.length ≤ k ∧ Hid (OR (w.heap.size + 1) 87 2 RgR wr rs v) ∧ Hid (wr.heap[w.heap.size]? = some (.cells (setA f) 167 (0, 0))) ∧ Hid (Below w.heap.size w wr)) (fun _ i _ _ => 256 - (intOf i).toNat)
 case atStart => exact ⟨0, [], _, rfl, rfl, by omega, Lib.hid rfl, by simp, Lib.hid OR.nil, Lib.hid (heap_alloc_new w _), Lib.hid ((Below.refl _ w).alloc (Nat.le_refl _) _)⟩
 case round =>
  obtain ⟨k, rs, v, rfl, rfl, hk, HR, hrl, HO, HB, HW⟩ := hrel
  by_cases hle : k < 256
  ·have z1 : decide ((k : Int) < 256) = true := decide_eq_true (by omega)
   have y1 : decide (k < 256) = true := decide_eq_true hle
   have i1 : (k : Int) < 256 := by omega
   have i2 : (0 : Int) ≤ (k : Int) := by omega
   have hw1 : IntKind.i64.wrap ((k : Int) + 1) = (k : Int) + 1 := IntWalk.i64_in _ (by omega)
   have hc : wr.cell? ⟨w.heap.size, k, none⟩ = some (.bool (f k)) := by
    rw [cell_of_row _ _ _ _ _ _ HB.out]
    exact setA_at f hle
   cases hf : f k with
   | false =>
    rw [hf] at hc
    go_wp2_with fail
    refine ⟨⟨k + 1, rs, v, rfl, by go_num, by omega, Lib.hid (by rw [← rngs_off f k hle hf]; exact HR.out), by omega, HO, HB, HW⟩, by simp [intOf]; omega⟩
   | true =>
    rw [hf] at hc
    have HFK := Lib.hid hf
    clear hf
    go_wp2_with fail
    go_loopw [4] (fun i wx => ∃ m : Nat, i = .int .i64 m ∧ k ≤ m ∧ m ≤ 256 ∧ Hid (m = k ∨ (k < m ∧ runTo f (m - 1) = runTo f k)) ∧ wr = wx) (fun i _ => 256 - (intOf i).toNat)
    case atStart => exact ⟨k, rfl, Nat.le_refl _, by omega, Lib.hid (.inl rfl), rfl⟩
    case round =>
     clear hc
     obtain ⟨m, rfl, hm1, hm2, HM, rfl⟩ := hrel
     by_cases hgo : m < 256 ∧ f m = true
     ·have hw2 : IntKind.i64.wrap ((m : Int) + 1) = (m : Int) + 1 := IntWalk.i64_in _ (by omega)
      have x1 : decide ((m : Int) < 256) = true := decide_eq_true (by omega)
      have x2 : (m : Int) < 256 := by omega
      have x3 : (0 : Int) ≤ (m : Int) := by omega
      have hc2 : wr.cell? ⟨w.heap.size, m, none⟩ = some (.bool true) := by
       rw [cell_of_row _ _ _ _ _ _ HB.out, ← hgo.2]
       exact setA_at f hgo.1
      have HN : Hid (m + 1 = k ∨ (k < m + 1 ∧ runTo f (m + 1 - 1) = runTo f k)) := Lib.hid (.inr ⟨by omega, by
       rcases HM.out with rfl | ⟨h1, h2⟩
       ·rfl
       ·exact runTo_up f k m h1 hgo.1 h2 hgo.2⟩)
      clear hgo HM
      go_wp2_with fail
      refine ⟨⟨m + 1, by go_num, by omega, by omega, HN, trivial⟩, by simp [intOf]; omega⟩
     ·have hkm : k < m ∧ runTo f (m - 1) = runTo f k := by
       rcases HM.out with rfl | h
       ·exact absurd ⟨hle, HFK.out⟩ hgo
       ·exact h
      obtain ⟨m', rfl⟩ : ∃ m', m = m' + 1 := ⟨m - 1, by omega⟩
      have hmr2 : Hid (runTo f k = m') := Lib.hid (hkm.2.symm.trans (by
       rw [show m' + 1 - 1 = m' by omega]
       exact runTo_off f m' fun h => by cases h3 : f (m' + 1) with | false => rfl | true => exact absurd ⟨h, h3⟩ hgo))
      have wx : IntKind.u8.wrap (k : Int) = (k : Int) := IntWalk.u8_in _ (by omega)
      have hm3 : m' < 256 := by omega
      have wy : IntKind.u8.wrap (m' : Int) = (m' : Int) := IntWalk.u8_in _ (by omega)
      have wz : IntKind.i64.wrap (((m' + 1 : Nat) : Int) - 1) = (m' : Int) := by
       rw [show ((m' + 1 : Nat) : Int) - 1 = (m' : Int) by omega]
       exact IntWalk.i64_in _ (by omega)
      have wz' : IntKind.i64.wrap ((m' : Int) + 1 - 1) = (m' : Int) := by
       rw [show (m' : Int) + 1 - 1 = (m' : Int) by omega]
       exact IntWalk.i64_in _ (by omega)
      obtain ⟨i0, hi, hz0, hz1, hz2⟩ := info_parts infoR
      obtain ⟨cs, hown, hpush⟩ := HO.out.cells
      have hBW : w.heap.size + 1 ≤ wr.heap.size := (Array.getElem?_eq_some_iff.1 HB.out).1
      have one2 : ∀ u ∈ [Value.int .u8 (k : Int), .int .u8 (m' : Int)], u.oneCell' = true := by
       intro u hu
       simp only [List.mem_cons, List.not_mem_nil, or_false] at hu
       rcases hu with rfl | rfl <;> rfl
      have hkm1 := hkm.1
      clear HM hkm
      by_cases h1 : m' + 1 < 256
      ·have x1 : decide (((m' + 1 : Nat) : Int) < 256) = true := decide_eq_true (by omega)
       have x1' : decide ((m' : Int) + 1 < 256) = true := decide_eq_true (by omega)
       have x2 : (m' : Int) + 1 < 256 := by omega
       have x3 : (0 : Int) ≤ (m' : Int) + 1 := by omega
       have x4 : ((m' : Int) + 1).toNat = m' + 1 := by omega
       have hc2 : wr.cell? ⟨w.heap.size, m' + 1, none⟩ = some (.bool false) := by
        have hff : f (m' + 1) = false := by cases h3 : f (m' + 1) with | false => rfl | true => exact absurd ⟨h1, h3⟩ hgo
        rw [cell_of_row _ _ _ _ _ _ HB.out, ← hff]
        exact setA_at f h1
       clear hgo
       go_wp2_with (at_builtin; refine wpList_append_lies _ rfl _ _ 35 rfl (w.heap.size + 1) 87 i0 (.agg #[.int .u8 0, .int .u8 0]) 2 2 Tryz.underlying35 hi hz0 hz1 hz2 rfl (by decide) _ rs.length cs rfl (hown.alloc _) ⟨wr.heap.size, 0, none⟩ 1 1 [.int .u8 (k : Int), .int .u8 (m' : Int)] rfl rfl (World.news_of_block (heap_alloc_new wr _)) one2 (by omega) (by unfold maxLen; omega) (by omega) (Nat.le_trans hBW (by simp)) _ rfl ?_; intro g6 cap6 w6 hown6 hgr6 hat6 hlt6; have HW6 := Lib.hid (push_below hgr6 hown hBW); have HO6 := Lib.hid (hpush RgR w6 (UInt8.ofNat k, UInt8.ofNat m') _ _ (fun _ _ h => h) rfl (by simp only [RgR]; rw [ofNat8 hle, ofNat8 hm3]) (by omega) hown6); clear hown6 hgr6 hat6 hlt6 hown hpush)
       refine ⟨⟨m' + 1, rs ++ [(UInt8.ofNat k, UInt8.ofNat m')], _, rfl, by go_num, by omega, Lib.hid (by rw [List.append_assoc, List.singleton_append, ← HR.out, rngs_on f k hle HFK.out, hmr2.out]), by simp; omega, HO6, Lib.hid ((HW6.out.block _ (Nat.lt_succ_self _)).trans HB.out), Lib.hid (HW.out.trans (HW6.out.mono (Nat.le_succ _)))⟩, by simp [intOf]; omega⟩
      ·have x1 : decide (((m' + 1 : Nat) : Int) < 256) = false := decide_eq_false (by omega)
       have x1' : decide ((m' : Int) + 1 < 256) = false := decide_eq_false (by omega)
       clear hgo
       go_wp2_with (at_builtin; refine wpList_append_lies _ rfl _ _ 35 rfl (w.heap.size + 1) 87 i0 (.agg #[.int .u8 0, .int .u8 0]) 2 2 Tryz.underlying35 hi hz0 hz1 hz2 rfl (by decide) _ rs.length cs rfl (hown.alloc _) ⟨wr.heap.size, 0, none⟩ 1 1 [.int .u8 (k : Int), .int .u8 (m' : Int)] rfl rfl (World.news_of_block (heap_alloc_new wr _)) one2 (by omega) (by unfold maxLen; omega) (by omega) (Nat.le_trans hBW (by simp)) _ rfl ?_; intro g6 cap6 w6 hown6 hgr6 hat6 hlt6; have HW6 := Lib.hid (push_below hgr6 hown hBW); have HO6 := Lib.hid (hpush RgR w6 (UInt8.ofNat k, UInt8.ofNat m') _ _ (fun _ _ h => h) rfl (by simp only [RgR]; rw [ofNat8 hle, ofNat8 hm3]) (by omega) hown6); clear hown6 hgr6 hat6 hlt6 hown hpush)
       refine ⟨⟨m' + 1, rs ++ [(UInt8.ofNat k, UInt8.ofNat m')], _, rfl, by go_num, by omega, Lib.hid (by rw [List.append_assoc, List.singleton_append, ← HR.out, rngs_on f k hle HFK.out, hmr2.out]), by simp; omega, HO6, Lib.hid ((HW6.out.block _ (Nat.lt_succ_self _)).trans HB.out), Lib.hid (HW.out.trans (HW6.out.mono (Nat.le_succ _)))⟩, by simp [intOf]; omega⟩
  ·have z1 : decide ((k : Int) < 256) = false := decide_eq_false (by omega)
   have y1 : decide (k < 256) = false := decide_eq_false hle
   go_wp2_with fail
   go_ret
   have hr0 : rngs f k = [] := by rw [rngs, dif_neg hle]
   have := HR.out
   rw [hr0, List.append_nil] at this
   exact ⟨_, rfl, this ▸ (HO.out.own (fun _ _ => rfl) (fun _ _ h => h) _ (Nat.le_succ _)), HW.out⟩
end Go.Proofs.YtgcpinnnfoanjaaGreatDoor
namespace Go.Proofs.YtgcpinnnfoanjaaGreatDoor
open Go.RowKit
theorem lv_rp {W : World} {g : Nat} {t : TypeId} {x0 x1 x2 x3 : Value} (hg : W.heap[g]? = some (.cells #[x0, x1, x2, x3] t (0, 0))) : (loadVar 111 ⟨g, 0, none⟩).run Tryz.prog W = .ok (.agg #[x0, x1, x2, x3]) W :=
 run_loadVar_row W g t _ _ (0, 0) _ hg Tryz.underlying111 rfl (by kernel_rfl)
theorem lv_nd {W : World} {g : Nat} {t : TypeId} {x0 x1 x2 x3 x4 x5 : Value} (hg : W.heap[g]? = some (.cells #[x0, x1, x2, x3, x4, x5] t (0, 0))) : (loadVar 38 ⟨g, 0, none⟩).run Tryz.prog W = .ok (.agg #[x0, x1, x2, x3, x4, x5]) W :=
 run_loadVar_row W g t _ _ (0, 0) _ hg Tryz.underlying38 rfl (by kernel_rfl)
theorem lv_st {W : World} {g : Nat} {t : TypeId} {f : Nat → Bool} (hg : W.heap[g]? = some (.cells (setA f) t (0, 0))) : (loadVar 167 ⟨g, 0, none⟩).run Tryz.prog W = .ok (.agg (setA f)) W :=
 run_loadVar_row W g t _ _ (0, 0) _ hg undQ rfl (by rw [setA_size]; exact (zero_of_info infoQ).2)
theorem ret_1 {fn : Func} {p : Tmp} {ty : TypeId} (h : fn.results = #[.cell p ty]) {tmps : Array Value} {W : World} {a : Addr} {v : Value} (hp : tmps.getD p undef = .pointer (some a)) (hv : (loadVar ty a).run Tryz.prog W = .ok v W) {post : Ending → World → Prop} (hpost : post (.returned v) W) :
  bodyPost Tryz.prog fn post Exit.ret { tmps := tmps, defers := [] } W := by
 refine bodyPost_ret ?_ rfl hpost
 have hp' : tmps[p]?.getD undef = .pointer (some a) := by simpa using hp
 simp [results, h, hp', asAddr, hv]
theorem ret_ct {fn : Func} {p t : Tmp} {ty : TypeId} (h : fn.results = #[.cell p ty, .tmp t]) {tmps : Array Value} {W : World} {a : Addr} {v u : Value} (hp : tmps.getD p undef = .pointer (some a)) (hu : tmps.getD t undef = u) (hv : (loadVar ty a).run Tryz.prog W = .ok v W) {post : Ending → World → Prop} (hpost : post (.returned (.tuple #[v, u])) W) :
  bodyPost Tryz.prog fn post Exit.ret { tmps := tmps, defers := [] } W := by
 refine bodyPost_ret ?_ rfl hpost
 have hp' : tmps[p]?.getD undef = .pointer (some a) := by simpa using hp
 have hu' : tmps[t]?.getD undef = u := by simpa using hu
 simp [results, h, hp', hu', asAddr, hv]
theorem ret_ctt {fn : Func} {p t s : Tmp} {ty : TypeId} (h : fn.results = #[.cell p ty, .tmp t, .tmp s]) {tmps : Array Value} {W : World} {a : Addr} {v u x : Value} (hp : tmps.getD p undef = .pointer (some a)) (hu : tmps.getD t undef = u) (hx : tmps.getD s undef = x) (hv : (loadVar ty a).run Tryz.prog W = .ok v W) {post : Ending → World → Prop} (hpost : post (.returned (.tuple #[v, u, x])) W) :
  bodyPost Tryz.prog fn post Exit.ret { tmps := tmps, defers := [] } W := by
 refine bodyPost_ret ?_ rfl hpost
 have hp' : tmps[p]?.getD undef = .pointer (some a) := by simpa using hp
 have hu' : tmps[t]?.getD undef = u := by simpa using hu
 have hx' : tmps[s]?.getD undef = x := by simpa using hx
 simp [results, h, hp', hu', hx', asAddr, hv]
theorem ret_cc {fn : Func} {p q : Tmp} {ty tz : TypeId} (h : fn.results = #[.cell p ty, .cell q tz]) {tmps : Array Value} {W : World} {a b : Addr} {v u : Value} (hp : tmps.getD p undef = .pointer (some a)) (hq : tmps.getD q undef = .pointer (some b)) (hv : (loadVar ty a).run Tryz.prog W = .ok v W) (hu : (loadVar tz b).run Tryz.prog W = .ok u W) {post : Ending → World → Prop} (hpost : post (.returned (.tuple #[v, u])) W) :
  bodyPost Tryz.prog fn post Exit.ret { tmps := tmps, defers := [] } W := by
 refine bodyPost_ret ?_ rfl hpost
 have hp' : tmps[p]?.getD undef = .pointer (some a) := by simpa using hp
 have hq' : tmps[q]?.getD undef = .pointer (some b) := by simpa using hq
 simp [results, h, hp', hq', asAddr, hv, hu, Sem.run_bind]
theorem ret_ctc {fn : Func} {p t q : Tmp} {ty tz : TypeId} (h : fn.results = #[.cell p ty, .tmp t, .cell q tz]) {tmps : Array Value} {W : World} {a b : Addr} {v u x : Value} (hp : tmps.getD p undef = .pointer (some a)) (ht : tmps.getD t undef = x) (hq : tmps.getD q undef = .pointer (some b)) (hv : (loadVar ty a).run Tryz.prog W = .ok v W) (hu : (loadVar tz b).run Tryz.prog W = .ok u W) {post : Ending → World → Prop} (hpost : post (.returned (.tuple #[v, x, u])) W) :
  bodyPost Tryz.prog fn post Exit.ret { tmps := tmps, defers := [] } W := by
 refine bodyPost_ret ?_ rfl hpost
 have hp' : tmps[p]?.getD undef = .pointer (some a) := by simpa using hp
 have ht' : tmps[t]?.getD undef = x := by simpa using ht
 have hq' : tmps[q]?.getD undef = .pointer (some b) := by simpa using hq
 simp [results, h, hp', hq', ht', asAddr, hv, hu, Sem.run_bind]
def RPb (q : Nat) (l : List UInt8) (i e bad : Nat) (W : World) : Prop := W.heap[q]? = some (.cells #[.string ⟨l.toArray⟩, .int .i64 (i : Int), .int .i64 (e : Int), .int .i64 (bad : Int)] 111 (0, 0))
section
variable {q i e bad : Nat} {l : List UInt8} {W W' : World}
theorem RPb.c0 (h : RPb q l i e bad W) : W.cell? ⟨q, 0, none⟩ = some (.string ⟨l.toArray⟩) := Lib.cell_of_heap h 0
theorem RPb.c1 (h : RPb q l i e bad W) : W.cell? ⟨q, 1, none⟩ = some (.int .i64 (i : Int)) := Lib.cell_of_heap h 1
theorem RPb.c2 (h : RPb q l i e bad W) : W.cell? ⟨q, 2, none⟩ = some (.int .i64 (e : Int)) := Lib.cell_of_heap h 2
theorem RPb.c3 (h : RPb q l i e bad W) : W.cell? ⟨q, 3, none⟩ = some (.int .i64 (bad : Int)) := Lib.cell_of_heap h 3
theorem RPb.fz (h : RPb q l i e bad W) (j : Nat) : W.frozen? ⟨q, j, none⟩ = false := Lib.frozen_of_heap h j
theorem RPb.lt (h : RPb q l i e bad W) : q < W.heap.size := (Array.getElem?_eq_some_iff.1 h).1
theorem RPb.on {B : Nat} (h : RPb q l i e bad W) (k : Below B W W') (hb : q < B) : RPb q l i e bad W' := (k.block q hb).trans h
theorem RPb.to (h : RPb q l i e bad W) (j : Nat) : RPb q l j e bad (W.setCell ⟨q, 1, none⟩ (.int .i64 (j : Int))) := heap_setCell_same W q 1 _ _ _ h
theorem RPb.new (W : World) : RPb W.heap.size l i e bad (W.alloc (.cells #[.string ⟨l.toArray⟩, .int .i64 (i : Int), .int .i64 (e : Int), .int .i64 (bad : Int)] 111)) := heap_alloc_new W _
end
theorem st_four {W : World} {g : Nat} {a b c d x y z u : Value} {ty : TypeId} (h : W.heap[g]? = some (.cells #[a, b, c, d] ty (0, 0))) : ((((W.setCell ⟨g, 0, none⟩ x).setCell ⟨g, 1, none⟩ y).setCell ⟨g, 2, none⟩ z).setCell ⟨g, 3, none⟩ u).heap[g]? = some (.cells #[x, y, z, u] ty (0, 0)) :=
 heap_setCell_same _ g 3 _ _ _ (heap_setCell_same _ g 2 _ _ _ (heap_setCell_same _ g 1 _ _ _ (heap_setCell_same W g 0 _ _ _ h)))
theorem st_six {W : World} {g : Nat} {a b c d e f x y z u v t : Value} {ty : TypeId} (h : W.heap[g]? = some (.cells #[a, b, c, d, e, f] ty (0, 0))) : ((((((W.setCell ⟨g, 0, none⟩ x).setCell ⟨g, 1, none⟩ y).setCell ⟨g, 2, none⟩ z).setCell ⟨g, 3, none⟩ u).setCell ⟨g, 4, none⟩ v).setCell ⟨g, 5, none⟩ t).heap[g]? = some (.cells #[x, y, z, u, v, t] ty (0, 0)) :=
 heap_setCell_same _ g 5 _ _ _ (heap_setCell_same _ g 4 _ _ _ (heap_setCell_same _ g 3 _ _ _ (heap_setCell_same _ g 2 _ _ _ (heap_setCell_same _ g 1 _ _ _ (heap_setCell_same W g 0 _ _ _ h)))))
def pk (l : List UInt8) (i : Nat) : Nat := if Asc.at_ l i = 999 then 0 else Asc.at_ l i
theorem pk_lt (l : List UInt8) (i : Nat) : pk l i < 256 := by
 unfold pk
 rcases Nat.lt_or_ge i l.length with h | h
 ·have := Asc.at_le h
  split <;> omega
 ·rw [if_pos (by unfold Asc.at_; rw [List.getElem?_eq_none h])]
  decide
theorem pk_eq {l : List UInt8} {i c : Nat} (h0 : 0 < c) (h1 : c < 256) : pk l i = c ↔ Asc.at_ l i = c := by
 unfold pk
 split <;> omega
theorem pk_in {l : List UInt8} {i : Nat} (h : i < l.length) : pk l i = Asc.at_ l i := by
 have := Asc.at_le h
 unfold pk
 rw [if_neg (by omega)]
set_option maxHeartbeats 4000000 in
set_option maxRecDepth 1000000 in
theorem rpeek_any (l : List UInt8) (i e bad : Nat) (w : World) : Calls Tryz.prog 79 #[.agg #[.string ⟨l.toArray⟩, .int .i64 (i : Int), .int .i64 (e : Int), .int .i64 (bad : Int)]] w fun r w' => r = .returned (.int .u8 (pk l i : Int)) ∧ Below w.heap.size w w' := by
 by_cases h : i < l.length
 ·obtain ⟨c, ⟨_, hx⟩, hc, hb⟩ := byte_at l i h
  have hpk : pk l i = c := by
   rw [pk_in h]
   unfold Asc.at_
   rw [List.getElem?_eq_getElem h]
   exact hc
  have z1 : decide ((i : Int) < (l.length : Int)) = true := decide_eq_true (by omega)
  have y1 : decide (i < l.length) = true := decide_eq_true h
  have i1 : (i : Int) < (l.length : Int) := by omega
  have i2 : (0 : Int) ≤ (i : Int) := by omega
  rw [hpk]
  clear hc hpk
  go_enter Tryz.func79, Tryz.ntmps79
  go_wp2_with fail
  go_ret
  exact ⟨rfl, al_below w _⟩
 ·have hpk : pk l i = 0 := if_pos (by unfold Asc.at_; rw [List.getElem?_eq_none (by omega)])
  have z1 : decide ((i : Int) < (l.length : Int)) = false := decide_eq_false (by omega)
  have y1 : decide (i < l.length) = false := decide_eq_false h
  rw [hpk]
  clear hpk
  go_enter Tryz.func79, Tryz.ntmps79
  go_wp2_with fail
  go_ret
  exact ⟨rfl, al_below w _⟩
theorem two_new (w : World) (o o' : Obj) : ((w.alloc o).alloc o').heap[w.heap.size + 1]? = some o' := by
 have := heap_alloc_new (w.alloc o) o'
 rwa [show (w.alloc o).heap.size = w.heap.size + 1 by simp] at this
theorem rfail_any (l : List UInt8) (i bad x a : Nat) (w : World) : Calls Tryz.prog 59 #[.agg #[.string ⟨l.toArray⟩, .int .i64 (i : Int), .int .i64 0, .int .i64 (bad : Int)], .int .i64 (x : Int), .int .i64 (a : Int)] w fun r w' => r = .returned (.agg #[.string ⟨l.toArray⟩, .int .i64 (i : Int), .int .i64 (x : Int), .int .i64 (a : Int)]) ∧ Below w.heap.size w w' := by
 go_enter Tryz.func59, Tryz.ntmps59
 go_wp2_with fail
 exact ret_1 (p := 6) rfl (by rfl) (lv_rp (two_new w _ _)) ⟨rfl, (al_below w _).trans ((al_below _ _).mono (by simp))⟩
end Go.Proofs.YtgcpinnnfoanjaaGreatDoor
namespace Go.Proofs.YtgcpinnnfoanjaaGreatDoor
open Go.RowKit
def sgN (c : Nat) : Nat := if c = 110 then 10 else if c = 116 then 9 else c
def sgB (c : Nat) : Bool := decide (c = 110) || decide (c = 116) || selfE c
theorem rsingle_n (w : World) : Calls Tryz.prog 155 #[.int .u8 110] w fun e w' => e = .returned (.tuple #[.int .i64 10, .bool true]) ∧ w = w' := by
 go_enter Tryz.func155, Tryz.ntmps155
 go_wp2_with fail
 go_ret2
 exact ⟨rfl, rfl⟩
theorem rsingle_t (w : World) : Calls Tryz.prog 155 #[.int .u8 116] w fun e w' => e = .returned (.tuple #[.int .i64 9, .bool true]) ∧ w = w' := by
 go_enter Tryz.func155, Tryz.ntmps155
 go_wp2_with fail
 go_ret2
 exact ⟨rfl, rfl⟩
set_option maxHeartbeats 4000000 in
set_option maxRecDepth 1000000 in
theorem rsingle_o (c : Nat) (hc : c < 256) (h1 : c ≠ 110) (h2 : c ≠ 116) (w : World) : Calls Tryz.prog 155 #[.int .u8 (c : Int)] w fun e w' => e = .returned (.tuple #[.int .i64 (c : Int), .bool (selfE c)]) ∧ w = w' := by
 have z1 : ((c : Int) == 110) = false := by rw [beq_eq_false_iff_ne]; omega
 have z2 : ((c : Int) == 116) = false := by rw [beq_eq_false_iff_ne]; omega
 have hw : IntKind.i64.wrap (c : Int) = (c : Int) := IntWalk.i64_in _ (by omega)
 have HS := Lib.hid (show selfE c = (decide (32 ≤ c) && decide (c ≤ 126) && !Asc.isLetter c && !Asc.isDigit c) from rfl)
 have HL := Lib.hid fun W => rletter_any c W hc
 have HD := Lib.hid fun W => rdigit_any c W hc
 obtain ⟨R, hR⟩ : ∃ R, selfE c = R := ⟨_, rfl⟩
 rw [hR] at HS ⊢
 obtain ⟨bl, hbl⟩ : ∃ b, Asc.isLetter c = b := ⟨_, rfl⟩
 obtain ⟨bd, hbd⟩ : ∃ b, Asc.isDigit c = b := ⟨_, rfl⟩
 rw [hbl] at HL HS
 rw [hbd] at HD HS
 clear h1 h2 hR hbl hbd
 by_cases a : 32 ≤ c
 ·have y1 : decide ((32 : Int) ≤ (c : Int)) = true := decide_eq_true (by omega)
  have x1 : decide (32 ≤ c) = true := decide_eq_true a
  rw [x1] at HS
  by_cases b : c ≤ 126
  ·have y2 : decide ((c : Int) ≤ 126) = true := decide_eq_true (by omega)
   have x2 : decide (c ≤ 126) = true := decide_eq_true b
   rw [x2] at HS
   cases bl with
   | true =>
    go_enter Tryz.func155, Tryz.ntmps155
    go_wp2_with (first | (go_at_call 47; refine (HL.out _).mono ?_; rintro e wx ⟨rfl, rfl⟩) | (go_at_call 69; refine (HD.out _).mono ?_; rintro e wx ⟨rfl, rfl⟩))
    go_ret2
    exact ⟨by rw [HS.out]; rfl, rfl⟩
   | false =>
    go_enter Tryz.func155, Tryz.ntmps155
    go_wp2_with (first | (go_at_call 47; refine (HL.out _).mono ?_; rintro e wx ⟨rfl, rfl⟩) | (go_at_call 69; refine (HD.out _).mono ?_; rintro e wx ⟨rfl, rfl⟩))
    go_ret2
    exact ⟨by rw [HS.out]; rfl, rfl⟩
  ·have y2 : decide ((c : Int) ≤ 126) = false := decide_eq_false (by omega)
   have x2 : decide (c ≤ 126) = false := decide_eq_false b
   rw [x2] at HS
   go_enter Tryz.func155, Tryz.ntmps155
   go_wp2_with fail
   go_ret2
   exact ⟨by rw [HS.out]; rfl, rfl⟩
 ·have y1 : decide ((32 : Int) ≤ (c : Int)) = false := decide_eq_false (by omega)
  have x1 : decide (32 ≤ c) = false := decide_eq_false a
  rw [x1] at HS
  go_enter Tryz.func155, Tryz.ntmps155
  go_wp2_with fail
  go_ret2
  exact ⟨by rw [HS.out]; rfl, rfl⟩
theorem rsingle_any (c : Nat) (hc : c < 256) (w : World) : Calls Tryz.prog 155 #[.int .u8 (c : Int)] w fun e w' => e = .returned (.tuple #[.int .i64 (sgN c : Int), .bool (sgB c)]) ∧ w = w' := by
 by_cases h1 : c = 110
 ·subst h1
  exact rsingle_n w
 by_cases h2 : c = 116
 ·subst h2
  exact rsingle_t w
 have e1 : sgN c = c := by unfold sgN; rw [if_neg h1, if_neg h2]
 have e2 : sgB c = selfE c := by unfold sgB; rw [decide_eq_false h1, decide_eq_false h2]; rfl
 rw [e1, e2]
 exact rsingle_o c hc h1 h2 w
theorem rspecial_40 (w : World) : Calls Tryz.prog 139 #[.int .u8 40] w fun e w' => e = .returned (.bool true) ∧ w = w' := by
 go_enter Tryz.func139, Tryz.ntmps139
 go_wp2_with fail
 go_ret
 exact ⟨rfl, rfl⟩
theorem rspecial_41 (w : World) : Calls Tryz.prog 139 #[.int .u8 41] w fun e w' => e = .returned (.bool true) ∧ w = w' := by
 go_enter Tryz.func139, Tryz.ntmps139
 go_wp2_with fail
 go_ret
 exact ⟨rfl, rfl⟩
theorem rspecial_91 (w : World) : Calls Tryz.prog 139 #[.int .u8 91] w fun e w' => e = .returned (.bool true) ∧ w = w' := by
 go_enter Tryz.func139, Tryz.ntmps139
 go_wp2_with fail
 go_ret
 exact ⟨rfl, rfl⟩
theorem rspecial_93 (w : World) : Calls Tryz.prog 139 #[.int .u8 93] w fun e w' => e = .returned (.bool true) ∧ w = w' := by
 go_enter Tryz.func139, Tryz.ntmps139
 go_wp2_with fail
 go_ret
 exact ⟨rfl, rfl⟩
theorem rspecial_123 (w : World) : Calls Tryz.prog 139 #[.int .u8 123] w fun e w' => e = .returned (.bool true) ∧ w = w' := by
 go_enter Tryz.func139, Tryz.ntmps139
 go_wp2_with fail
 go_ret
 exact ⟨rfl, rfl⟩
theorem rspecial_125 (w : World) : Calls Tryz.prog 139 #[.int .u8 125] w fun e w' => e = .returned (.bool true) ∧ w = w' := by
 go_enter Tryz.func139, Tryz.ntmps139
 go_wp2_with fail
 go_ret
 exact ⟨rfl, rfl⟩
theorem rspecial_42 (w : World) : Calls Tryz.prog 139 #[.int .u8 42] w fun e w' => e = .returned (.bool true) ∧ w = w' := by
 go_enter Tryz.func139, Tryz.ntmps139
 go_wp2_with fail
 go_ret
 exact ⟨rfl, rfl⟩
theorem rspecial_43 (w : World) : Calls Tryz.prog 139 #[.int .u8 43] w fun e w' => e = .returned (.bool true) ∧ w = w' := by
 go_enter Tryz.func139, Tryz.ntmps139
 go_wp2_with fail
 go_ret
 exact ⟨rfl, rfl⟩
theorem rspecial_63 (w : World) : Calls Tryz.prog 139 #[.int .u8 63] w fun e w' => e = .returned (.bool true) ∧ w = w' := by
 go_enter Tryz.func139, Tryz.ntmps139
 go_wp2_with fail
 go_ret
 exact ⟨rfl, rfl⟩
theorem rspecial_124 (w : World) : Calls Tryz.prog 139 #[.int .u8 124] w fun e w' => e = .returned (.bool true) ∧ w = w' := by
 go_enter Tryz.func139, Tryz.ntmps139
 go_wp2_with fail
 go_ret
 exact ⟨rfl, rfl⟩
theorem rspecial_46 (w : World) : Calls Tryz.prog 139 #[.int .u8 46] w fun e w' => e = .returned (.bool true) ∧ w = w' := by
 go_enter Tryz.func139, Tryz.ntmps139
 go_wp2_with fail
 go_ret
 exact ⟨rfl, rfl⟩
theorem rspecial_94 (w : World) : Calls Tryz.prog 139 #[.int .u8 94] w fun e w' => e = .returned (.bool true) ∧ w = w' := by
 go_enter Tryz.func139, Tryz.ntmps139
 go_wp2_with fail
 go_ret
 exact ⟨rfl, rfl⟩
theorem rspecial_36 (w : World) : Calls Tryz.prog 139 #[.int .u8 36] w fun e w' => e = .returned (.bool true) ∧ w = w' := by
 go_enter Tryz.func139, Tryz.ntmps139
 go_wp2_with fail
 go_ret
 exact ⟨rfl, rfl⟩
theorem rspecial_92 (w : World) : Calls Tryz.prog 139 #[.int .u8 92] w fun e w' => e = .returned (.bool true) ∧ w = w' := by
 go_enter Tryz.func139, Tryz.ntmps139
 go_wp2_with fail
 go_ret
 exact ⟨rfl, rfl⟩
set_option maxHeartbeats 4000000 in
set_option maxRecDepth 1000000 in
theorem rspecial_no (c : Nat) (w : World) (h40 : c ≠ 40) (h41 : c ≠ 41) (h91 : c ≠ 91) (h93 : c ≠ 93) (h123 : c ≠ 123) (h125 : c ≠ 125) (h42 : c ≠ 42) (h43 : c ≠ 43) (h63 : c ≠ 63) (h124 : c ≠ 124) (h46 : c ≠ 46) (h94 : c ≠ 94) (h36 : c ≠ 36) (h92 : c ≠ 92) : Calls Tryz.prog 139 #[.int .u8 (c : Int)] w fun e w' => e = .returned (.bool false) ∧ w = w' := by
 have z40 : ((c : Int) == 40) = false := by rw [beq_eq_false_iff_ne]; omega
 have z41 : ((c : Int) == 41) = false := by rw [beq_eq_false_iff_ne]; omega
 have z91 : ((c : Int) == 91) = false := by rw [beq_eq_false_iff_ne]; omega
 have z93 : ((c : Int) == 93) = false := by rw [beq_eq_false_iff_ne]; omega
 have z123 : ((c : Int) == 123) = false := by rw [beq_eq_false_iff_ne]; omega
 have z125 : ((c : Int) == 125) = false := by rw [beq_eq_false_iff_ne]; omega
 have z42 : ((c : Int) == 42) = false := by rw [beq_eq_false_iff_ne]; omega
 have z43 : ((c : Int) == 43) = false := by rw [beq_eq_false_iff_ne]; omega
 have z63 : ((c : Int) == 63) = false := by rw [beq_eq_false_iff_ne]; omega
 have z124 : ((c : Int) == 124) = false := by rw [beq_eq_false_iff_ne]; omega
 have z46 : ((c : Int) == 46) = false := by rw [beq_eq_false_iff_ne]; omega
 have z94 : ((c : Int) == 94) = false := by rw [beq_eq_false_iff_ne]; omega
 have z36 : ((c : Int) == 36) = false := by rw [beq_eq_false_iff_ne]; omega
 have z92 : ((c : Int) == 92) = false := by rw [beq_eq_false_iff_ne]; omega
 clear h40 h41 h91 h93 h123 h125 h42 h43 h63 h124 h46 h94 h36 h92
 go_enter Tryz.func139, Tryz.ntmps139
 go_wp2_with fail
 go_ret
 exact ⟨rfl, rfl⟩
theorem rspecial_any (c : Nat) (w : World) : Calls Tryz.prog 139 #[.int .u8 (c : Int)] w fun e w' => e = .returned (.bool ((spec.map UInt8.toNat).contains c)) ∧ w = w' := by
 by_cases h40 : c = 40
 ·subst h40
  exact rspecial_40 w
 by_cases h41 : c = 41
 ·subst h41
  exact rspecial_41 w
 by_cases h91 : c = 91
 ·subst h91
  exact rspecial_91 w
 by_cases h93 : c = 93
 ·subst h93
  exact rspecial_93 w
 by_cases h123 : c = 123
 ·subst h123
  exact rspecial_123 w
 by_cases h125 : c = 125
 ·subst h125
  exact rspecial_125 w
 by_cases h42 : c = 42
 ·subst h42
  exact rspecial_42 w
 by_cases h43 : c = 43
 ·subst h43
  exact rspecial_43 w
 by_cases h63 : c = 63
 ·subst h63
  exact rspecial_63 w
 by_cases h124 : c = 124
 ·subst h124
  exact rspecial_124 w
 by_cases h46 : c = 46
 ·subst h46
  exact rspecial_46 w
 by_cases h94 : c = 94
 ·subst h94
  exact rspecial_94 w
 by_cases h36 : c = 36
 ·subst h36
  exact rspecial_36 w
 by_cases h92 : c = 92
 ·subst h92
  exact rspecial_92 w
 have e : (spec.map UInt8.toNat).contains c = false := by
  rw [← Bool.not_eq_true, List.contains_iff_mem]
  simp [spec, *]
 rw [e]
 exact rspecial_no c w h40 h41 h91 h93 h123 h125 h42 h43 h63 h124 h46 h94 h36 h92
def nmF (c i : Nat) : Bool := (decide (c = 100) && Asc.isDigit i) || (decide (c = 119) && Asc.isWord i) || (decide (c = 115) && Asc.isSpace i)
def nmG (c : Nat) : Bool := decide (c = 100) || decide (c = 119) || decide (c = 115)
set_option maxHeartbeats 8000000 in
set_option maxRecDepth 1000000 in
theorem rnamed_d (w : World) : Calls Tryz.prog 154 #[.int .u8 100] w fun e w' => e = .returned (.tuple #[.agg (setA (nmF 100)), .bool true]) ∧ Below w.heap.size w w' := by
 have hv := (zero_of_info infoQ).1
 go_enter Tryz.func154, Tryz.ntmps154
 go_wp2
 rw [← setA_false]
 have H0 : Hid (SbQ w.heap.size (fun _ => false) ((w.alloc (.cells (setA (fun _ => false)) 167)).alloc (.cells (setA (fun _ => false)) 167))) := Lib.hid ((SbQ.new w _).on (al_below _ _) (by simp))
 have H1 : Hid (SbQ (w.heap.size + 1) (mixF (nmF 100) (fun _ => false) 0) ((w.alloc (.cells (setA (fun _ => false)) 167)).alloc (.cells (setA (fun _ => false)) 167))) := Lib.hid (by have := SbQ.new (w.alloc (.cells (setA (fun _ => false)) 167)) (fun _ => false); rw [show (w.alloc (.cells (setA (fun _ => false)) 167)).heap.size = w.heap.size + 1 by simp] at this; exact this.eq (mixF_none _ _).symm)
 have HB : Hid (Below w.heap.size w ((w.alloc (.cells (setA (fun _ => false)) 167)).alloc (.cells (setA (fun _ => false)) 167))) := Lib.hid ((al_below w _).trans ((al_below _ _).mono (by simp)))
 go_loopw [5] (fun i wr => ∃ (k : Nat), i = .int .i64 k ∧ k ≤ 256 ∧ Hid (SbQ w.heap.size (fun _ => false) wr) ∧ Hid (SbQ (w.heap.size + 1) (mixF (nmF 100) (fun _ => false) k) wr) ∧ Hid (Below w.heap.size w wr)) (fun i _ => 256 - (intOf i).toNat)
 case atStart => exact ⟨0, rfl, by omega, H0, H1, HB⟩
 case round =>
  obtain ⟨k, rfl, hk, HR, HS, HBL⟩ := hrel
  clear H0 H1 HB
  by_cases hle : k < 256
  ·have zz : decide ((k : Int) < 256) = true := decide_eq_true (by omega)
   have yy : decide (k < 256) = true := decide_eq_true hle
   have i1 : (k : Int) < 256 := by omega
   have i2 : (0 : Int) ≤ (k : Int) := by omega
   have hw1 : IntKind.i64.wrap ((k : Int) + 1) = (k : Int) + 1 := IntWalk.i64_in _ (by omega)
   have hw2 : IntKind.u8.wrap (k : Int) = (k : Int) := IntWalk.u8_in _ (by omega)
   obtain ⟨u, hc⟩ : ∃ u, wr.cell? ⟨w.heap.size + 1, k, none⟩ = some (.bool u) := ⟨_, HS.out.cell hle⟩
   have hf := HS.out.fz k
   have HX := Lib.hid (fun (x : Bool) (hx : nmF 100 k = x) => ((HS.out.set k x).eq (by rw [← hx]; exact mixF_succ (nmF 100) (fun _ => false) k) : SbQ (w.heap.size + 1) (mixF (nmF 100) (fun _ => false) (k + 1)) (wr.setCell ⟨w.heap.size + 1, k, none⟩ (.bool x))))
   have HC := Lib.hid fun W => rdigit_any k W hle
   have HV : Hid (nmF 100 k = Asc.isDigit k) := Lib.hid (by unfold nmF; simp)
   obtain ⟨b, hb⟩ : ∃ b, Asc.isDigit k = b := ⟨_, rfl⟩
   rw [hb] at HC HV
   have HX' := Lib.hid (HX.out b HV.out)
   clear HX hb
   cases b with
   | true =>
    go_wp2_with (go_at_call 69; refine (HC.out _).mono ?_; rintro e wx ⟨rfl, rfl⟩)
    refine ⟨⟨k + 1, by go_num, by omega, Lib.hid (HR.out.other k _ (by omega)), HX', Lib.hid (HBL.out.setCell (p := ⟨w.heap.size + 1, k, none⟩) (Nat.le_succ _) _)⟩, by simp [intOf]; omega⟩
   | false =>
    go_wp2_with (go_at_call 69; refine (HC.out _).mono ?_; rintro e wx ⟨rfl, rfl⟩)
    refine ⟨⟨k + 1, by go_num, by omega, Lib.hid (HR.out.other k _ (by omega)), HX', Lib.hid (HBL.out.setCell (p := ⟨w.heap.size + 1, k, none⟩) (Nat.le_succ _) _)⟩, by simp [intOf]; omega⟩
  ·have zz : decide ((k : Int) < 256) = false := decide_eq_false (by omega)
   have yy : decide (k < 256) = false := decide_eq_false hle
   obtain rfl : k = 256 := by omega
   have hs := HS.out.eq (mixF_all (nmF 100) (fun _ => false))
   obtain ⟨w4, e4, h4, hb4, e4'⟩ := put_set2 HR.out (nmF 100)
   have HB4 := Lib.hid (HBL.out.trans hb4)
   clear hb4 HS
   go_wp2_with (refine wpl_load_setQ rfl _ rfl (w.heap.size + 1) rfl _ hs ?_)
   exact ret_ct rfl (by rfl) (by rfl) (lv_st h4) ⟨rfl, HB4.out⟩
set_option maxHeartbeats 8000000 in
set_option maxRecDepth 1000000 in
theorem rnamed_w (w : World) : Calls Tryz.prog 154 #[.int .u8 119] w fun e w' => e = .returned (.tuple #[.agg (setA (nmF 119)), .bool true]) ∧ Below w.heap.size w w' := by
 have hv := (zero_of_info infoQ).1
 go_enter Tryz.func154, Tryz.ntmps154
 go_wp2
 rw [← setA_false]
 have H0 : Hid (SbQ w.heap.size (fun _ => false) ((w.alloc (.cells (setA (fun _ => false)) 167)).alloc (.cells (setA (fun _ => false)) 167))) := Lib.hid ((SbQ.new w _).on (al_below _ _) (by simp))
 have H1 : Hid (SbQ (w.heap.size + 1) (mixF (nmF 119) (fun _ => false) 0) ((w.alloc (.cells (setA (fun _ => false)) 167)).alloc (.cells (setA (fun _ => false)) 167))) := Lib.hid (by have := SbQ.new (w.alloc (.cells (setA (fun _ => false)) 167)) (fun _ => false); rw [show (w.alloc (.cells (setA (fun _ => false)) 167)).heap.size = w.heap.size + 1 by simp] at this; exact this.eq (mixF_none _ _).symm)
 have HB : Hid (Below w.heap.size w ((w.alloc (.cells (setA (fun _ => false)) 167)).alloc (.cells (setA (fun _ => false)) 167))) := Lib.hid ((al_below w _).trans ((al_below _ _).mono (by simp)))
 go_loopw [5] (fun i wr => ∃ (k : Nat), i = .int .i64 k ∧ k ≤ 256 ∧ Hid (SbQ w.heap.size (fun _ => false) wr) ∧ Hid (SbQ (w.heap.size + 1) (mixF (nmF 119) (fun _ => false) k) wr) ∧ Hid (Below w.heap.size w wr)) (fun i _ => 256 - (intOf i).toNat)
 case atStart => exact ⟨0, rfl, by omega, H0, H1, HB⟩
 case round =>
  obtain ⟨k, rfl, hk, HR, HS, HBL⟩ := hrel
  clear H0 H1 HB
  by_cases hle : k < 256
  ·have zz : decide ((k : Int) < 256) = true := decide_eq_true (by omega)
   have yy : decide (k < 256) = true := decide_eq_true hle
   have i1 : (k : Int) < 256 := by omega
   have i2 : (0 : Int) ≤ (k : Int) := by omega
   have hw1 : IntKind.i64.wrap ((k : Int) + 1) = (k : Int) + 1 := IntWalk.i64_in _ (by omega)
   have hw2 : IntKind.u8.wrap (k : Int) = (k : Int) := IntWalk.u8_in _ (by omega)
   obtain ⟨u, hc⟩ : ∃ u, wr.cell? ⟨w.heap.size + 1, k, none⟩ = some (.bool u) := ⟨_, HS.out.cell hle⟩
   have hf := HS.out.fz k
   have HX := Lib.hid (fun (x : Bool) (hx : nmF 119 k = x) => ((HS.out.set k x).eq (by rw [← hx]; exact mixF_succ (nmF 119) (fun _ => false) k) : SbQ (w.heap.size + 1) (mixF (nmF 119) (fun _ => false) (k + 1)) (wr.setCell ⟨w.heap.size + 1, k, none⟩ (.bool x))))
   have HC := Lib.hid fun W => rword_any k W hle
   have HV : Hid (nmF 119 k = Asc.isWord k) := Lib.hid (by unfold nmF; simp)
   obtain ⟨b, hb⟩ : ∃ b, Asc.isWord k = b := ⟨_, rfl⟩
   rw [hb] at HC HV
   have HX' := Lib.hid (HX.out b HV.out)
   clear HX hb
   cases b with
   | true =>
    go_wp2_with (go_at_call 48; refine (HC.out _).mono ?_; rintro e wx ⟨rfl, rfl⟩)
    refine ⟨⟨k + 1, by go_num, by omega, Lib.hid (HR.out.other k _ (by omega)), HX', Lib.hid (HBL.out.setCell (p := ⟨w.heap.size + 1, k, none⟩) (Nat.le_succ _) _)⟩, by simp [intOf]; omega⟩
   | false =>
    go_wp2_with (go_at_call 48; refine (HC.out _).mono ?_; rintro e wx ⟨rfl, rfl⟩)
    refine ⟨⟨k + 1, by go_num, by omega, Lib.hid (HR.out.other k _ (by omega)), HX', Lib.hid (HBL.out.setCell (p := ⟨w.heap.size + 1, k, none⟩) (Nat.le_succ _) _)⟩, by simp [intOf]; omega⟩
  ·have zz : decide ((k : Int) < 256) = false := decide_eq_false (by omega)
   have yy : decide (k < 256) = false := decide_eq_false hle
   obtain rfl : k = 256 := by omega
   have hs := HS.out.eq (mixF_all (nmF 119) (fun _ => false))
   obtain ⟨w4, e4, h4, hb4, e4'⟩ := put_set2 HR.out (nmF 119)
   have HB4 := Lib.hid (HBL.out.trans hb4)
   clear hb4 HS
   go_wp2_with (refine wpl_load_setQ rfl _ rfl (w.heap.size + 1) rfl _ hs ?_)
   exact ret_ct rfl (by rfl) (by rfl) (lv_st h4) ⟨rfl, HB4.out⟩
set_option maxHeartbeats 8000000 in
set_option maxRecDepth 1000000 in
theorem rnamed_s (w : World) : Calls Tryz.prog 154 #[.int .u8 115] w fun e w' => e = .returned (.tuple #[.agg (setA (nmF 115)), .bool true]) ∧ Below w.heap.size w w' := by
 have hv := (zero_of_info infoQ).1
 go_enter Tryz.func154, Tryz.ntmps154
 go_wp2
 rw [← setA_false]
 have H0 : Hid (SbQ w.heap.size (fun _ => false) ((w.alloc (.cells (setA (fun _ => false)) 167)).alloc (.cells (setA (fun _ => false)) 167))) := Lib.hid ((SbQ.new w _).on (al_below _ _) (by simp))
 have H1 : Hid (SbQ (w.heap.size + 1) (mixF (nmF 115) (fun _ => false) 0) ((w.alloc (.cells (setA (fun _ => false)) 167)).alloc (.cells (setA (fun _ => false)) 167))) := Lib.hid (by have := SbQ.new (w.alloc (.cells (setA (fun _ => false)) 167)) (fun _ => false); rw [show (w.alloc (.cells (setA (fun _ => false)) 167)).heap.size = w.heap.size + 1 by simp] at this; exact this.eq (mixF_none _ _).symm)
 have HB : Hid (Below w.heap.size w ((w.alloc (.cells (setA (fun _ => false)) 167)).alloc (.cells (setA (fun _ => false)) 167))) := Lib.hid ((al_below w _).trans ((al_below _ _).mono (by simp)))
 go_loopw [5] (fun i wr => ∃ (k : Nat), i = .int .i64 k ∧ k ≤ 256 ∧ Hid (SbQ w.heap.size (fun _ => false) wr) ∧ Hid (SbQ (w.heap.size + 1) (mixF (nmF 115) (fun _ => false) k) wr) ∧ Hid (Below w.heap.size w wr)) (fun i _ => 256 - (intOf i).toNat)
 case atStart => exact ⟨0, rfl, by omega, H0, H1, HB⟩
 case round =>
  obtain ⟨k, rfl, hk, HR, HS, HBL⟩ := hrel
  clear H0 H1 HB
  by_cases hle : k < 256
  ·have zz : decide ((k : Int) < 256) = true := decide_eq_true (by omega)
   have yy : decide (k < 256) = true := decide_eq_true hle
   have i1 : (k : Int) < 256 := by omega
   have i2 : (0 : Int) ≤ (k : Int) := by omega
   have hw1 : IntKind.i64.wrap ((k : Int) + 1) = (k : Int) + 1 := IntWalk.i64_in _ (by omega)
   have hw2 : IntKind.u8.wrap (k : Int) = (k : Int) := IntWalk.u8_in _ (by omega)
   obtain ⟨u, hc⟩ : ∃ u, wr.cell? ⟨w.heap.size + 1, k, none⟩ = some (.bool u) := ⟨_, HS.out.cell hle⟩
   have hf := HS.out.fz k
   have HX := Lib.hid (fun (x : Bool) (hx : nmF 115 k = x) => ((HS.out.set k x).eq (by rw [← hx]; exact mixF_succ (nmF 115) (fun _ => false) k) : SbQ (w.heap.size + 1) (mixF (nmF 115) (fun _ => false) (k + 1)) (wr.setCell ⟨w.heap.size + 1, k, none⟩ (.bool x))))
   have HC := Lib.hid fun W => rspace_any k W hle
   have HV : Hid (nmF 115 k = Asc.isSpace k) := Lib.hid (by unfold nmF; simp)
   obtain ⟨b, hb⟩ : ∃ b, Asc.isSpace k = b := ⟨_, rfl⟩
   rw [hb] at HC HV
   have HX' := Lib.hid (HX.out b HV.out)
   clear HX hb
   cases b with
   | true =>
    go_wp2_with (go_at_call 66; refine (HC.out _).mono ?_; rintro e wx ⟨rfl, rfl⟩)
    refine ⟨⟨k + 1, by go_num, by omega, Lib.hid (HR.out.other k _ (by omega)), HX', Lib.hid (HBL.out.setCell (p := ⟨w.heap.size + 1, k, none⟩) (Nat.le_succ _) _)⟩, by simp [intOf]; omega⟩
   | false =>
    go_wp2_with (go_at_call 66; refine (HC.out _).mono ?_; rintro e wx ⟨rfl, rfl⟩)
    refine ⟨⟨k + 1, by go_num, by omega, Lib.hid (HR.out.other k _ (by omega)), HX', Lib.hid (HBL.out.setCell (p := ⟨w.heap.size + 1, k, none⟩) (Nat.le_succ _) _)⟩, by simp [intOf]; omega⟩
  ·have zz : decide ((k : Int) < 256) = false := decide_eq_false (by omega)
   have yy : decide (k < 256) = false := decide_eq_false hle
   obtain rfl : k = 256 := by omega
   have hs := HS.out.eq (mixF_all (nmF 115) (fun _ => false))
   obtain ⟨w4, e4, h4, hb4, e4'⟩ := put_set2 HR.out (nmF 115)
   have HB4 := Lib.hid (HBL.out.trans hb4)
   clear hb4 HS
   go_wp2_with (refine wpl_load_setQ rfl _ rfl (w.heap.size + 1) rfl _ hs ?_)
   exact ret_ct rfl (by rfl) (by rfl) (lv_st h4) ⟨rfl, HB4.out⟩
set_option maxHeartbeats 8000000 in
set_option maxRecDepth 1000000 in
theorem rnamed_o (c : Nat) (h1 : c ≠ 100) (h2 : c ≠ 119) (h3 : c ≠ 115) (w : World) : Calls Tryz.prog 154 #[.int .u8 (c : Int)] w fun e w' => e = .returned (.tuple #[.agg (setA (nmF c)), .bool false]) ∧ Below w.heap.size w w' := by
 have hv := (zero_of_info infoQ).1
 have z1 : ((c : Int) == 100) = false := by rw [beq_eq_false_iff_ne]; omega
 have z2 : ((c : Int) == 119) = false := by rw [beq_eq_false_iff_ne]; omega
 have z3 : ((c : Int) == 115) = false := by rw [beq_eq_false_iff_ne]; omega
 have HNO : Hid (∀ k, nmF c k = false) := Lib.hid (fun k => by unfold nmF; rw [decide_eq_false h1, decide_eq_false h2, decide_eq_false h3]; rfl)
 clear h1 h2 h3
 go_enter Tryz.func154, Tryz.ntmps154
 go_wp2
 rw [← setA_false]
 have H0 : Hid (SbQ w.heap.size (fun _ => false) ((w.alloc (.cells (setA (fun _ => false)) 167)).alloc (.cells (setA (fun _ => false)) 167))) := Lib.hid ((SbQ.new w _).on (al_below _ _) (by simp))
 have H1 : Hid (SbQ (w.heap.size + 1) (mixF (nmF c) (fun _ => false) 0) ((w.alloc (.cells (setA (fun _ => false)) 167)).alloc (.cells (setA (fun _ => false)) 167))) := Lib.hid (by have := SbQ.new (w.alloc (.cells (setA (fun _ => false)) 167)) (fun _ => false); rw [show (w.alloc (.cells (setA (fun _ => false)) 167)).heap.size = w.heap.size + 1 by simp] at this; exact this.eq (mixF_none _ _).symm)
 have HB : Hid (Below w.heap.size w ((w.alloc (.cells (setA (fun _ => false)) 167)).alloc (.cells (setA (fun _ => false)) 167))) := Lib.hid ((al_below w _).trans ((al_below _ _).mono (by simp)))
 go_loopw [5] (fun i wr => ∃ (k : Nat), i = .int .i64 k ∧ k ≤ 256 ∧ Hid (SbQ w.heap.size (fun _ => false) wr) ∧ Hid (SbQ (w.heap.size + 1) (mixF (nmF c) (fun _ => false) k) wr) ∧ Hid (Below w.heap.size w wr)) (fun i _ => 256 - (intOf i).toNat)
 case atStart => exact ⟨0, rfl, by omega, H0, H1, HB⟩
 case round =>
  obtain ⟨k, rfl, hk, HR, HS, HBL⟩ := hrel
  clear H0 H1 HB
  by_cases hle : k < 256
  ·have zz : decide ((k : Int) < 256) = true := decide_eq_true (by omega)
   have yy : decide (k < 256) = true := decide_eq_true hle
   have i1 : (k : Int) < 256 := by omega
   have i2 : (0 : Int) ≤ (k : Int) := by omega
   have hw1 : IntKind.i64.wrap ((k : Int) + 1) = (k : Int) + 1 := IntWalk.i64_in _ (by omega)
   have hw2 : IntKind.u8.wrap (k : Int) = (k : Int) := IntWalk.u8_in _ (by omega)
   obtain ⟨u, hc⟩ : ∃ u, wr.cell? ⟨w.heap.size + 1, k, none⟩ = some (.bool u) := ⟨_, HS.out.cell hle⟩
   have hf := HS.out.fz k
   have HX := Lib.hid (fun (x : Bool) (hx : nmF c k = x) => ((HS.out.set k x).eq (by rw [← hx]; exact mixF_succ (nmF c) (fun _ => false) k) : SbQ (w.heap.size + 1) (mixF (nmF c) (fun _ => false) (k + 1)) (wr.setCell ⟨w.heap.size + 1, k, none⟩ (.bool x))))
   have HX' := Lib.hid (HX.out false (HNO.out k))
   clear HX
   go_wp2_with fail
   refine ⟨⟨k + 1, by go_num, by omega, Lib.hid (HR.out.other k _ (by omega)), HX', Lib.hid (HBL.out.setCell (p := ⟨w.heap.size + 1, k, none⟩) (Nat.le_succ _) _)⟩, by simp [intOf]; omega⟩
  ·have zz : decide ((k : Int) < 256) = false := decide_eq_false (by omega)
   have yy : decide (k < 256) = false := decide_eq_false hle
   obtain rfl : k = 256 := by omega
   have hs := HS.out.eq (mixF_all (nmF c) (fun _ => false))
   obtain ⟨w4, e4, h4, hb4, e4'⟩ := put_set2 HR.out (nmF c)
   have HB4 := Lib.hid (HBL.out.trans hb4)
   clear hb4 HS
   go_wp2_with (refine wpl_load_setQ rfl _ rfl (w.heap.size + 1) rfl _ hs ?_)
   exact ret_ct rfl (by rfl) (by rfl) (lv_st h4) ⟨rfl, HB4.out⟩
theorem rnamed_any (c : Nat) (w : World) : Calls Tryz.prog 154 #[.int .u8 (c : Int)] w fun e w' => e = .returned (.tuple #[.agg (setA (nmF c)), .bool (nmG c)]) ∧ Below w.heap.size w w' := by
 by_cases h1 : c = 100
 ·subst h1
  exact rnamed_d w
 by_cases h2 : c = 119
 ·subst h2
  exact rnamed_w w
 by_cases h3 : c = 115
 ·subst h3
  exact rnamed_s w
 have e : nmG c = false := by unfold nmG; rw [decide_eq_false h1, decide_eq_false h2, decide_eq_false h3]; rfl
 rw [e]
 exact rnamed_o c h1 h2 h3 w
set_option maxHeartbeats 8000000 in
set_option maxRecDepth 1000000 in
theorem rclass_any (f : Nat → Bool) (w : World) : Calls Tryz.prog 137 #[.agg (setA f)] w (NW (clsT f) w) := by
 unfold clsT
 go_enter Tryz.func137, Tryz.ntmps137
 go_wp2_with (refine wpl_load_setQ rfl _ rfl w.heap.size rfl f (heap_alloc2_old w _ _) ?_)
 refine (rranges_any f _).mono ?_
 rintro e w2 ⟨v, rfl, hor, hb⟩
 have HB : Hid (BK (w.heap.size + 1) 6 (nE 0 none 0 0 [] none 0 0 0 0) w2) := Lib.hid ((by simpa using nE_new (w.alloc (.cells (setA f) 167)) 0 none 0 0 [] none 0 0 0 0 : BK (w.heap.size + 1) 6 (nE 0 none 0 0 [] none 0 0 0 0) _).on hb (by simp))
 have HW : Hid (Below w.heap.size w w2) := Lib.hid ((((Below.refl _ w).alloc (Nat.le_refl _) _).alloc (by simp) _).trans (hb.mono (by simp; omega)))
 have hrw := hor.rw (F := fun k => w.heap.size + 2 ≤ k) (fun b hb => by simpa using hb)
 clear hor hb
 obtain ⟨a, c, rfl, hrest⟩ := hrw
 have HR : Hid (RW (fun k => w.heap.size + 2 ≤ k) 2 RgR w2 (rngs f 0) (.slice a (rngs f 0).length c)) := Lib.hid ⟨a, c, rfl, hrest⟩
 clear hrest
 obtain ⟨k0, k1, k2, k3, k4, k5, f0, f1, f2, f3, f4, f5⟩ := bk6 HB.out
 go_wp2_with fail
 rw [nest6 w2]
 have hbl := setL_below (B := w.heap.size) (b := w.heap.size + 1) (Nat.le_succ _) [.int .i64 1, .slice a (rngs f 0).length c, .string ⟨#[]⟩, .slice none 0 0, .int .i64 0, .int .i64 0] w2 0
 refine item_ret (P := 2) rfl HB.out rfl (by rfl) ⟨_, rfl, ?_, HW.out.trans hbl⟩
 exact NG.node (kids := []) (HR.out.go ⟨hbl.size, fun k hk _ => ⟨by omega, setL_heap _ (by omega) _ _⟩⟩ (fun _ _ h => h)) RW.nil 1 [] 0 0 (by simp)
theorem setA_span (c : Nat) : setA (fun j => (fun _ => false) j || spanF c (c + 1) j) = setA (spanF c (c + 1)) := setA_congr fun i _ => by simp
set_option maxHeartbeats 8000000 in
set_option maxRecDepth 1000000 in
theorem rone_any (c : Nat) (hc : c < 256) (w : World) : Calls Tryz.prog 140 #[.int .i64 (c : Int)] w (NW (clsT (spanF c (c + 1))) w) := by
 have hv := (zero_of_info infoQ).1
 have HB0 := Lib.hid (al_below w (.cells #[.int .i64 0, .slice none 0 0, .string ⟨#[]⟩, .slice none 0 0, .int .i64 0, .int .i64 0] 38))
 have HK0 := Lib.hid (nE_new w 0 none 0 0 [] none 0 0 0 0)
 have HWI := Lib.hid (rwith_any (fun _ => false) c c hc hc (w.alloc (.cells #[.int .i64 0, .slice none 0 0, .string ⟨#[]⟩, .slice none 0 0, .int .i64 0, .int .i64 0] 38)))
 rw [setA_false, setA_span] at HWI
 go_enter Tryz.func140, Tryz.ntmps140
 go_wp2_with fail
 refine HWI.out.mono ?_
 rintro e w1 ⟨rfl, hb⟩
 have HB1 := Lib.hid (HB0.out.trans (hb.mono HB0.out.size))
 have HK1 := Lib.hid (HK0.out.on hb HK0.out.lt)
 clear hb HB0 HK0 HWI
 go_wp2_with fail
 refine (rclass_any _ w1).mono ?_
 rintro e w2 ⟨v, rfl, hT, hb⟩
 have HB2 := Lib.hid (HB1.out.trans (hb.mono HB1.out.size))
 have HK2 := Lib.hid (HK1.out.on hb HK1.out.lt)
 have HT2 := Lib.hid (NG.go (F' := (fun k => w.heap.size < k)) (w' := w2) ⟨Nat.le_refl _, fun k hk _ => ⟨Nat.lt_of_lt_of_le HK1.out.lt hk, rfl⟩⟩ _ _ hT)
 obtain ⟨op, rs, nm, kids, mn, mx, ra, rc, a, cc, ht, rfl, _⟩ := hT.open
 clear hb hT ht HB1 HK1
 obtain ⟨k0, k1, k2, k3, k4, k5, f0, f1, f2, f3, f4, f5⟩ := bk6 HK2.out
 go_wp2_with fail
 rw [nest6 w2]
 have hbl := setL_below (B := w.heap.size) (b := w.heap.size) (Nat.le_refl _) [.int .i64 op, .slice ra rs.length rc, .string ⟨nm.toArray⟩, .slice a kids.length cc, .int .i64 mn, .int .i64 mx] w2 0
 exact item_ret (P := 2) rfl HK2.out rfl (by rfl) ⟨_, rfl, NG.go ⟨hbl.size, fun j hj _ => ⟨Nat.le_of_lt hj, setL_heap _ (Nat.ne_of_gt hj) _ _⟩⟩ _ _ HT2.out, HB2.out.trans hbl⟩
end Go.Proofs.YtgcpinnnfoanjaaGreatDoor
namespace Go.Proofs.YtgcpinnnfoanjaaGreatDoor
open Go.RowKit
structure RI (w : World) (l : List UInt8) (i e bad : Nat) (W : World) : Prop where
 pb : RPb w.heap.size l i e bad W
 rb : ∃ a b c d, W.heap[w.heap.size + 1]? = some (.cells #[a, b, c, d] 111 (0, 0))
 bl : Below w.heap.size w W
section
variable {i e bad : Nat} {l : List UInt8} {w W W' : World}
theorem RI.start (w : World) (l : List UInt8) (i e bad : Nat) : RI w l i e bad ((w.alloc (.cells #[.string ⟨l.toArray⟩, .int .i64 (i : Int), .int .i64 (e : Int), .int .i64 (bad : Int)] 111)).alloc (.cells #[.string ⟨#[]⟩, .int .i64 0, .int .i64 0, .int .i64 0] 111)) :=
 ⟨(RPb.new w).on (al_below _ _) (by simp), ⟨_, _, _, _, two_new w _ _⟩, (al_below w _).trans ((al_below _ _).mono (by simp))⟩
theorem RI.sz (h : RI w l i e bad W) : w.heap.size + 1 < W.heap.size := by
 obtain ⟨a, b, c, d, h⟩ := h.rb
 exact (Array.getElem?_eq_some_iff.1 h).1
theorem RI.on (h : RI w l i e bad W) {B : Nat} (k : Below B W W') (hB : w.heap.size + 1 < B) : RI w l i e bad W' := by
 obtain ⟨a, b, c, d, hr⟩ := h.rb
 exact ⟨h.pb.on k (by omega), ⟨a, b, c, d, (k.block _ hB).trans hr⟩, h.bl.trans (k.mono (by omega))⟩
theorem RI.go (h : RI w l i e bad W) (k : Below W.heap.size W W') : RI w l i e bad W' := h.on k h.sz
theorem RI.to (h : RI w l i e bad W) (j : Nat) : RI w l j e bad (W.setCell ⟨w.heap.size, 1, none⟩ (.int .i64 (j : Int))) := by
 obtain ⟨a, b, c, d, hr⟩ := h.rb
 exact ⟨h.pb.to j, ⟨a, b, c, d, (heap_setCell_other W ⟨w.heap.size, 1, none⟩ (w.heap.size + 1) _ (by simp)).trans hr⟩, h.bl.setCell (p := ⟨w.heap.size, 1, none⟩) (Nat.le_refl _) _⟩
theorem RI.put (h : RI w l i e bad W) (i' e' bad' : Nat) : RI w l i' e' bad' ((((W.setCell ⟨w.heap.size, 0, none⟩ (.string ⟨l.toArray⟩)).setCell ⟨w.heap.size, 1, none⟩ (.int .i64 (i' : Int))).setCell ⟨w.heap.size, 2, none⟩ (.int .i64 (e' : Int))).setCell ⟨w.heap.size, 3, none⟩ (.int .i64 (bad' : Int))) := by
 obtain ⟨a, b, c, d, hr⟩ := h.rb
 refine ⟨st_four h.pb, ⟨a, b, c, d, ?_⟩, ?_⟩
 ·rw [heap_setCell_other _ _ _ _ (by simp), heap_setCell_other _ _ _ _ (by simp), heap_setCell_other _ _ _ _ (by simp), heap_setCell_other _ _ _ _ (by simp)]
  exact hr
 ·exact (((h.bl.setCell (p := ⟨w.heap.size, 0, none⟩) (Nat.le_refl _) _).setCell (p := ⟨w.heap.size, 1, none⟩) (Nat.le_refl _) _).setCell (p := ⟨w.heap.size, 2, none⟩) (Nat.le_refl _) _).setCell (p := ⟨w.heap.size, 3, none⟩) (Nat.le_refl _) _
def stR (w W : World) (x y z u : Value) : World := (((W.setCell ⟨w.heap.size + 1, 0, none⟩ x).setCell ⟨w.heap.size + 1, 1, none⟩ y).setCell ⟨w.heap.size + 1, 2, none⟩ z).setCell ⟨w.heap.size + 1, 3, none⟩ u
theorem RI.res (h : RI w l i e bad W) (x y z u : Value) : (stR w W x y z u).heap[w.heap.size + 1]? = some (.cells #[x, y, z, u] 111 (0, 0)) ∧ Below w.heap.size w (stR w W x y z u) ∧ (∀ k, k ≠ w.heap.size + 1 → (stR w W x y z u).heap[k]? = W.heap[k]?) ∧ (stR w W x y z u).heap.size = W.heap.size := by
 obtain ⟨a, b, c, d, hr⟩ := h.rb
 have hn : w.heap.size ≤ w.heap.size + 1 := Nat.le_succ _
 refine ⟨st_four hr, (((h.bl.setCell (p := ⟨w.heap.size + 1, 0, none⟩) hn _).setCell (p := ⟨w.heap.size + 1, 1, none⟩) hn _).setCell (p := ⟨w.heap.size + 1, 2, none⟩) hn _).setCell (p := ⟨w.heap.size + 1, 3, none⟩) hn _, fun k hk => ?_, ?_⟩
 ·unfold stR
  rw [heap_setCell_other _ _ _ _ (by simpa using hk), heap_setCell_other _ _ _ _ (by simpa using hk), heap_setCell_other _ _ _ _ (by simpa using hk), heap_setCell_other _ _ _ _ (by simpa using hk)]
 ·unfold stR
  simp
theorem RI.cs (h : RI w l i e bad W) : (W.cell? ⟨w.heap.size, 0, none⟩ = some (.string ⟨l.toArray⟩) ∧ W.cell? ⟨w.heap.size, 1, none⟩ = some (.int .i64 (i : Int)) ∧ W.cell? ⟨w.heap.size, 2, none⟩ = some (.int .i64 (e : Int)) ∧ W.cell? ⟨w.heap.size, 3, none⟩ = some (.int .i64 (bad : Int))) ∧
  (W.frozen? ⟨w.heap.size, 0, none⟩ = false ∧ W.frozen? ⟨w.heap.size, 1, none⟩ = false ∧ W.frozen? ⟨w.heap.size, 2, none⟩ = false ∧ W.frozen? ⟨w.heap.size, 3, none⟩ = false) := ⟨⟨h.pb.c0, h.pb.c1, h.pb.c2, h.pb.c3⟩, h.pb.fz 0, h.pb.fz 1, h.pb.fz 2, h.pb.fz 3⟩
theorem RI.rs (h : RI w l i e bad W) : (∃ a b c d, W.cell? ⟨w.heap.size + 1, 0, none⟩ = some a ∧ W.cell? ⟨w.heap.size + 1, 1, none⟩ = some b ∧ W.cell? ⟨w.heap.size + 1, 2, none⟩ = some c ∧ W.cell? ⟨w.heap.size + 1, 3, none⟩ = some d) ∧
  (W.frozen? ⟨w.heap.size + 1, 0, none⟩ = false ∧ W.frozen? ⟨w.heap.size + 1, 1, none⟩ = false ∧ W.frozen? ⟨w.heap.size + 1, 2, none⟩ = false ∧ W.frozen? ⟨w.heap.size + 1, 3, none⟩ = false) := by
 obtain ⟨a, b, c, d, hr⟩ := h.rb
 exact ⟨⟨a, b, c, d, Lib.cell_of_heap hr 0, Lib.cell_of_heap hr 1, Lib.cell_of_heap hr 2, Lib.cell_of_heap hr 3⟩, Lib.frozen_of_heap hr 0, Lib.frozen_of_heap hr 1, Lib.frozen_of_heap hr 2, Lib.frozen_of_heap hr 3⟩
theorem RI.set (h : RI w l i e bad W) {g : Nat → Bool} (hs : SbQ (w.heap.size + 1 + 1) g W) (x y z u : Value) (f : Nat → Bool) : ∃ W', (storeCells ⟨w.heap.size + 1 + 1, 0, none⟩ (setA f).toList).run Tryz.prog (stR w W x y z u) = .ok () W' ∧ W'.heap[w.heap.size + 1]? = some (.cells #[x, y, z, u] 111 (0, 0)) ∧ SbQ (w.heap.size + 1 + 1) f W' ∧ Below w.heap.size w W' := by
 obtain ⟨h1, h2, h3, h4⟩ := h.res x y z u
 obtain ⟨W', e, h5, h6, _⟩ := put_set2 (W := stR w W x y z u) (g := w.heap.size + 1 + 1) (t := 167) ((h3 _ (by omega)).trans hs) f
 exact ⟨W', e, (h6.block _ (by omega)).trans h1, h5, h2.trans (h6.mono (by omega))⟩
end
def RItP (l : List UInt8) (r : Out ((Nat → Bool) × Nat × Bool)) (w : World) (en : Ending) (w' : World) : Prop :=
 ∃ (j e bad : Nat) (n : Int) (f : Nat → Bool), en = .returned (.tuple #[.agg #[.string ⟨l.toArray⟩, .int .i64 (j : Int), .int .i64 (e : Int), .int .i64 (bad : Int)], .int .i64 n, .agg (setA f)]) ∧ Below w.heap.size w w' ∧
  (match r with
  | .ok ((s, c, one), j') => (j = j' ∧ e = 0 ∧ bad = 0) ∧ c < 256 ∧ (one = true → n = (c : Int) ∧ s = spanF c (c + 1)) ∧ (one = false → n = -1 ∧ f = s)
  | .error (k, x) => (e = x ∧ x ≠ 0 ∧ bad = k) ∧ j ≤ 2000)
theorem nmF_d : nmF 100 = Asc.isDigit := by funext i; unfold nmF; simp
theorem nmF_w : nmF 119 = Asc.isWord := by funext i; unfold nmF; simp
theorem nmF_s : nmF 115 = Asc.isSpace := by funext i; unfold nmF; simp
theorem escM_named {l : List UInt8} {i c : Nat} (hc : Asc.at_ l i = c) (h : nmG c = true) : escM l i = .ok ((nmF c, c, false), i + 1) := by
 unfold nmG at h
 simp only [Bool.or_eq_true, decide_eq_true_iff] at h
 unfold escM
 rw [hc]
 rcases h with (rfl | rfl) | rfl
 ·rw [if_pos rfl, nmF_d]
 ·rw [if_neg (by decide), if_pos rfl, nmF_w]
 ·rw [if_neg (by decide), if_neg (by decide), if_pos rfl, nmF_s]
theorem escM_single {l : List UInt8} {i c : Nat} (hc : Asc.at_ l i = c) (h : nmG c = false) (h2 : sgB c = true) : escM l i = .ok ((spanF (sgN c) (sgN c + 1), sgN c, true), i + 1) := by
 unfold nmG at h
 simp only [Bool.or_eq_false_iff, decide_eq_false_iff_not] at h
 obtain ⟨⟨a1, a2⟩, a3⟩ := h
 unfold escM
 rw [hc, if_neg a1, if_neg a2, if_neg a3]
 unfold sgB at h2
 by_cases b1 : c = 110
 ·subst b1
  rfl
 by_cases b2 : c = 116
 ·subst b2
  rfl
 rw [decide_eq_false b1, decide_eq_false b2] at h2
 have e : sgN c = c := by unfold sgN; rw [if_neg b1, if_neg b2]
 rw [if_neg b1, if_neg b2, if_pos (by simpa using h2), e]
theorem escM_bad {l : List UInt8} {i c : Nat} (hc : Asc.at_ l i = c) (h : nmG c = false) (h2 : sgB c = false) : escM l i = .error (i, 1) := by
 unfold nmG at h
 simp only [Bool.or_eq_false_iff, decide_eq_false_iff_not] at h
 obtain ⟨⟨a1, a2⟩, a3⟩ := h
 unfold sgB at h2
 simp only [Bool.or_eq_false_iff, decide_eq_false_iff_not] at h2
 obtain ⟨⟨b1, b2⟩, b3⟩ := h2
 unfold escM
 rw [hc, if_neg a1, if_neg a2, if_neg a3, if_neg b1, if_neg b2, if_neg (by rw [b3]; decide)]
theorem escM_end {l : List UInt8} {i : Nat} (hc : Asc.at_ l i = 999) : escM l i = .error (i, 1) := escM_bad hc (by decide) (by decide)
theorem sgN_lt {c : Nat} (h : c < 256) : sgN c < 256 := by unfold sgN; split; decide; split; decide; exact h
theorem rpeek0 (l : List UInt8) (i : Nat) (w : World) : Calls Tryz.prog 79 #[.agg #[.string ⟨l.toArray⟩, .int .i64 (i : Int), .int .i64 0, .int .i64 0]] w fun r w' => r = .returned (.int .u8 (pk l i : Int)) ∧ Below w.heap.size w w' := rpeek_any l i 0 0 w
theorem rfail0 (l : List UInt8) (i : Nat) (w : World) : Calls Tryz.prog 59 #[.agg #[.string ⟨l.toArray⟩, .int .i64 (i : Int), .int .i64 0, .int .i64 0], .int .i64 1, .int .i64 (i : Int)] w fun r w' => r = .returned (.agg #[.string ⟨l.toArray⟩, .int .i64 (i : Int), .int .i64 1, .int .i64 (i : Int)]) ∧ Below w.heap.size w w' := rfail_any l i 0 1 i w
theorem itemM_bad {l : List UInt8} {sg : Bool} {i : Nat} (h1 : Asc.at_ l i ≠ 92) (h2 : selfI (Asc.at_ l i) = false) : itemM l sg i = .error (i, 1) := by
 unfold itemM
 rw [if_neg h1, if_neg (by rw [h2]; decide)]
theorem itemM_self {l : List UInt8} {sg : Bool} {i c : Nat} (hc : Asc.at_ l i = c) (h1 : c ≠ 92) (h2 : selfI c = true) : itemM l sg i = .ok ((spanF c (c + 1), c, true), i + 1) := by
 unfold itemM
 rw [hc, if_neg h1, if_pos h2]
theorem itemM_esc {l : List UInt8} {i : Nat} (hc : Asc.at_ l i = 92) : itemM l false i = escM l (i + 1) := by
 unfold itemM
 rw [if_pos hc]
 rfl
end Go.Proofs.YtgcpinnnfoanjaaGreatDoor
namespace Go.Proofs.YtgcpinnnfoanjaaGreatDoor
open Go
section
variable {P : Program} {ops : Array Oper} {Q : Exit → Act → World → Prop}
def edgesBackB (ops : Array Oper) : Bool := (List.range ops.size).all fun i => ((ops[i]?).map (·.after.all fun e => !Region.binds .any e || decide (e.on < i))).getD true
theorem edges_backB (h : edgesBackB ops = true) {i : Nat} {o : Oper} (ho : ops[i]? = some o) (e : Edge) (he : e ∈ o.after) (hbd : Region.binds .any e = true) : e.on < i := by
 unfold edgesBackB at h
 have := List.all_eq_true.1 h i (List.mem_range.2 (Array.getElem?_eq_some_iff.1 ho).1)
 rw [ho] at this
 simp only [Option.map_some, Option.getD_some, Array.all_eq_true_iff_forall_mem] at this
 simpa [hbd] using this e he
theorem all_listedB (h : edgesBackB ops = true) {listed : Array Bool} (hr : Region.ready .any ops listed = []) (hs : listed.size = ops.size) : ∀ i, i < ops.size → listed.getD i true = true := by
 intro i
 induction i using Nat.strongRecOn with
 | ind i ih =>
  intro hi
  cases hl : listed.getD i true with
  | true => rfl
  | false =>
   have := ready_of (md := .any) (listed := listed) (Array.getElem?_eq_getElem hi) hl (fun e he hbd => by
    have hb := edges_backB h (Array.getElem?_eq_getElem hi) e he hbd
    rw [getD_two (by omega) false true]
    exact ih e.on hb (by omega))
   rw [hr] at this
   cases this
theorem wpAny_factsB (hb : edgesBackB ops = true) (Base : Act → World → Prop) (F : Nat → Act → World → Prop)
  (hstep : ∀ i o, ops[i]? = some o → ∀ (a : Act) (w : World) (D : Nat → Prop), Base a w → (∀ k, D k → k < ops.size ∧ F k a w) → ¬ D i → (∀ e ∈ o.after, Region.binds .any e = true → D e.on) → wpOp P ops Q i (fun a' w' => Base a' w' ∧ ∀ k, D k ∨ k = i → F k a' w') a w)
  (hend : ∀ a w, Base a w → (∀ k, k < ops.size → F k a w) → Q .normal a w) : ∀ (fuel : Nat) (listed : Array Bool) (a : Act) (w : World), unl listed ops.size ≤ fuel → listed.size = ops.size → Base a w → (∀ k, listed.getD k false = true → F k a w) → wpAny P .any ops Q fuel listed a w := by
 intro fuel
 induction fuel with
 | zero =>
  intro listed a w hf hs hB hF
  have hall := unl_zero listed ops.size (by omega)
  refine ⟨?_, hend a w hB fun k hk => hF k (by rw [getD_two (by omega) false true]; exact hall k hk)⟩
  cases hr : Region.ready .any ops listed with
  | nil => rfl
  | cons x xs =>
   have hx := ready_mem (i := x) (by rw [hr]; simp)
   have := hall x hx.1
   rw [hx.2.1] at this
   cases this
 | succ fuel ih =>
  intro listed a w hf hs hB hF
  refine ⟨fun hr => hend a w hB fun k hk => hF k ?_, fun i hi => ?_⟩
  ·rw [getD_two (by omega) false true]
   exact all_listedB hb hr hs k hk
  ·obtain ⟨h1, h2, h3⟩ := ready_mem hi
   have ho := Array.getElem?_eq_getElem h1
   have hD : ∀ k, listed.getD k false = true → k < ops.size ∧ F k a w := fun k hk => ⟨by
    rcases Nat.lt_or_ge k listed.size with c | c
    ·omega
    ·simp [Array.getD_eq_getD_getElem?, Array.getElem?_eq_none c] at hk, hF k hk⟩
   refine wpOp_mono (fun a' w' h => ?_) (hstep i _ ho a w (fun k => listed.getD k false = true) hB hD (fun hc => by rw [getD_two (getD_lt h2) false true, h2] at hc; cases hc) (h3 _ ho))
   refine ih _ a' w' (by have := unl_set listed i h2 ops.size h1; omega) (by simpa using hs) h.1 (fun k hk => h.2 k ?_)
   rw [getD_set] at hk
   by_cases e : i = k
   ·exact .inr e.symm
   ·rw [if_neg (fun c => e c.1)] at hk
    exact .inl hk
theorem wp_region_factsB (hm : P.follows .mixedOrders = true) (hb : edgesBackB ops = true) (Base : Act → World → Prop) (F : Nat → Act → World → Prop)
  (hstep : ∀ i o, ops[i]? = some o → ∀ (a : Act) (w : World) (D : Nat → Prop), Base a w → (∀ k, D k → k < ops.size ∧ F k a w) → ¬ D i → (∀ e ∈ o.after, Region.binds .any e = true → D e.on) → wpOp P ops Q i (fun a' w' => Base a' w' ∧ ∀ k, D k ∨ k = i → F k a' w') a w)
  (hend : ∀ a w, Base a w → (∀ k, k < ops.size → F k a w) → Q .normal a w) {id : Nat} {a : Act} {w : World} (h0 : Base a w.drew) : (Code.region id ops true).wp P Q a w :=
 wp_region_any hm (wpAny_factsB hb Base F hstep hend ops.size _ a _ (unl_le _ _) (by simp) h0 (fun k hk => by
  simp [Array.getD_eq_getD_getElem?, Array.getElem?_replicate] at hk
  split at hk <;> simp at hk))
theorem wp_region_slotsB (hm : P.follows .mixedOrders = true) (hb : edgesBackB ops = true) (hgd : (ops.all fun o => o.guard.isNone) = true) (N : Nat) (df : List Deferred) (fx : List (Nat × Value)) (ha : dstsApart ops (fx.map (·.1)) N = true)
  (Inv : World → Prop) (R : World → World → Prop) (G : Nat → Value → World → Prop) (hG : ∀ k v w w', R w w' → G k v w → G k v w')
  (hstep : ∀ i o, ops[i]? = some o → ∀ (a : Act) (w : World), SlotBase N df fx Inv a w → (∀ e ∈ o.after, Region.binds .any e = true → G e.on (slotOf ops a e.on) w) →
   ∀ K : Act → World → Prop, (∀ v w', R w w' → Inv w' → G i (match o.dst with | some _ => v | none => undef) w' → K (a.put o.dst v) w') → Oper.wp P o a w K Q)
  (hend : ∀ a w, SlotBase N df fx Inv a w → (∀ k, k < ops.size → G k (slotOf ops a k) w) → Q .normal a w) {id : Nat} {a : Act} {w : World} (h0 : SlotBase N df fx Inv a w.drew) : (Code.region id ops true).wp P Q a w := by
 refine wp_region_factsB hm hb (SlotBase N df fx Inv) (fun k a w => G k (slotOf ops a k) w) (fun i o ho a w D hB hF hnD hd => wpOp_step ho fun K' hK => ?_) hend h0
 have hi : i < ops.size := (Array.getElem?_eq_some_iff.1 ho).1
 have hg : o.guard = none := by
  have := (Array.all_eq_true_iff_forall_mem.1 hgd) o (Array.mem_of_getElem? ho)
  simpa using this
 rw [if_pos (by simp [Region.wanted, hg])]
 have hdi : dstOf ops i = o.dst := by simp [dstOf, ho]
 have hap := List.all_eq_true.1 ha i (List.mem_range.2 hi)
 rw [hdi] at hap
 refine hstep i o ho a w hB (fun e he hbd => (hF e.on (hd e he hbd)).2) K' (fun v w' hR hI hGi => hK _ _ ⟨⟨(put_size _ _).trans hB.size, (put_defers _ _).trans hB.defers, fun s u hs => ?_, hI⟩, fun k hk => ?_⟩)
 ·cases hd' : o.dst with
  | none => exact hB.fixed s u hs
  | some d =>
   rw [hd'] at hap
   simp only [Bool.and_eq_true, List.all_eq_true, decide_eq_true_eq] at hap
   rw [put_other v (hap.1.2 s (List.mem_map.2 ⟨(s, u), hs, rfl⟩))]
   exact hB.fixed s u hs
 ·by_cases e : k = i
  ·subst e
   have : slotOf ops (a.put o.dst v) k = (match o.dst with | some _ => v | none => undef) := by
    unfold slotOf
    rw [hdi]
    cases hd' : o.dst with
    | none => rfl
    | some d =>
     rw [hd'] at hap
     simp only [Bool.and_eq_true, List.all_eq_true, decide_eq_true_eq] at hap
     exact put_same v (by rw [hB.size]; exact hap.1.1)
   rw [this]
   exact hGi
  ·have hk' := hk.resolve_right e
   have hold := (hF k hk').2
   have hkl := (hF k hk').1
   have : slotOf ops (a.put o.dst v) k = slotOf ops a k := by
    unfold slotOf
    cases hk2 : dstOf ops k with
    | none => rfl
    | some s =>
     cases hd' : o.dst with
     | none => rfl
     | some d =>
      rw [hd'] at hap
      simp only [Bool.and_eq_true, List.all_eq_true, decide_eq_true_eq, Bool.or_eq_true, List.mem_range] at hap
      have h3 := (hap.2 k hkl).resolve_left e
      exact put_other v (fun h => h3 (by rw [hk2, h]))
   rw [this]
   exact hG k _ _ _ hR hold
end
end Go.Proofs.YtgcpinnnfoanjaaGreatDoor

/-
 Joined: EgH, PatU, PatP, Facts, PatR, PatQ, PatS, PatV, PatX, PatY.
-/
import Derived.Test.YtmpbjaodgajnfaaGreatDoorEhL
import Derived.Test.YtmpbjaodgajnfaaGreatDoorEhM
import Derived.BigRegion
import Derived.Test.YtmpbjaodgajnfaaGreatDoorEhA
import Derived.Deep.LoopGhost
import Derived.Deep.WholeRow
import Derived.Laws.ResultCell
import Derived.Shelf.Abstract
import Derived.Test.YtmpbjaodgajnfaaGreatDoorEhF
import Derived.Orders
import Derived.RegionTactic
import Derived.Laws.IdiomStrings
import Derived.Deep.RegionLaw
import Derived.BigQuiet
namespace Go.Proofs.YtmpbjaodgajnfaaGreatDoor
open Go.RowKit
set_option maxHeartbeats 4000000 in
set_option maxRecDepth 1000000 in
theorem less_any (a b : Ev) (w : World) : Calls Tryz.prog 47 #[.agg (evC a), .agg (evC b)] w fun en w' => (∃ r : Bool, en = .returned (.bool r)) ∧ Below w.heap.size w w' := by
 obtain ⟨W, hW⟩ : ∃ W, (w.alloc (.cells (evC a) 44)).alloc (.cells (evC b) 44) = W := ⟨_, rfl⟩
 have hb : Below w.heap.size w W := by rw [← hW]; exact ((Below.refl _ _).alloc (Nat.le_refl _) _).alloc (by rw [Deep.nblk_alloc]; omega) _
 have hx : W.heap[w.heap.size]? = some (.cells (evC a) 44 (0, 0)) := by rw [← hW]; exact (Deep.blk_alloc_lt _ _ _ (by rw [Deep.nblk_alloc]; omega)).trans (Deep.blk_alloc_new _ _)
 have hy : W.heap[w.heap.size + 1]? = some (.cells (evC b) 44 (0, 0)) := by
  rw [← hW]
  have := Deep.blk_alloc_new (w.alloc (.cells (evC a) 44)) (.cells (evC b) 44)
  rwa [Deep.nblk_alloc] at this
 have p0 : W.cell? ⟨w.heap.size, 0, none⟩ = some (.int .i64 a.host) := by rw [Lib.cell_of_heap hx]; rfl
 have p1 : W.cell? ⟨w.heap.size, 1, none⟩ = some (.int .i64 a.file) := by rw [Lib.cell_of_heap hx]; rfl
 have p2 : W.cell? ⟨w.heap.size, 2, none⟩ = some (.int .i64 a.lo) := by rw [Lib.cell_of_heap hx]; rfl
 have p5 : W.cell? ⟨w.heap.size, 5, none⟩ = some (.int .i64 a.time) := by rw [Lib.cell_of_heap hx]; rfl
 have q0 : W.cell? ⟨w.heap.size + 1, 0, none⟩ = some (.int .i64 b.host) := by rw [Lib.cell_of_heap hy]; rfl
 have q1 : W.cell? ⟨w.heap.size + 1, 1, none⟩ = some (.int .i64 b.file) := by rw [Lib.cell_of_heap hy]; rfl
 have q2 : W.cell? ⟨w.heap.size + 1, 2, none⟩ = some (.int .i64 b.lo) := by rw [Lib.cell_of_heap hy]; rfl
 have q5 : W.cell? ⟨w.heap.size + 1, 5, none⟩ = some (.int .i64 b.time) := by rw [Lib.cell_of_heap hy]; rfl
 have HB := Lib.hid hb
 clear hb hx hy
 generalize a.host = a0 at *
 generalize a.file = a1 at *
 generalize a.lo = a2 at *
 generalize a.time = a5 at *
 generalize b.host = b0 at *
 generalize b.file = b1 at *
 generalize b.lo = b2 at *
 generalize b.time = b5 at *
 by_cases h5 : a5 = b5
 ·have e5 : (a5 == b5) = true := by simpa using h5
  have e5' : (!a5 == b5) = false := by rw [e5]; rfl
  by_cases h0 : a0 = b0
  ·have e0 : (a0 == b0) = true := by simpa using h0
   by_cases h1 : a1 = b1
   ·have e1 : (a1 == b1) = true := by simpa using h1
    clear h5 h0 h1
    go_enter Tryz.func47, Tryz.ntmps47
    go_wp2_with fail
    go_ret
    exact ⟨⟨_, rfl⟩, HB.out⟩
   ·have e1 : (a1 == b1) = false := by simpa using h1
    clear h5 h0
    go_enter Tryz.func47, Tryz.ntmps47
    go_wp2_with fail
    go_ret
    exact ⟨⟨_, rfl⟩, HB.out⟩
  ·have e0 : (a0 == b0) = false := by simpa using h0
   clear h5
   go_enter Tryz.func47, Tryz.ntmps47
   go_wp2_with fail
   go_ret
   exact ⟨⟨_, rfl⟩, HB.out⟩
 ·have e5 : (a5 == b5) = false := by simpa using h5
  go_enter Tryz.func47, Tryz.ntmps47
  go_wp2_with fail
  go_ret
  exact ⟨⟨_, rfl⟩, HB.out⟩
end Go.Proofs.YtmpbjaodgajnfaaGreatDoor
namespace Go.Proofs.YtmpbjaodgajnfaaGreatDoor
open Go.RowKit
def setA (f : Nat → Bool) : Array Value := ((List.range 256).map fun i => Value.bool (f i)).toArray
theorem setA_size (f : Nat → Bool) : (setA f).size = 256 := by simp [setA]
theorem setA_at (f : Nat → Bool) {i : Nat} (h : i < 256) : (setA f)[i]? = some (.bool (f i)) := by simp [setA, h]
theorem setA_out (f : Nat → Bool) {i : Nat} (h : ¬ i < 256) : (setA f)[i]? = none := by rw [Array.getElem?_eq_none_iff, setA_size]; omega
theorem setA_congr {f g : Nat → Bool} (h : ∀ i, i < 256 → f i = g i) : setA f = setA g := by
 apply Array.ext_getElem?
 intro i
 by_cases hi : i < 256
 ·rw [setA_at f hi, setA_at g hi, h i hi]
 ·rw [setA_out f hi, setA_out g hi]
theorem setA_set (f : Nat → Bool) (i : Nat) (b : Bool) : (setA f).setIfInBounds i (.bool b) = setA (fun j => if j = i then b else f j) := by
 apply Array.ext_getElem?
 intro j
 rw [Array.getElem?_setIfInBounds, setA_size]
 by_cases hj : j < 256
 ·rw [setA_at (fun j => if j = i then b else f j) hj]
  by_cases e : i = j
  ·subst e
   simp [hj]
  ·rw [if_neg e, setA_at f hj, if_neg (fun h => e h.symm)]
 ·rw [setA_out (fun j => if j = i then b else f j) hj]
  by_cases e : i = j
  ·subst e
   simp [hj]
  ·rw [if_neg e, setA_out f hj]
theorem setA_one (f : Nat → Bool) : (setA f).all (·.oneCell') = true := by
 rw [Array.all_eq_true_iff_forall_mem]
 intro v hv
 simp only [setA, List.mem_toArray, List.mem_map] at hv
 obtain ⟨i, _, rfl⟩ := hv
 rfl
theorem setA_false : setA (fun _ => false) = Array.replicate 256 (.bool false) := by
 apply Array.ext_getElem?
 intro i
 by_cases hi : i < 256
 ·rw [setA_at _ hi, Array.getElem?_replicate, if_pos hi]
 ·rw [setA_out _ hi, Array.getElem?_replicate, if_neg hi]
theorem infoS : (Tryz.prog.info? 213).map (fun i => (i.zero, i.size)) = some (some (.agg (Array.replicate 256 (.bool false))), 256) := by kernel_rfl
theorem undS : Tryz.prog.underlying 213 = some (.array 256 4) := by kernel_rfl
theorem wp_load_set {o : Oper} {a : Act} {w : World} {K : Act → World → Prop} {Q : Exit → Act → World → Prop} (x : Operand) (ho : o.op = .load 213 x) (g : Nat) (hx : a.eval x = .pointer (some ⟨g, 0, none⟩)) (f : Nat → Bool) (t : TypeId) (hg : w.heap[g]? = some (.cells (setA f) t (0, 0)))
  (h : K (a.put o.dst (.agg (setA f))) w) : o.wp Tryz.prog a w K Q := wp_load_row _ x ho g hx t (setA f) (0, 0) _ hg undS rfl (by rw [setA_size]; exact (zero_of_info infoS).2) h
theorem put_set {W : World} {g : Nat} {f : Nat → Bool} {t : TypeId} (hg : W.heap[g]? = some (.cells (setA f) t (0, 0))) (f' : Nat → Bool) : (storeCells ⟨g, 0, none⟩ (setA f').toList).run Tryz.prog W = .ok () (W.setRow g (setA f')) := by
 have := run_storeCells_from (P := Tryz.prog) g t (setA f').toList 0 (setA f) W hg (by rw [Array.length_toList, setA_size, setA_size]) (fun v hv => Array.all_eq_true_iff_forall_mem.1 (setA_one f') v (by simpa using hv))
 simpa using this
theorem put_new (w : World) (f f' : Nat → Bool) (t : TypeId) : (storeCells ⟨w.heap.size, 0, none⟩ (setA f').toList).run Tryz.prog (w.alloc (.cells (setA f) t)) = .ok () (w.alloc (.cells (setA f') t)) := by
 rw [put_set (heap_alloc_new w _) f', World.setRow_alloc_new]
theorem ret_set {fn : Func} {p : Tmp} (hfn : fn.results = #[.cell p 213]) {w : World} {f : Nat → Bool} {g : Nat} {t : TypeId} (hg : w.heap[g]? = some (.cells (setA f) t (0, 0))) {tmps : Array Value} {df : _} (hdf : df = []) (hp : tmps.getD p undef = .pointer (some ⟨g, 0, none⟩)) {post : Ending → World → Prop} (h : post (.returned (.agg (setA f))) w) :
  bodyPost Tryz.prog fn post Exit.ret { tmps := tmps, defers := df } w := bodyPost_ret (results_cell_row hfn tmps w g t (setA f) (0, 0) _ hp hg undS rfl (by rw [setA_size]; exact (zero_of_info infoS).2)) hdf h
def spanF (lo k j : Nat) : Bool := decide (lo ≤ j) && decide (j < k)
theorem spanF_none (lo k : Nat) (h : k ≤ lo) : setA (spanF lo k) = setA (fun _ => false) := setA_congr fun i _ => by
 by_cases h2 : lo ≤ i
 ·simp [spanF]; omega
 ·simp [spanF, h2]
theorem spanF_succ (lo k : Nat) (h : lo ≤ k) : setA (fun j => if j = k then true else spanF lo k j) = setA (spanF lo (k + 1)) := setA_congr fun i _ => by
 unfold spanF
 by_cases e : i = k
 ·subst e
  simp [h]
 ·rw [if_neg e, show decide (i < k) = decide (i < k + 1) from decide_eq_decide.2 (by omega)]
set_option maxHeartbeats 4000000 in
set_option maxRecDepth 1000000 in
theorem span_any (lo hi : UInt8) (w : World) : Calls Tryz.prog 149 #[.int .u8 (lo.toNat : Int), .int .u8 (hi.toNat : Int)] w fun e w' => e = .returned (.agg (setA (spanF lo.toNat (hi.toNat + 1)))) ∧ Below w.heap.size w w' := by
 have hv := (zero_of_info infoS).1
 have hlo := UInt8.toNat_lt lo
 have hhi := UInt8.toNat_lt hi
 go_enter Tryz.func149, Tryz.ntmps149
 go_wp2
 rw [← setA_false]
 go_loopw [5] (fun i wr => ∃ (k : Nat), i = .int .i64 k ∧ lo.toNat ≤ k ∧ k ≤ 256 ∧ (lo.toNat ≤ hi.toNat → k ≤ hi.toNat + 1) ∧ (hi.toNat < lo.toNat → k = lo.toNat) ∧ wr = w.alloc (.cells (setA (spanF lo.toNat k)) 213)) (fun i _ => 256 - (intOf i).toNat)
 case atStart => exact ⟨lo.toNat, rfl, Nat.le_refl _, by omega, by omega, fun _ => rfl, by rw [spanF_none _ _ (Nat.le_refl _)]⟩
 case round =>
  obtain ⟨k, rfl, hk1, hk2, hk3, hk4, rfl⟩ := hrel
  by_cases hle : k ≤ hi.toNat
  ·have z1 : decide ((k : Int) ≤ (hi.toNat : Int)) = true := decide_eq_true (by omega)
   have y1 : decide (k ≤ hi.toNat) = true := decide_eq_true hle
   have i1 : (k : Int) < 256 := by omega
   have i2 : (0 : Int) ≤ (k : Int) := by omega
   have hw1 : IntKind.i64.wrap ((k : Int) + 1) = (k : Int) + 1 := IntWalk.i64_in _ (by omega)
   have hc : (w.alloc (.cells (setA (spanF lo.toNat k)) 213)).cell? ⟨w.heap.size, k, none⟩ = some (.bool (spanF lo.toNat k k)) := by
    rw [cell_of_row _ _ _ _ _ _ (heap_alloc_new w _)]
    exact setA_at _ (by omega)
   go_wp2_with fail
   refine ⟨⟨k + 1, by go_num, by omega, by omega, by omega, by omega, ?_⟩, by simp [intOf]; omega⟩
   rw [setA_set, spanF_succ _ _ hk1]
  ·have z1 : decide ((k : Int) ≤ (hi.toNat : Int)) = false := decide_eq_false (by omega)
   have y1 : decide (k ≤ hi.toNat) = false := decide_eq_false hle
   have hks : setA (spanF lo.toNat k) = setA (spanF lo.toNat (hi.toNat + 1)) := by
    rcases Nat.lt_or_ge hi.toNat lo.toNat with h | h
    ·rw [spanF_none _ _ (by omega), spanF_none _ _ (by omega)]
    ·rw [show k = hi.toNat + 1 by omega]
   rw [hks]
   have hpn := put_new w (spanF lo.toNat (hi.toNat + 1)) (spanF lo.toNat (hi.toNat + 1)) 213
   go_wp2_with fail
   refine wp_load_set _ rfl w.heap.size rfl _ _ (heap_alloc_new w _) ?_
   go_wp2_with fail
   exact ret_set rfl (heap_alloc_new w _) rfl rfl ⟨rfl, (Below.refl _ w).alloc (Nat.le_refl _) _⟩
def FitAt (w : World) (n : Nat) (p : Nat → Bool) : Prop := ∀ (c : Nat), c < 256 → ∀ W, Below w.heap.size w W → Calls Tryz.prog n #[.int .u8 c] W fun e W' => e = .returned (.bool (p c)) ∧ W = W'
def fitF (p : Nat → Bool) (k j : Nat) : Bool := decide (j < k) && p j
theorem fitF_none (p : Nat → Bool) : setA (fitF p 0) = setA (fun _ => false) := setA_congr fun i _ => by simp [fitF]
theorem fitF_all (p : Nat → Bool) : setA (fitF p 256) = setA p := setA_congr fun i h => by simp [fitF, h]
theorem fitF_succ (p : Nat → Bool) (k : Nat) : setA (fun j => if j = k then p k else fitF p k j) = setA (fitF p (k + 1)) := setA_congr fun i _ => by
 unfold fitF
 by_cases e : i = k
 ·subst e
  simp
 ·rw [if_neg e, show decide (i < k) = decide (i < k + 1) from decide_eq_decide.2 (by omega)]
set_option maxHeartbeats 4000000 in
set_option maxRecDepth 1000000 in
theorem where_any (n : Nat) (he : ∀ args w, (callFunc n args).run Tryz.prog w = .ok (.enter n args) w) (p : Nat → Bool) (w : World) (hf : FitAt w n p) : Calls Tryz.prog 169 #[.func (.func n) #[] #[]] w fun e w' => e = .returned (.agg (setA p)) ∧ Below w.heap.size w w' := by
 have hv := (zero_of_info infoS).1
 have HF := Lib.hid hf
 clear hf
 go_enter Tryz.func169, Tryz.ntmps169
 go_wp2
 rw [← setA_false, ← fitF_none p]
 go_loopw [4] (fun i wr => ∃ (k : Nat), i = .int .i64 k ∧ k ≤ 256 ∧ wr = w.alloc (.cells (setA (fitF p k)) 213)) (fun i _ => 256 - (intOf i).toNat)
 case atStart => exact ⟨0, rfl, by omega, rfl⟩
 case round =>
  obtain ⟨k, rfl, hk, rfl⟩ := hrel
  by_cases hle : k < 256
  ·have z1 : decide ((k : Int) < 256) = true := decide_eq_true (by omega)
   have y1 : decide (k < 256) = true := decide_eq_true hle
   have i1 : (k : Int) < 256 := by omega
   have i2 : (0 : Int) ≤ (k : Int) := by omega
   have hw1 : IntKind.i64.wrap ((k : Int) + 1) = (k : Int) + 1 := IntWalk.i64_in _ (by omega)
   have hw2 : IntKind.u8.wrap (k : Int) = (k : Int) := IntWalk.u8_in _ (by omega)
   have hc : (w.alloc (.cells (setA (fitF p k)) 213)).cell? ⟨w.heap.size, k, none⟩ = some (.bool (fitF p k k)) := by
    rw [cell_of_row _ _ _ _ _ _ (heap_alloc_new w _)]
    exact setA_at _ hle
   have HC := Lib.hid (HF.out k hle (w.alloc (.cells (setA (fitF p k)) 213)) ((Below.refl _ w).alloc (Nat.le_refl _) _))
   go_wp2_with (go_at_fn n; refine HC.out.mono ?_; rintro e w3 ⟨rfl, rfl⟩)
   refine ⟨⟨k + 1, by go_num, by omega, ?_⟩, by simp [intOf]; omega⟩
   rw [setA_set, fitF_succ]
  ·have z1 : decide ((k : Int) < 256) = false := decide_eq_false (by omega)
   have y1 : decide (k < 256) = false := decide_eq_false hle
   obtain rfl : k = 256 := by omega
   have hpn := put_new w p p 213
   rw [fitF_all]
   go_wp2_with fail
   refine wp_load_set _ rfl w.heap.size rfl _ _ (heap_alloc_new w _) ?_
   go_wp2_with fail
   exact ret_set rfl (heap_alloc_new w _) rfl rfl ⟨rfl, (Below.refl _ w).alloc (Nat.le_refl _) _⟩
theorem where_digit (w : World) (hk : Kinds w) : Calls Tryz.prog 169 #[.func (.func 170) #[] #[]] w fun e w' => e = .returned (.agg (setA Asc.isDigit)) ∧ Below w.heap.size w w' :=
 where_any _ (enters_of (P := Tryz.prog) (fn := Tryz.f170) (by kernel_rfl) (by kernel_rfl) rfl) _ w (fun c hc W hb => digit_any c W hc (hk.below hb))
end Go.Proofs.YtmpbjaodgajnfaaGreatDoor
namespace Go.Proofs.YtmpbjaodgajnfaaGreatDoor
open Go.RowKit
end Go.Proofs.YtmpbjaodgajnfaaGreatDoor
namespace Go.Proofs.YtmpbjaodgajnfaaGreatDoor
open Go
section
variable {P : Program} {ops : Array Oper} {Q : Exit → Act → World → Prop}
end
end Go.Proofs.YtmpbjaodgajnfaaGreatDoor
namespace Go.Proofs.YtmpbjaodgajnfaaGreatDoor
open Go.RowKit
def Blk (b0 : Nat) (W : World) (b : Nat) (o : Obj) : Prop := b0 < b ∧ b < W.heap.size ∧ W.heap[b]? = some o
def UP (b0 : Nat) (W W' : World) : Prop := W.heap.size ≤ W'.heap.size ∧ ∀ k, b0 < k → k < W.heap.size → W'.heap[k]? = W.heap[k]?
theorem UP.refl (b0 : Nat) (W : World) : UP b0 W W := ⟨Nat.le_refl _, fun _ _ _ => rfl⟩
theorem UP.al (b0 : Nat) (W : World) (o : Obj) : UP b0 W (W.alloc o) := ⟨by simp, fun k _ h => ((Below.refl _ W).alloc (Nat.le_refl _) o).block k h⟩
theorem UP.ap {g b0 : Nat} {W W' : World} (h : Apart g W W') (hg : g ≤ b0) : UP b0 W W' := ⟨h.1.size, fun k h1 h2 => h.block (by omega) h2⟩
theorem UP.stay {b0 : Nat} {W W' : World} (h : UP b0 W W') : Stay (fun k => b0 < k) (fun k => b0 < k) W W' := ⟨h.1, fun k hk hl => ⟨hk, h.2 k hk hl⟩⟩
theorem Blk.up {b0 b : Nat} {W W' : World} {o : Obj} (h : Blk b0 W b o) (hR : UP b0 W W') : Blk b0 W' b o := ⟨h.1, Nat.lt_of_lt_of_le h.2.1 hR.1, (hR.2 b h.1 h.2.1).trans h.2.2⟩
theorem Blk.new {b0 : Nat} {W : World} (h : b0 < W.heap.size) (o : Obj) : Blk b0 (W.alloc o) W.heap.size o := ⟨h, by simp, heap_alloc_new W o⟩
def Cres (b0 : Nat) (W : World) : Prop := ∃ (op : Int) (ra : Option Addr) (rn rc : Nat) (nm : List UInt8) (a : Option Addr) (n cp : Nat) (mn mx : Int) (t : NT), BK b0 6 (nE op ra rn rc nm a n cp mn mx) W ∧ NG (fun k => b0 < k) W t (.agg #[.int .i64 op, .slice ra rn rc, .string ⟨nm.toArray⟩, .slice a n cp, .int .i64 mn, .int .i64 mx]) ∧ Sm 1000 t
def CI (g : Nat) (w W : World) : Prop := GD g w W ∧ ∃ E, BK w.heap.size 6 E W
def CRr (w W W' : World) : Prop := UP w.heap.size W W' ∧ (Cres w.heap.size W → Cres w.heap.size W')
theorem Cres.up {b0 : Nat} {W W' : World} (h : Cres b0 W) (hu : UP b0 W W') (hb : W'.heap[b0]? = W.heap[b0]?) : Cres b0 W' := by
 obtain ⟨op, ra, rn, rc, nm, a, n, cp, mn, mx, t, h1, h2, h3⟩ := h
 exact ⟨op, ra, rn, rc, nm, a, n, cp, mn, mx, t, h1.keep hb hu.1, NG.go hu.stay _ _ h2, h3⟩
theorem CRr.refl (w W : World) : CRr w W W := ⟨UP.refl _ _, id⟩
theorem CI.lt {g : Nat} {w W : World} (h : CI g w W) : w.heap.size < W.heap.size := h.2.choose_spec.lt
theorem CRr.al {g : Nat} {w W : World} (h : CI g w W) (o : Obj) : CRr w W (W.alloc o) := ⟨UP.al _ _ _, fun c => c.up (UP.al _ _ _) (((Below.refl _ W).alloc (Nat.le_refl _) o).block _ h.lt)⟩
theorem CRr.ap {g : Nat} {w W W' : World} (h : CI g w W) (ha : Apart g W W') : CRr w W W' := ⟨UP.ap ha (Nat.le_of_lt h.1.hg), fun c => c.up (UP.ap ha (Nat.le_of_lt h.1.hg)) (ha.block (by have := h.1.hg; omega) h.lt)⟩
theorem CI.al {g : Nat} {w W : World} (h : CI g w W) (o : Obj) : CI g w (W.alloc o) := ⟨h.1.al o, h.2.choose, h.2.choose_spec.al o⟩
theorem CI.ap {g : Nat} {w W W' : World} (h : CI g w W) (ha : Apart g W W') (hc : CodesAt W' g) : CI g w W' := ⟨h.1.go ha hc, h.2.choose, h.2.choose_spec.go ha (by have := h.1.hg; omega)⟩
theorem bk_set6 {b : Nat} {E : Nat → Value} {W : World} (h : BK b 6 E W) (op : Int) (ra : Option Addr) (rn rc : Nat) (nm : List UInt8) (a : Option Addr) (n cp : Nat) (mn mx : Int) :
  BK b 6 (nE op ra rn rc nm a n cp mn mx) (setL W b [.int .i64 op, .slice ra rn rc, .string ⟨nm.toArray⟩, .slice a n cp, .int .i64 mn, .int .i64 mx] 0) :=
 ((((((h.set 0 (by omega) (.int .i64 op)).set 1 (by omega) (.slice ra rn rc)).set 2 (by omega) (.string ⟨nm.toArray⟩)).set 3 (by omega) (.slice a n cp)).set 4 (by omega) (.int .i64 mn)).set 5 (by omega) (.int .i64 mx)).cong fun i hi => by
  match i, hi with
  | 0, _ => rfl
  | 1, _ => rfl
  | 2, _ => rfl
  | 3, _ => rfl
  | 4, _ => rfl
  | 5, _ => rfl
def CG (g : Nat) (w : World) (d : Nat) (k : Nat) (v : Value) (W : World) : Prop :=
 match k with
 | 0 => v = .pointer (some ⟨g, 0, none⟩)
 | 1 => ∃ k : Nat, k < 26 ∧ v = .int .i64 k
 | 2 => ∃ k : Nat, k < 26 ∧ v = .int .i64 (97 + (k : Int))
 | 3 => ∃ x : UInt8, v = .int .u8 (x.toNat : Int)
 | 4 => v = .pointer (some ⟨g, 0, none⟩)
 | 5 => ∃ k : Nat, k < 26 ∧ v = .int .i64 k
 | 6 => ∃ k : Nat, k < 26 ∧ v = .int .i64 (97 + (k : Int))
 | 7 => ∃ x : UInt8, v = .int .u8 (x.toNat : Int)
 | 8 => ∃ (q : Nat) (x y : UInt8), v = .slice (some ⟨q, 0, none⟩) 2 2 ∧ Blk w.heap.size W q (.cells #[.int .u8 (x.toNat : Int), .int .u8 (y.toNat : Int)] 5)
 | 9 => ∃ y : List UInt8, y.length ≤ 1000 ∧ v = .string ⟨y.toArray⟩
 | 10 => v = .pointer (some ⟨g, 0, none⟩)
 | 11 => v = .int .i64 (d + 1 : Nat)
 | 12 => v = .int .i64 (d : Int)
 | 13 => ∃ t, NG (fun k => w.heap.size < k) W t v ∧ Sm 1000 t
 | 14 => ∃ (q : Nat) (t : NT), v = .slice (some ⟨q, 0, none⟩) 1 1 ∧ RW (fun k => w.heap.size < k) 6 (KR (fun k => w.heap.size < k) W) W [t] v ∧ Sm 1000 t
 | 15 => ∃ (y : List UInt8) (q : Nat) (t : NT), v = .agg #[.int .i64 5, .slice none 0 0, .string ⟨y.toArray⟩, .slice (some ⟨q, 0, none⟩) 1 1, .int .i64 0, .int .i64 0] ∧ NG (fun k => w.heap.size < k) W t v ∧ Sm 1000 t
 | 16 => Cres w.heap.size W
 | _ => True
theorem CG.keep (g : Nat) (w : World) (d : Nat) : ∀ k v W W', CRr w W W' → CG g w d k v W → CG g w d k v W' := by
 intro k v W W' hR h
 have hs := hR.1.stay
 unfold CG at *
 split at h
 ·exact h
 ·exact h
 ·exact h
 ·exact h
 ·exact h
 ·exact h
 ·exact h
 ·exact h
 ·obtain ⟨q, x, y, h1, h2⟩ := h
  exact ⟨q, x, y, h1, h2.up hR.1⟩
 ·exact h
 ·exact h
 ·exact h
 ·exact h
 ·obtain ⟨t, h, h9⟩ := h
  exact ⟨t, NG.go hs _ _ h, h9⟩
 ·obtain ⟨q, t, h1, h2, h9⟩ := h
  exact ⟨q, t, h1, h2.go hs (fun _ _ h => NG.go hs _ _ h), h9⟩
 ·obtain ⟨y, q, t, h1, h2, h9⟩ := h
  exact ⟨y, q, t, h1, NG.go hs _ _ h2, h9⟩
 ·exact hR.2 h
 ·trivial
def BG (g : Nat) (w : World) (b : Nat) (m : Nat) (k : Nat) (v : Value) (W : World) : Prop :=
 match k with
 | 0 => v = .pointer (some ⟨b, 4, none⟩)
 | 1 => v = .int .i64 (m : Int)
 | 2 => v = .pointer (some ⟨b, 4, none⟩)
 | 3 => v = .int .i64 (m : Int)
 | 4 => ∃ y : Int, v = .int .i64 y
 | 5 => v = .pointer (some ⟨b, 4, none⟩)
 | 6 => v = .int .i64 (m : Int)
 | 7 => ∃ y : Int, v = .int .i64 y
 | 8 => ∃ (q : Nat) (y0 y1 y2 y3 : Int), v = .slice (some ⟨q, 0, none⟩) 4 4 ∧ b < q ∧ Blk w.heap.size W q (.cells #[.int .i64 y0, .int .i64 y1, .int .i64 y2, .int .i64 y3] 3)
 | 9 => v = .pointer (some ⟨g, 0, none⟩)
 | 10 => ∃ k : Nat, k < 4 ∧ v = .int .i64 k
 | 11 => ∃ (q k : Nat) (y0 y1 y2 y3 : Int), k < 4 ∧ v = .pointer (some ⟨q, k, none⟩) ∧ b < q ∧ Blk w.heap.size W q (.cells #[.int .i64 y0, .int .i64 y1, .int .i64 y2, .int .i64 y3] 3)
 | 12 => ∃ y : Int, v = .int .i64 y
 | 13 => v = .pointer (some ⟨b, 5, none⟩)
 | _ => True
def BRr (w : World) (b : Nat) (W W' : World) : Prop := W.heap.size ≤ W'.heap.size ∧ ∀ k, w.heap.size < k → k ≠ b → k < W.heap.size → W'.heap[k]? = W.heap[k]?
theorem BG.keep (g : Nat) (w : World) (b m : Nat) : ∀ k v W W', BRr w b W W' → BG g w b m k v W → BG g w b m k v W' := by
 intro k v W W' hR h
 have hb : ∀ {q : Nat} {o : Obj}, b < q → Blk w.heap.size W q o → Blk w.heap.size W' q o := fun hq h => ⟨h.1, Nat.lt_of_lt_of_le h.2.1 hR.1, (hR.2 _ h.1 (by omega) h.2.1).trans h.2.2⟩
 unfold BG at *
 split at h
 ·exact h
 ·exact h
 ·exact h
 ·exact h
 ·exact h
 ·exact h
 ·exact h
 ·exact h
 ·obtain ⟨q, y0, y1, y2, y3, h1, h2, h3⟩ := h
  exact ⟨q, y0, y1, y2, y3, h1, h2, hb h2 h3⟩
 ·exact h
 ·exact h
 ·obtain ⟨q, k, y0, y1, y2, y3, h0, h1, h2, h3⟩ := h
  exact ⟨q, k, y0, y1, y2, y3, h0, h1, h2, hb h2 h3⟩
 ·exact h
 ·exact h
 ·trivial
def FB (w : World) (b : Nat) : Nat → Prop := fun k => w.heap.size < k ∧ k ≠ b
structure BI (g : Nat) (w : World) (b : Nat) (ka : Option Addr) (m : Nat) (t : NT) (W : World) : Prop where
 ns : NS g w W
 bk : ∃ x : Int, BK b 6 (nE 4 none 0 0 [] ka 1 1 (m : Int) x) W
 row : RW (FB w b) 6 (KR (FB w b) W) W [t] (.slice ka 1 1)
 hb : w.heap.size < b
section
variable {g b m : Nat} {w W W' : World} {ka : Option Addr} {t : NT}
theorem BI.al (h : BI g w b ka m t W) (o : Obj) : BI g w b ka m t (W.alloc o) :=
 ⟨h.ns.al o, ⟨h.bk.choose, h.bk.choose_spec.al o⟩, h.row.go ⟨by simp, fun k hk hl => ⟨hk, ((Below.refl _ W).alloc (Nat.le_refl _) o).block k hl⟩⟩ (fun _ _ h => NG.go ⟨by simp, fun k hk hl => ⟨hk, ((Below.refl _ W).alloc (Nat.le_refl _) o).block k hl⟩⟩ _ _ h), h.hb⟩
theorem BI.dr (h : BI g w b ka m t W) : BI g w b ka m t W.drew := by
 have hS : Stay (FB w b) (FB w b) W W.drew := ⟨Nat.le_refl _, fun k hk _ => ⟨hk, rfl⟩⟩
 exact ⟨h.ns.dr, ⟨h.bk.choose, h.bk.choose_spec.dr⟩, h.row.go hS (fun _ _ h => NG.go hS _ _ h), h.hb⟩
theorem BI.ap (h : BI g w b ka m t W) (ha : Apart g W W') (hc : CodesAt W' g) : BI g w b ka m t W' := by
 have hg := h.ns.gd.hg
 have hS : Stay (FB w b) (FB w b) W W' := ⟨ha.1.size, fun k hk hl => ⟨hk, ha.block (by have := hk.1; omega) hl⟩⟩
 exact ⟨h.ns.go ha hc, ⟨h.bk.choose, h.bk.choose_spec.go ha (by have := h.hb; omega)⟩, h.row.go hS (fun _ _ h => NG.go hS _ _ h), h.hb⟩
theorem BI.set (h : BI g w b ka m t W) (y : Int) : BI g w b ka m t (W.setCell ⟨b, 5, none⟩ (.int .i64 y)) := by
 have hS : Stay (FB w b) (FB w b) W (W.setCell ⟨b, 5, none⟩ (.int .i64 y)) := ⟨by simp, fun k hk _ => ⟨hk, Below.heap_setCell _ _ _ k (by have := hk.2; simpa using this)⟩⟩
 obtain ⟨x, hx⟩ := h.bk
 exact ⟨h.ns.set h.hb _ _, ⟨y, (hx.set 5 (by omega) (.int .i64 y)).cong fun i hi => by
  match i, hi with
  | 0, _ => rfl
  | 1, _ => rfl
  | 2, _ => rfl
  | 3, _ => rfl
  | 4, _ => rfl
  | 5, _ => rfl⟩, h.row.go hS (fun _ _ h => NG.go hS _ _ h), h.hb⟩
end
theorem BRr.refl (w : World) (b : Nat) (W : World) : BRr w b W W := ⟨Nat.le_refl _, fun _ _ _ _ => rfl⟩
theorem BRr.al (w : World) (b : Nat) (W : World) (o : Obj) : BRr w b W (W.alloc o) := ⟨by simp, fun k _ _ h => ((Below.refl _ W).alloc (Nat.le_refl _) o).block k h⟩
theorem BRr.ap {g : Nat} {w W W' : World} (b : Nat) (ha : Apart g W W') (hg : g < w.heap.size) : BRr w b W W' := ⟨ha.1.size, fun k h1 _ h2 => ha.block (by omega) h2⟩
theorem BRr.set (w : World) (b : Nat) (W : World) (v : Value) : BRr w b W (W.setCell ⟨b, 5, none⟩ v) := ⟨by simp, fun k _ h _ => Below.heap_setCell _ _ _ k (by simpa using h)⟩
end Go.Proofs.YtmpbjaodgajnfaaGreatDoor
namespace Go.Proofs.YtmpbjaodgajnfaaGreatDoor
open Go.RowKit
theorem infoN : (Tryz.prog.info? 33).map (fun i => (i.zero, i.size, i.bytes)) = some (some (.agg #[.int .i64 0, .slice none 0 0, .string ⟨#[]⟩, .slice none 0 0, .int .i64 0, .int .i64 0]), 6, 88) := by kernel_rfl
theorem node_one (op : Int) (ra : Option Addr) (rn rc : Nat) (nm : List UInt8) (a : Option Addr) (n c : Nat) (mn mx : Int) : ∀ u ∈ [Value.int .i64 op, .slice ra rn rc, .string ⟨nm.toArray⟩, .slice a n c, .int .i64 mn, .int .i64 mx], u.oneCell' = true := by
 intro u hu
 simp only [List.mem_cons, List.not_mem_nil, or_false] at hu
 rcases hu with rfl | rfl | rfl | rfl | rfl | rfl <;> rfl
end Go.Proofs.YtmpbjaodgajnfaaGreatDoor
namespace Go.Proofs.YtmpbjaodgajnfaaGreatDoor
open Go.RowKit
theorem infoR : (Tryz.prog.info? 187).map (fun i => (i.zero, i.size, i.bytes)) = some (some (.agg #[.int .u8 0, .int .u8 0]), 2, 2) := by kernel_rfl
def FO (F0 : Nat → Prop) (w : World) (k : Nat) : Prop := F0 k ∧ k < w.heap.size
structure SN (g : Nat) (w : World) (E : Nat → Value) (W : World) : Prop where
 gd : GD g w W
 bk : BK w.heap.size 6 E W
 rb : BK (w.heap.size + 1) 6 (nE 0 none 0 0 [] none 0 0 0 0) W
section
variable {g : Nat} {w W W' : World} {E : Nat → Value}
theorem SN.go (h : SN g w E W) (ha : Apart g W W') (hc : CodesAt W' g) : SN g w E W' := ⟨h.gd.go ha hc, h.bk.go ha (Nat.ne_of_gt h.gd.hg), h.rb.go ha (by have := h.gd.hg; omega)⟩
theorem SN.on (h : SN g w E W) (hb : Below (w.heap.size + 2) W W') : SN g w E W' := ⟨h.gd.on (hb.mono (by omega)), h.bk.on hb (by omega), h.rb.on hb (by omega)⟩
theorem SN.al (h : SN g w E W) (o : Obj) : SN g w E (W.alloc o) := ⟨h.gd.al o, h.bk.al o, h.rb.al o⟩
theorem SN.dr (h : SN g w E W) : SN g w E W.drew := ⟨h.gd.dr, h.bk.dr, h.rb.dr⟩
theorem SN.sz (h : SN g w E W) : w.heap.size + 2 ≤ W.heap.size := h.rb.lt
theorem SN.set (h : SN g w E W) (i : Nat) (hi : i < 6) (v : Value) {E' : Nat → Value} (he : ∀ j, j < 6 → Upd E i v j = E' j) : SN g w E' (W.setCell ⟨w.heap.size, i, none⟩ v) :=
 ⟨h.gd.set (Nat.le_refl _) i v, (h.bk.set i hi v).cong he, h.rb.other (by omega) i v⟩
theorem SN.far (h : SN g w E W) {b : Nat} (hb : w.heap.size + 2 ≤ b) (i : Nat) (v : Value) : SN g w E (W.setCell ⟨b, i, none⟩ v) := ⟨h.gd.set (by omega) i v, h.bk.other (by omega) i v, h.rb.other (by omega) i v⟩
theorem SN.setL (h : SN g w E W) (vs : List Value) (op : Int) (ra : Option Addr) (rn rc : Nat) (nm : List UInt8) (a : Option Addr) (n cp : Nat) (mn mx : Int) (hv : vs = [.int .i64 op, .slice ra rn rc, .string ⟨nm.toArray⟩, .slice a n cp, .int .i64 mn, .int .i64 mx]) : SN g w (nE op ra rn rc nm a n cp mn mx) (setL W w.heap.size vs 0) := by
 subst hv
 exact ⟨h.gd.on (setL_below (Nat.le_refl _) _ _ _), bk_set6 h.bk op ra rn rc nm a n cp mn mx, h.rb.keep (setL_heap _ (by omega) _ _) (by rw [setL_size]; exact Nat.le_refl _)⟩
end
theorem SN.start {g : Nat} {w : World} (hc : CodesAt w g) (op : Int) (ra : Option Addr) (rn rc : Nat) (nm : List UInt8) (a : Option Addr) (n cp : Nat) (mn mx : Int) :
  SN g w (nE op ra rn rc nm a n cp mn mx) ((w.alloc (.cells #[.int .i64 op, .slice ra rn rc, .string ⟨nm.toArray⟩, .slice a n cp, .int .i64 mn, .int .i64 mx] 33)).alloc (.cells #[.int .i64 0, .slice none 0 0, .string ⟨#[]⟩, .slice none 0 0, .int .i64 0, .int .i64 0] 33)) := by
 refine ⟨((GD.start hc).al _).al _, (nE_new w op ra rn rc nm a n cp mn mx).al _, ?_⟩
 have := nE_new (w.alloc (.cells #[.int .i64 op, .slice ra rn rc, .string ⟨nm.toArray⟩, .slice a n cp, .int .i64 mn, .int .i64 mx] 33)) 0 none 0 0 [] none 0 0 0 0
 simpa using this
theorem GD.old {g : Nat} {w W : World} {F0 : Nat → Prop} (h : GD g w W) (h0 : ∀ k, F0 k → k ≠ g) : Stay F0 (FO F0 w) w W := ⟨h.le, fun k hk hl => ⟨⟨hk, hl⟩, h.ap.block (h0 k hk) hl⟩⟩
end Go.Proofs.YtmpbjaodgajnfaaGreatDoor
namespace Go.Proofs.YtmpbjaodgajnfaaGreatDoor
open Go.RowKit
def runTo (f : Nat → Bool) (c : Nat) : Nat := if c + 1 < 256 ∧ f (c + 1) = true then runTo f (c + 1) else c
termination_by 256 - c
theorem runTo_ge (f : Nat → Bool) (c : Nat) : c ≤ runTo f c := by
 rw [runTo]
 split
 ·exact Nat.le_trans (Nat.le_succ c) (runTo_ge f (c + 1))
 ·exact Nat.le_refl _
termination_by 256 - c
def rngs (f : Nat → Bool) (c : Nat) : List (UInt8 × UInt8) :=
 if h : c < 256 then if f c = true then (UInt8.ofNat c, UInt8.ofNat (runTo f c)) :: rngs f (runTo f c + 1) else rngs f (c + 1) else []
termination_by 256 - c
decreasing_by
 ·have := runTo_ge f c
  omega
 ·omega
theorem rngs_off (f : Nat → Bool) (k : Nat) (h : k < 256) (hf : f k = false) : rngs f k = rngs f (k + 1) := by rw [rngs, dif_pos h, if_neg (by simp [hf])]
theorem rngs_on (f : Nat → Bool) (k : Nat) (h : k < 256) (hf : f k = true) : rngs f k = (UInt8.ofNat k, UInt8.ofNat (runTo f k)) :: rngs f (runTo f k + 1) := by rw [rngs, dif_pos h, if_pos hf]
theorem runTo_on (f : Nat → Bool) (m : Nat) (h : m + 1 < 256) (hf : f (m + 1) = true) : runTo f (m + 1) = runTo f m := by rw [runTo.eq_1 f m, if_pos ⟨h, hf⟩]
theorem runTo_off (f : Nat → Bool) (m : Nat) (h : m + 1 < 256 → f (m + 1) = false) : runTo f m = m := by
 rw [runTo, if_neg]
 rintro ⟨h1, h2⟩
 rw [h h1] at h2
 cases h2
theorem ofNat8 {k : Nat} (h : k < 256) : (UInt8.ofNat k).toNat = k := Asc.ofNat_toNat8 h
set_option maxHeartbeats 8000000 in
set_option maxRecDepth 1000000 in
theorem ranges_any (f : Nat → Bool) (w : World) : Calls Tryz.prog 168 #[.agg (setA f)] w fun e w' => ∃ v, e = .returned v ∧ OR w.heap.size 187 2 RgR w' (rngs f 0) v ∧ Below w.heap.size w w' := by
 go_enter Tryz.func168, Tryz.ntmps168
 go_wp2
 go_loopw [3, 4, 5] (fun l i fr wr => ∃ (k : Nat) (rs : List (UInt8 × UInt8)) (v : Value), v = l ∧ i = .int .i64 k ∧ k ≤ 256 ∧ Hid (rs ++ rngs f k = rngs f 0) ∧ rs.length ≤ k ∧ Hid (OR (w.heap.size + 1) 187 2 RgR wr rs v) ∧ Hid (wr.heap[w.heap.size]? = some (.cells (setA f) 213 (0, 0))) ∧ Hid (Below w.heap.size w wr)) (fun _ i _ _ => 256 - (intOf i).toNat)
 case atStart => exact ⟨0, [], _, rfl, rfl, by omega, Lib.hid rfl, by simp, Lib.hid OR.nil, Lib.hid (heap_alloc_new w _), Lib.hid ((Below.refl _ w).alloc (Nat.le_refl _) _)⟩
 case round =>
  obtain ⟨k, rs, v, rfl, rfl, hk, HR, hrl, HO, HB, HW⟩ := hrel
  by_cases hle : k < 256
  ·have z1 : decide ((k : Int) < 256) = true := decide_eq_true (by omega)
   have y1 : decide (k < 256) = true := decide_eq_true hle
   have i1 : (k : Int) < 256 := by omega
   have i2 : (0 : Int) ≤ (k : Int) := by omega
   have hw1 : IntKind.i64.wrap ((k : Int) + 1) = (k : Int) + 1 := IntWalk.i64_in _ (by omega)
   have hc : wr.cell? ⟨w.heap.size, k, none⟩ = some (.bool (f k)) := by
    rw [cell_of_row _ _ _ _ _ _ HB.out]
    exact setA_at f hle
   cases hf : f k with
   | false =>
    rw [hf] at hc
    go_wp2_with fail
    refine ⟨⟨k + 1, rs, v, rfl, by go_num, by omega, Lib.hid (by rw [← rngs_off f k hle hf]; exact HR.out), by omega, HO, HB, HW⟩, by simp [intOf]; omega⟩
   | true =>
    rw [hf] at hc
    go_wp2_with fail
    go_loopw [4] (fun i wx => ∃ m : Nat, i = .int .i64 m ∧ k ≤ m ∧ m < 256 ∧ Hid (runTo f m = runTo f k) ∧ wr = wx) (fun i _ => 256 - (intOf i).toNat)
    case atStart => exact ⟨k, rfl, Nat.le_refl _, hle, Lib.hid rfl, rfl⟩
    case round =>
     obtain ⟨m, rfl, hm1, hm2, HM, rfl⟩ := hrel
     have hw2 : IntKind.i64.wrap ((m : Int) + 1) = (m : Int) + 1 := IntWalk.i64_in _ (by omega)
     by_cases hgo : m + 1 < 256 ∧ f (m + 1) = true
     ·have x1 : decide ((m : Int) + 1 < 256) = true := decide_eq_true (by omega)
      have x2 : (m : Int) + 1 < 256 := by omega
      have x3 : (0 : Int) ≤ (m : Int) + 1 := by omega
      have x4 : ((m : Int) + 1).toNat = m + 1 := by omega
      have hc2 : wr.cell? ⟨w.heap.size, m + 1, none⟩ = some (.bool true) := by
       rw [cell_of_row _ _ _ _ _ _ HB.out, ← hgo.2]
       exact setA_at f hgo.1
      go_wp2_with fail
      refine ⟨⟨m + 1, by go_num, by omega, by omega, Lib.hid ((runTo_on f m hgo.1 hgo.2).trans HM.out), trivial⟩, by simp [intOf]; omega⟩
     ·have hmr : runTo f k = m := HM.out.symm.trans (runTo_off f m fun h => by cases h3 : f (m + 1) with | false => rfl | true => exact absurd ⟨h, h3⟩ hgo)
      have hmr2 := Lib.hid hmr
      have wx : IntKind.u8.wrap (k : Int) = (k : Int) := IntWalk.u8_in _ (by omega)
      have wy : IntKind.u8.wrap (m : Int) = (m : Int) := IntWalk.u8_in _ (by omega)
      obtain ⟨i0, hi, hz0, hz1, hz2⟩ := info_parts infoR
      obtain ⟨cs, hown, hpush⟩ := HO.out.cells
      have hBW : w.heap.size + 1 ≤ wr.heap.size := (Array.getElem?_eq_some_iff.1 HB.out).1
      have one2 : ∀ u ∈ [Value.int .u8 (k : Int), .int .u8 (m : Int)], u.oneCell' = true := by
       intro u hu
       simp only [List.mem_cons, List.not_mem_nil, or_false] at hu
       rcases hu with rfl | rfl <;> rfl
      clear hmr HM
      by_cases h1 : m + 1 < 256
      ·have x1 : decide ((m : Int) + 1 < 256) = true := decide_eq_true (by omega)
       have x2 : (m : Int) + 1 < 256 := by omega
       have x3 : (0 : Int) ≤ (m : Int) + 1 := by omega
       have x4 : ((m : Int) + 1).toNat = m + 1 := by omega
       have hc2 : wr.cell? ⟨w.heap.size, m + 1, none⟩ = some (.bool false) := by
        have hff : f (m + 1) = false := by cases h3 : f (m + 1) with | false => rfl | true => exact absurd ⟨h1, h3⟩ hgo
        rw [cell_of_row _ _ _ _ _ _ HB.out, ← hff]
        exact setA_at f h1
       clear hgo
       go_wp2_with (at_builtin; refine wpList_append_lies _ rfl _ _ 30 rfl (w.heap.size + 1) 187 i0 (.agg #[.int .u8 0, .int .u8 0]) 2 2 Tryz.underlying30 hi hz0 hz1 hz2 rfl (by decide) _ rs.length cs rfl (hown.alloc _) ⟨wr.heap.size, 0, none⟩ 1 1 [.int .u8 (k : Int), .int .u8 (m : Int)] rfl rfl (World.news_of_block (heap_alloc_new wr _)) one2 (by omega) (by unfold maxLen; omega) (by omega) (Nat.le_trans hBW (by simp)) _ rfl ?_; intro g6 cap6 w6 hown6 hgr6 hat6 hlt6; have HW6 := Lib.hid (push_below hgr6 hown hBW); have HO6 := Lib.hid (hpush RgR w6 (UInt8.ofNat k, UInt8.ofNat m) _ _ (fun _ _ h => h) rfl (by simp only [RgR]; rw [ofNat8 hle, ofNat8 hm2]) (by omega) hown6); clear hown6 hgr6 hat6 hlt6 hown hpush)
       refine ⟨⟨m + 1, rs ++ [(UInt8.ofNat k, UInt8.ofNat m)], _, rfl, by go_num, by omega, Lib.hid (by rw [List.append_assoc, List.singleton_append, ← HR.out, rngs_on f k hle hf, hmr2.out]), by simp; omega, HO6, Lib.hid ((HW6.out.block _ (Nat.lt_succ_self _)).trans HB.out), Lib.hid (HW.out.trans (HW6.out.mono (Nat.le_succ _)))⟩, by simp [intOf]; omega⟩
      ·have x1 : decide ((m : Int) + 1 < 256) = false := decide_eq_false (by omega)
       clear hgo
       go_wp2_with (at_builtin; refine wpList_append_lies _ rfl _ _ 30 rfl (w.heap.size + 1) 187 i0 (.agg #[.int .u8 0, .int .u8 0]) 2 2 Tryz.underlying30 hi hz0 hz1 hz2 rfl (by decide) _ rs.length cs rfl (hown.alloc _) ⟨wr.heap.size, 0, none⟩ 1 1 [.int .u8 (k : Int), .int .u8 (m : Int)] rfl rfl (World.news_of_block (heap_alloc_new wr _)) one2 (by omega) (by unfold maxLen; omega) (by omega) (Nat.le_trans hBW (by simp)) _ rfl ?_; intro g6 cap6 w6 hown6 hgr6 hat6 hlt6; have HW6 := Lib.hid (push_below hgr6 hown hBW); have HO6 := Lib.hid (hpush RgR w6 (UInt8.ofNat k, UInt8.ofNat m) _ _ (fun _ _ h => h) rfl (by simp only [RgR]; rw [ofNat8 hle, ofNat8 hm2]) (by omega) hown6); clear hown6 hgr6 hat6 hlt6 hown hpush)
       refine ⟨⟨m + 1, rs ++ [(UInt8.ofNat k, UInt8.ofNat m)], _, rfl, by go_num, by omega, Lib.hid (by rw [List.append_assoc, List.singleton_append, ← HR.out, rngs_on f k hle hf, hmr2.out]), by simp; omega, HO6, Lib.hid ((HW6.out.block _ (Nat.lt_succ_self _)).trans HB.out), Lib.hid (HW.out.trans (HW6.out.mono (Nat.le_succ _)))⟩, by simp [intOf]; omega⟩
  ·have z1 : decide ((k : Int) < 256) = false := decide_eq_false (by omega)
   have y1 : decide (k < 256) = false := decide_eq_false hle
   go_wp2_with fail
   go_ret
   have hr0 : rngs f k = [] := by rw [rngs, dif_neg hle]
   have := HR.out
   rw [hr0, List.append_nil] at this
   exact ⟨_, rfl, this ▸ (HO.out.own (fun _ _ => rfl) (fun _ _ h => h) _ (Nat.le_succ _)), HW.out⟩
end Go.Proofs.YtmpbjaodgajnfaaGreatDoor
namespace Go.Proofs.YtmpbjaodgajnfaaGreatDoor
open Go.RowKit
def NW (t : NT) (w : World) (e : Ending) (w' : World) : Prop := ∃ v, e = .returned v ∧ NG (fun k => w.heap.size ≤ k) w' t v ∧ Below w.heap.size w w'
theorem item_ret {fn : Func} {P : Tmp} (hfn : fn.results = #[.cell P 33]) {W : World} {b : Nat} {E : Nat → Value} (hS : BK b 6 E W) {tmps : Array Value} {df : _} (hdf : df = []) (hp : tmps.getD P undef = .pointer (some ⟨b, 0, none⟩)) {v0 v1 v2 v3 v4 v5 : Value} {post : Ending → World → Prop}
  (h : post (.returned (.agg #[v0, v1, v2, v3, v4, v5])) (setL W b [v0, v1, v2, v3, v4, v5] 0)) :
  bodyPost Tryz.prog fn post Exit.ret { tmps := tmps, defers := df } (setL W b [v0, v1, v2, v3, v4, v5] 0) := by
 have hc := setL_at (b := b) [v0, v1, v2, v3, v4, v5] W 0 (fun j _ hj => ⟨_, hS.ev j (by simpa using hj)⟩)
 exact bodyPost_ret (results_item (ty := 33) hfn tmps _ b [v0, v1, v2, v3, v4, v5] _ hp (fun j v hv => by have := hc j v hv; rwa [Nat.zero_add] at this) Tryz.underlying33 rfl (by kernel_rfl)) hdf h
set_option maxHeartbeats 8000000 in
set_option maxRecDepth 1000000 in
theorem class_any (f : Nat → Bool) (w : World) : Calls Tryz.prog 151 #[.agg (setA f)] w (NW (.node 1 (rngs f 0) [] [] 0 0) w) := by
 go_enter Tryz.func151, Tryz.ntmps151
 go_wp2
 refine wp_load_set _ rfl w.heap.size rfl f 213 (heap_alloc2_old w _ _) ?_
 go_wp2_with fail
 refine (ranges_any f _).mono ?_
 rintro e w2 ⟨v, rfl, hor, hb⟩
 have HB : Hid (BK (w.heap.size + 1) 6 (nE 0 none 0 0 [] none 0 0 0 0) w2) := Lib.hid ((by simpa using nE_new (w.alloc (.cells (setA f) 213)) 0 none 0 0 [] none 0 0 0 0 : BK (w.heap.size + 1) 6 (nE 0 none 0 0 [] none 0 0 0 0) _).on hb (by simp))
 have HW : Hid (Below w.heap.size w w2) := Lib.hid ((((Below.refl _ w).alloc (Nat.le_refl _) _).alloc (by simp) _).trans (hb.mono (by simp; omega)))
 have hrw := hor.rw (F := fun k => w.heap.size + 2 ≤ k) (fun b hb => by simpa using hb)
 clear hor hb
 obtain ⟨a, c, rfl, hrest⟩ := hrw
 have HR : Hid (RW (fun k => w.heap.size + 2 ≤ k) 2 RgR w2 (rngs f 0) (.slice a (rngs f 0).length c)) := Lib.hid ⟨a, c, rfl, hrest⟩
 clear hrest
 obtain ⟨k0, k1, k2, k3, k4, k5, f0, f1, f2, f3, f4, f5⟩ := bk6 HB.out
 go_wp2_with fail
 rw [nest6 w2]
 have hbl := setL_below (B := w.heap.size) (b := w.heap.size + 1) (Nat.le_succ _) [.int .i64 1, .slice a (rngs f 0).length c, .string ⟨#[]⟩, .slice none 0 0, .int .i64 0, .int .i64 0] w2 0
 refine item_ret (P := 2) rfl HB.out rfl (by rfl) ⟨_, rfl, ?_, HW.out.trans hbl⟩
 exact NG.node (kids := []) (HR.out.go ⟨hbl.size, fun k hk _ => ⟨by omega, setL_heap _ (by omega) _ _⟩⟩ (fun _ _ h => h)) RW.nil 1 [] 0 0 (by simp)
end Go.Proofs.YtmpbjaodgajnfaaGreatDoor
namespace Go.Proofs.YtmpbjaodgajnfaaGreatDoor
open Go.RowKit
def psE (l : List UInt8) (at_ e : Nat) (i : Nat) : Value := if i = 0 then .string ⟨l.toArray⟩ else if i = 1 then .int .i64 (at_ : Int) else .int .i64 (e : Int)
def PSt (b : Nat) (l : List UInt8) (at_ e : Nat) (W : World) : Prop := BK b 3 (psE l at_ e) W
structure PK (b : Nat) (l : List UInt8) (at_ e : Nat) (w w' : World) : Prop where
 ap : Apart b w w'
 st : PSt b l at_ e w'
theorem Apart.setCell {b : Nat} (w : World) (i : Nat) (v : Value) : Apart b w (w.setCell ⟨b, i, none⟩ v) := ⟨(Below.refl _ w).setCell (p := ⟨b, i, none⟩) (Nat.le_refl _) v, fun k h1 _ => Below.heap_setCell _ _ _ k (by intro e; simp only at e; omega)⟩
theorem psE_two (l : List UInt8) (at_ e x : Nat) : ∀ i, i < 3 → Upd (psE l at_ e) 2 (.int .i64 (x : Int)) i = psE l at_ x i := fun i hi => by
 match i, hi with
 | 0, _ => rfl
 | 1, _ => rfl
 | 2, _ => rfl
set_option maxHeartbeats 4000000 in
set_option maxRecDepth 1000000 in
theorem fail_any (b : Nat) (l : List UInt8) (at_ e : Nat) (x : Nat) (w : World) (h : PSt b l at_ e w) : Calls Tryz.prog 52 #[.pointer (some ⟨b, 0, none⟩), .int .i64 (x : Int)] w fun r w' => r = .returned (.tuple #[]) ∧ PK b l at_ (if e = 0 then x else e) w w' := by
 have hb := h.lt
 have c2 : w.cell? ⟨b, 2, none⟩ = some (.int .i64 (e : Int)) := h.ev 2 (by omega)
 have f2 := h.fz 2
 have H := Lib.hid h
 clear h
 go_enter Tryz.func52, Tryz.ntmps52
 by_cases he : e = 0
 ·subst he
  go_wp2_with fail
  go_end0
  exact ⟨rfl, Apart.setCell w 2 _, (H.out.set 2 (by omega) _).cong (psE_two l at_ 0 x)⟩
 ·have z1 : ((e : Int) == 0) = false := by rw [beq_eq_false_iff_ne]; omega
  rw [if_neg he]
  clear he
  go_wp2_with fail
  go_end0
  exact ⟨rfl, Apart.refl _ _, H.out⟩
theorem Kinds.ap {b : Nat} {w w' : World} (h : Kinds w) (hb : 1 < b) (ha : Apart b w w') : Kinds w' := ⟨Nat.lt_of_lt_of_le h.1 ha.1.size, fun c hc => (ha.cell (p := ⟨1, c, none⟩) (Nat.ne_of_lt hb) h.1).trans (h.2 c hc)⟩
theorem Kinds.on {B : Nat} {w w' : World} (h : Kinds w) (hb : 1 < B) (k : Below B w w') : Kinds w' := ⟨Nat.lt_of_lt_of_le h.1 k.size, fun c hc => (k.cell (p := ⟨1, c, none⟩) hb).trans (h.2 c hc)⟩
structure PS (b : Nat) (l : List UInt8) (at_ : Nat) (w : World) : Prop where
 st : PSt b l at_ 0 w
 le : at_ ≤ l.length
 len : l.length ≤ 1000
 kd : Kinds w
 kb : 1 < b
structure PQ (b : Nat) (l : List UInt8) (at_ : Nat) (w w' : World) : Prop where
 ap : Apart b w w'
 ps : PS b l at_ w'
theorem PS.drewN {b : Nat} {l : List UInt8} {at_ : Nat} {w : World} (h : PS b l at_ w) (n : Nat) : PQ b l at_ w (w.drewN n) := ⟨⟨⟨rfl, rfl, rfl, Nat.le_refl _, fun _ _ => rfl⟩, fun _ _ _ => rfl⟩, ⟨h.st.keep rfl (Nat.le_refl _), h.le, h.len, ⟨h.kd.1, h.kd.2⟩, h.kb⟩⟩
theorem PQ.refl {b : Nat} {l : List UInt8} {at_ : Nat} {w : World} (h : PS b l at_ w) : PQ b l at_ w w := ⟨Apart.refl _ _, h⟩
theorem PQ.trans {b : Nat} {l : List UInt8} {i j : Nat} {w w1 w2 : World} (h : PQ b l i w w1) (k : PQ b l j w1 w2) : PQ b l j w w2 := ⟨h.ap.trans k.ap, k.ps⟩
theorem PQ.on {b : Nat} {l : List UInt8} {i : Nat} {w w1 w2 : World} (h : PQ b l i w w1) (k : Below w1.heap.size w1 w2) : PQ b l i w w2 := ⟨h.ap.trans (Apart.of_below k h.ps.st.lt), ⟨h.ps.st.on k h.ps.st.lt, h.ps.le, h.ps.len, h.ps.kd.below k, h.ps.kb⟩⟩
theorem PS.on {b : Nat} {l : List UInt8} {i : Nat} {w w' : World} (h : PS b l i w) {B : Nat} (k : Below B w w') (hb : b < B) : PS b l i w' := ⟨h.st.on k hb, h.le, h.len, h.kd.on (Nat.lt_trans h.kb hb) k, h.kb⟩
theorem PQ.far {b : Nat} {l : List UInt8} {i : Nat} {w w1 w2 : World} (h : PQ b l i w w1) (k : Below w.heap.size w1 w2) (hb : b < w.heap.size) : PQ b l i w w2 := ⟨⟨h.ap.1.trans (k.mono (Nat.le_of_lt hb)), fun j h1 h2 => (k.block j h2).trans (h.ap.2 j h1 h2)⟩, h.ps.on k hb⟩
theorem psE_one (l : List UInt8) (at_ x : Nat) : ∀ i, i < 3 → Upd (psE l at_ 0) 1 (.int .i64 (x : Int)) i = psE l x 0 i := fun i hi => by
 match i, hi with
 | 0, _ => rfl
 | 1, _ => rfl
 | 2, _ => rfl
theorem PS.to {b : Nat} {l : List UInt8} {i : Nat} {w : World} (h : PS b l i w) (j : Nat) (hj : j ≤ l.length) : PQ b l j w (w.setCell ⟨b, 1, none⟩ (.int .i64 (j : Int))) := ⟨Apart.setCell w 1 _, ⟨(h.st.set 1 (by omega) _).cong (psE_one l i j), hj, h.len, h.kd.ap h.kb (Apart.setCell w 1 _), h.kb⟩⟩
theorem PS.c0 {b : Nat} {l : List UInt8} {i : Nat} {w : World} (h : PS b l i w) : w.cell? ⟨b, 0, none⟩ = some (.string ⟨l.toArray⟩) := h.st.ev 0 (by omega)
theorem PS.c1 {b : Nat} {l : List UInt8} {i : Nat} {w : World} (h : PS b l i w) : w.cell? ⟨b, 1, none⟩ = some (.int .i64 (i : Int)) := h.st.ev 1 (by omega)
theorem PS.c2 {b : Nat} {l : List UInt8} {i : Nat} {w : World} (h : PS b l i w) : w.cell? ⟨b, 2, none⟩ = some (.int .i64 0) := h.st.ev 2 (by omega)
set_option maxHeartbeats 4000000 in
set_option maxRecDepth 1000000 in
theorem pnext_ok (b : Nat) (l : List UInt8) (at_ : Nat) (w : World) (h : PS b l at_ w) (v : Nat) (hv : Asc.at_ l at_ = v) (hv2 : v < 256) : Calls Tryz.prog 101 #[.pointer (some ⟨b, 0, none⟩)] w fun r w' => r = .returned (.tuple #[.int .u8 (v : Int), .bool true]) ∧ PQ b l at_ w w' := by
 have hl : at_ < l.length := Asc.at_lt (by omega)
 have hb := h.st.lt
 have c0 := h.c0
 have c1 := h.c1
 have c2 := h.c2
 have H := Lib.hid h
 obtain ⟨c, ⟨_, hx⟩, hc, _⟩ := byte_at l at_ hl
 have e : c = v := by rw [← hc, ← hv, Asc.at_of hl]
 rw [e] at hx
 clear h e hc hv
 have z1 : decide ((l.length : Int) ≤ (at_ : Int)) = false := decide_eq_false (by omega)
 have y1 : decide (l.length ≤ at_) = false := decide_eq_false (by omega)
 have i1 : (at_ : Int) < (l.length : Int) := by omega
 have i2 : (0 : Int) ≤ (at_ : Int) := by omega
 go_enter Tryz.func101, Tryz.ntmps101
 go_wp2_with fail
 go_quiet (fail)
 go_wp2_with fail
 go_quiet (fail)
 go_wp2_with fail
 go_ret2
 exact ⟨rfl, (H.out.drewN _).trans ((H.out.drewN _).ps.drewN _)⟩
set_option maxHeartbeats 4000000 in
set_option maxRecDepth 1000000 in
theorem pnext_end (b : Nat) (l : List UInt8) (at_ : Nat) (w : World) (h : PS b l at_ w) (hl : l.length ≤ at_) : Calls Tryz.prog 101 #[.pointer (some ⟨b, 0, none⟩)] w fun r w' => r = .returned (.tuple #[.int .u8 0, .bool false]) ∧ PQ b l at_ w w' := by
 have hb := h.st.lt
 have c0 := h.c0
 have c1 := h.c1
 have c2 := h.c2
 have H := Lib.hid h
 clear h
 have z1 : decide ((l.length : Int) ≤ (at_ : Int)) = true := decide_eq_true (by omega)
 have y1 : decide (l.length ≤ at_) = true := decide_eq_true (by omega)
 go_enter Tryz.func101, Tryz.ntmps101
 go_wp2_with fail
 go_quiet (fail)
 go_wp2_with fail
 go_ret2
 exact ⟨rfl, H.out.drewN _⟩
end Go.Proofs.YtmpbjaodgajnfaaGreatDoor
namespace Go.Proofs.YtmpbjaodgajnfaaGreatDoor
open Go.RowKit
set_option maxHeartbeats 4000000 in
set_option maxRecDepth 1000000 in
theorem psees_yes (b : Nat) (l : List UInt8) (at_ : Nat) (w : World) (h : PS b l at_ w) (c : Nat) (hc : Asc.at_ l at_ = c) (hc2 : c < 256) : Calls Tryz.prog 103 #[.pointer (some ⟨b, 0, none⟩), .int .u8 (c : Int)] w fun r w' => r = .returned (.bool true) ∧ PQ b l at_ w w' := by
 have HN := Lib.hid (pnext_ok b l at_ w h c hc hc2)
 clear h hc
 go_enter Tryz.func103, Tryz.ntmps103
 go_wp2_with (go_at_call 101; refine HN.out.mono ?_; rintro e w1 ⟨rfl, hq⟩; have HQ := Lib.hid hq; clear hq)
 go_ret
 exact ⟨rfl, HQ.out⟩
set_option maxHeartbeats 4000000 in
set_option maxRecDepth 1000000 in
theorem psees_no (b : Nat) (l : List UInt8) (at_ : Nat) (w : World) (h : PS b l at_ w) (c : Nat) (hc : Asc.at_ l at_ ≠ c) : Calls Tryz.prog 103 #[.pointer (some ⟨b, 0, none⟩), .int .u8 (c : Int)] w fun r w' => r = .returned (.bool false) ∧ PQ b l at_ w w' := by
 by_cases hl : at_ < l.length
 ·obtain ⟨v, hv⟩ : ∃ v, Asc.at_ l at_ = v := ⟨_, rfl⟩
  have HN := Lib.hid (pnext_ok b l at_ w h v hv (by have := Asc.at_le hl; omega))
  have z1 : ((v : Int) == (c : Int)) = false := by rw [beq_eq_false_iff_ne]; omega
  clear h hc hv hl
  go_enter Tryz.func103, Tryz.ntmps103
  go_wp2_with (go_at_call 101; refine HN.out.mono ?_; rintro e w1 ⟨rfl, hq⟩; have HQ := Lib.hid hq; clear hq)
  go_ret
  exact ⟨rfl, HQ.out⟩
 ·have HN := Lib.hid (pnext_end b l at_ w h (by omega))
  clear h hc hl
  go_enter Tryz.func103, Tryz.ntmps103
  go_wp2_with (go_at_call 101; refine HN.out.mono ?_; rintro e w1 ⟨rfl, hq⟩; have HQ := Lib.hid hq; clear hq)
  go_ret
  exact ⟨rfl, HQ.out⟩
set_option maxHeartbeats 4000000 in
set_option maxRecDepth 1000000 in
theorem ptakes_yes (b : Nat) (l : List UInt8) (at_ : Nat) (w : World) (h : PS b l at_ w) (c : Nat) (hc : Asc.at_ l at_ = c) (hc2 : c < 256) : Calls Tryz.prog 74 #[.pointer (some ⟨b, 0, none⟩), .int .u8 (c : Int)] w fun r w' => r = .returned (.bool true) ∧ PQ b l (at_ + 1) w w' := by
 have HN := Lib.hid (psees_yes b l at_ w h c hc hc2)
 have hl : at_ < l.length := Asc.at_lt (by omega)
 have hl2 := h.len
 have hw : IntKind.i64.wrap ((at_ : Int) + 1) = (at_ : Int) + 1 := IntWalk.i64_in _ (by omega)
 have HL := Lib.hid hl
 clear h hc hl
 go_enter Tryz.func74, Tryz.ntmps74
 go_wp2_with (go_at_call 103; refine HN.out.mono ?_; rintro e w1 ⟨rfl, hq⟩; have HQ := Lib.hid hq; have c1 := hq.ps.c1; have f1 := hq.ps.st.fz 1; clear hq)
 go_ret
 exact ⟨rfl, HQ.out.trans (HQ.out.ps.to (at_ + 1) HL.out)⟩
set_option maxHeartbeats 4000000 in
set_option maxRecDepth 1000000 in
theorem pexpect_yes (b : Nat) (l : List UInt8) (at_ : Nat) (w : World) (h : PS b l at_ w) (c : Nat) (hc : Asc.at_ l at_ = c) (hc2 : c < 256) : Calls Tryz.prog 156 #[.pointer (some ⟨b, 0, none⟩), .int .u8 (c : Int)] w fun r w' => r = .returned (.tuple #[]) ∧ PQ b l (at_ + 1) w w' := by
 have HN := Lib.hid (ptakes_yes b l at_ w h c hc hc2)
 clear h hc
 go_enter Tryz.func156, Tryz.ntmps156
 go_wp2_with (go_at_call 74; refine HN.out.mono ?_; rintro e w1 ⟨rfl, hq⟩; have HQ := Lib.hid hq; clear hq)
 go_end0
 exact ⟨rfl, HQ.out⟩
def joinT (op : Int) (ts : List NT) : NT := match ts with
 | [] => .node 0 [] [] [] 0 0
 | [t] => t
 | t :: u :: r => .node op [] [] (t :: u :: r) 0 0
def NB (B : Nat) (t : NT) (w : World) (e : Ending) (w' : World) : Prop := ∃ v, e = .returned v ∧ NG (fun k => B ≤ k) w' t v ∧ Below w.heap.size w w'
theorem new_ret {fn : Func} {P : Tmp} (hfn : fn.results = #[.cell P 33]) {w : World} {v0 v1 v2 v3 v4 v5 : Value} {ty : TypeId} {tmps : Array Value} {df : _} (hdf : df = []) (hp : tmps.getD P undef = .pointer (some ⟨w.heap.size, 0, none⟩)) {post : Ending → World → Prop}
  (h : post (.returned (.agg #[v0, v1, v2, v3, v4, v5])) (w.alloc (.cells #[v0, v1, v2, v3, v4, v5] ty))) :
  bodyPost Tryz.prog fn post Exit.ret { tmps := tmps, defers := df } (w.alloc (.cells #[v0, v1, v2, v3, v4, v5] ty)) :=
 bodyPost_ret (results_cell_row hfn tmps _ w.heap.size ty #[v0, v1, v2, v3, v4, v5] (0, 0) _ hp (heap_alloc_new w _) Tryz.underlying33 rfl (by kernel_rfl)) hdf h
theorem al_below (w : World) (o : Obj) : Below w.heap.size w (w.alloc o) := (Below.refl _ w).alloc (Nat.le_refl _) o
theorem al_stay {B : Nat} (w : World) (o : Obj) : Stay (fun k => B ≤ k) (fun k => B ≤ k) w (w.alloc o) := ⟨(al_below w o).size, fun k hk hl => ⟨hk, (al_below w o).block k hl⟩⟩
set_option maxHeartbeats 8000000 in
set_option maxRecDepth 1000000 in
theorem join_any (op : Int) (ts : List NT) (v : Value) (w : World) (B : Nat) (h : RW (fun k => B ≤ k) 6 (KR (fun k => B ≤ k) w) w ts v) : Calls Tryz.prog 75 #[.int .i64 op, v] w (NB B (joinT op ts) w) := by
 have H := Lib.hid h
 obtain ⟨a, c, rfl, hm, hk⟩ := h
 have HK := Lib.hid hk
 clear hk
 match ts, H, HK, hm with
 | [], H, HK, hm =>
  clear hm
  go_enter Tryz.func75, Tryz.ntmps75
  go_wp2_with fail
  refine new_ret (P := 4) rfl rfl (by rfl) ⟨_, rfl, ?_, al_below w _⟩
  exact NG.node (rs := []) (kids := []) RW.nil RW.nil 0 [] 0 0 (by simp)
 | [t], H, HK, hm =>
  obtain ⟨blk, off, rfl, hl, hF, hc⟩ := HK.out (by simp)
  obtain ⟨us, hu, hcell, hr⟩ := hc 0 (by simp)
  have HR := Lib.hid hr
  obtain ⟨op', rs, nm, kids, mn, mx, ra, rc, a', c', ht, ev, _⟩ := NG.open hr
  have eu : us = [.int .i64 op', .slice ra rs.length rc, .string ⟨nm.toArray⟩, .slice a' kids.length c', .int .i64 mn, .int .i64 mx] := by
   injection ev with ev
   have := congrArg Array.toList ev
   simpa using this
  subst eu
  have hal : ∀ j, (w.alloc (.cells #[.int .i64 0, .slice none 0 0, .string ⟨#[]⟩, .slice none 0 0, .int .i64 0, .int .i64 0] 33)).cell? ⟨blk, j, none⟩ = w.cell? ⟨blk, j, none⟩ := fun j => (al_below w _).cell (p := ⟨blk, j, none⟩) hl
  have e0 := (hal _).trans ((hcell 0 (by simp)).trans (show _ = some (Value.int .i64 op') from rfl))
  have e1 := (hal _).trans ((hcell 1 (by simp)).trans (show _ = some (Value.slice ra rs.length rc) from rfl))
  have e2 := (hal _).trans ((hcell 2 (by simp)).trans (show _ = some (Value.string ⟨nm.toArray⟩) from rfl))
  have e3 := (hal _).trans ((hcell 3 (by simp)).trans (show _ = some (Value.slice a' kids.length c') from rfl))
  have e4 := (hal _).trans ((hcell 4 (by simp)).trans (show _ = some (Value.int .i64 mn) from rfl))
  have e5 := (hal _).trans ((hcell 5 (by simp)).trans (show _ = some (Value.int .i64 mx) from rfl))
  clear hm hal hcell hc hr hF ev ht
  simp only [Nat.zero_mul, Nat.add_zero] at e0 e1 e2 e3 e4 e5
  go_enter Tryz.func75, Tryz.ntmps75
  go_wp2_with fail
  exact new_ret (P := 4) rfl rfl (by rfl) ⟨_, rfl, NG.go (al_stay w _) _ _ HR.out, al_below w _⟩
 | t :: u :: r, H, HK, hm =>
  obtain ⟨n, hn⟩ : ∃ n, (t :: u :: r).length = n := ⟨_, rfl⟩
  have hn2 : 2 ≤ n := by rw [← hn]; simp
  have z0 : ((n : Int) == 0) = false := by rw [beq_eq_false_iff_ne]; omega
  have z1 : ((n : Int) == 1) = false := by rw [beq_eq_false_iff_ne]; omega
  rw [hn] at H ⊢
  clear hm hn HK
  go_enter Tryz.func75, Tryz.ntmps75
  go_wp2_with fail
  refine new_ret (P := 4) rfl rfl (by rfl) ⟨_, rfl, ?_, al_below w _⟩
  exact NG.node (rs := []) (kids := t :: u :: r) RW.nil (H.out.go (al_stay w _) (fun _ _ h => KR.go (al_stay w _) _ _ h)) op [] 0 0 (by simp)
end Go.Proofs.YtmpbjaodgajnfaaGreatDoor

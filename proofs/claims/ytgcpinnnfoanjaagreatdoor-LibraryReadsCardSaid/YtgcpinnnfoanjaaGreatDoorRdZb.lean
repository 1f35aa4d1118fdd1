/-
 Joined: PatU, PatE, PatG.
-/
import Derived.Test.YtgcpinnnfoanjaaGreatDoorRdZa
import Derived.Deep.LoopGhost
import Derived.Deep.WholeRow
import Derived.Laws.ResultCell
import Derived.Shelf.Abstract
import Derived.BigQuiet
namespace Go.Proofs.YtgcpinnnfoanjaaGreatDoor
open Go.RowKit
def setA (f : Nat → Bool) : Array Value := ((List.range 256).map fun i => Value.bool (f i)).toArray
theorem setA_size (f : Nat → Bool) : (setA f).size = 256 := by simp [setA]
theorem setA_at (f : Nat → Bool) {i : Nat} (h : i < 256) : (setA f)[i]? = some (.bool (f i)) := by simp [setA, h]
theorem setA_out (f : Nat → Bool) {i : Nat} (h : ¬ i < 256) : (setA f)[i]? = none := by rw [Array.getElem?_eq_none_iff, setA_size]; omega
theorem setA_congr {f g : Nat → Bool} (h : ∀ i, i < 256 → f i = g i) : setA f = setA g := by
 apply Array.ext_getElem?
 intro i
 by_cases hi : i < 256
 ·rw [setA_at f hi, setA_at g hi, h i hi]
 ·rw [setA_out f hi, setA_out g hi]
theorem setA_set (f : Nat → Bool) (i : Nat) (b : Bool) : (setA f).setIfInBounds i (.bool b) = setA (fun j => if j = i then b else f j) := by
 apply Array.ext_getElem?
 intro j
 rw [Array.getElem?_setIfInBounds, setA_size]
 by_cases hj : j < 256
 ·rw [setA_at (fun j => if j = i then b else f j) hj]
  by_cases e : i = j
  ·subst e
   simp [hj]
  ·rw [if_neg e, setA_at f hj, if_neg (fun h => e h.symm)]
 ·rw [setA_out (fun j => if j = i then b else f j) hj]
  by_cases e : i = j
  ·subst e
   simp [hj]
  ·rw [if_neg e, setA_out f hj]
theorem setA_one (f : Nat → Bool) : (setA f).all (·.oneCell') = true := by
 rw [Array.all_eq_true_iff_forall_mem]
 intro v hv
 simp only [setA, List.mem_toArray, List.mem_map] at hv
 obtain ⟨i, _, rfl⟩ := hv
 rfl
theorem setA_false : setA (fun _ => false) = Array.replicate 256 (.bool false) := by
 apply Array.ext_getElem?
 intro i
 by_cases hi : i < 256
 ·rw [setA_at _ hi, Array.getElem?_replicate, if_pos hi]
 ·rw [setA_out _ hi, Array.getElem?_replicate, if_neg hi]
theorem infoS : (Tryz.prog.info? 160).map (fun i => (i.zero, i.size)) = some (some (.agg (Array.replicate 256 (.bool false))), 256) := by kernel_rfl
theorem undS : Tryz.prog.underlying 160 = some (.array 256 4) := by kernel_rfl
theorem wp_load_set {o : Oper} {a : Act} {w : World} {K : Act → World → Prop} {Q : Exit → Act → World → Prop} (x : Operand) (ho : o.op = .load 160 x) (g : Nat) (hx : a.eval x = .pointer (some ⟨g, 0, none⟩)) (f : Nat → Bool) (t : TypeId) (hg : w.heap[g]? = some (.cells (setA f) t (0, 0)))
  (h : K (a.put o.dst (.agg (setA f))) w) : o.wp Tryz.prog a w K Q := wp_load_row _ x ho g hx t (setA f) (0, 0) _ hg undS rfl (by rw [setA_size]; exact (zero_of_info infoS).2) h
theorem put_set {W : World} {g : Nat} {f : Nat → Bool} {t : TypeId} (hg : W.heap[g]? = some (.cells (setA f) t (0, 0))) (f' : Nat → Bool) : (storeCells ⟨g, 0, none⟩ (setA f').toList).run Tryz.prog W = .ok () (W.setRow g (setA f')) := by
 have := run_storeCells_from (P := Tryz.prog) g t (setA f').toList 0 (setA f) W hg (by rw [Array.length_toList, setA_size, setA_size]) (fun v hv => Array.all_eq_true_iff_forall_mem.1 (setA_one f') v (by simpa using hv))
 simpa using this
theorem put_new (w : World) (f f' : Nat → Bool) (t : TypeId) : (storeCells ⟨w.heap.size, 0, none⟩ (setA f').toList).run Tryz.prog (w.alloc (.cells (setA f) t)) = .ok () (w.alloc (.cells (setA f') t)) := by
 rw [put_set (heap_alloc_new w _) f', World.setRow_alloc_new]
theorem ret_set {fn : Func} {p : Tmp} (hfn : fn.results = #[.cell p 160]) {w : World} {f : Nat → Bool} {g : Nat} {t : TypeId} (hg : w.heap[g]? = some (.cells (setA f) t (0, 0))) {tmps : Array Value} {df : _} (hdf : df = []) (hp : tmps.getD p undef = .pointer (some ⟨g, 0, none⟩)) {post : Ending → World → Prop} (h : post (.returned (.agg (setA f))) w) :
  bodyPost Tryz.prog fn post Exit.ret { tmps := tmps, defers := df } w := bodyPost_ret (results_cell_row hfn tmps w g t (setA f) (0, 0) _ hp hg undS rfl (by rw [setA_size]; exact (zero_of_info infoS).2)) hdf h
def spanF (lo k j : Nat) : Bool := decide (lo ≤ j) && decide (j < k)
theorem spanF_none (lo k : Nat) (h : k ≤ lo) : setA (spanF lo k) = setA (fun _ => false) := setA_congr fun i _ => by
 by_cases h2 : lo ≤ i
 ·simp [spanF]; omega
 ·simp [spanF, h2]
theorem spanF_succ (lo k : Nat) (h : lo ≤ k) : setA (fun j => if j = k then true else spanF lo k j) = setA (spanF lo (k + 1)) := setA_congr fun i _ => by
 unfold spanF
 by_cases e : i = k
 ·subst e
  simp [h]
 ·rw [if_neg e, show decide (i < k) = decide (i < k + 1) from decide_eq_decide.2 (by omega)]
set_option maxHeartbeats 4000000 in
set_option maxRecDepth 1000000 in
theorem span_any (lo hi : UInt8) (w : World) : Calls Tryz.prog 126 #[.int .u8 (lo.toNat : Int), .int .u8 (hi.toNat : Int)] w fun e w' => e = .returned (.agg (setA (spanF lo.toNat (hi.toNat + 1)))) ∧ Below w.heap.size w w' := by
 have hv := (zero_of_info infoS).1
 have hlo := UInt8.toNat_lt lo
 have hhi := UInt8.toNat_lt hi
 go_enter Tryz.func126, Tryz.ntmps126
 go_wp2
 rw [← setA_false]
 go_loopw [5] (fun i wr => ∃ (k : Nat), i = .int .i64 k ∧ lo.toNat ≤ k ∧ k ≤ 256 ∧ (lo.toNat ≤ hi.toNat → k ≤ hi.toNat + 1) ∧ (hi.toNat < lo.toNat → k = lo.toNat) ∧ wr = w.alloc (.cells (setA (spanF lo.toNat k)) 160)) (fun i _ => 256 - (intOf i).toNat)
 case atStart => exact ⟨lo.toNat, rfl, Nat.le_refl _, by omega, by omega, fun _ => rfl, by rw [spanF_none _ _ (Nat.le_refl _)]⟩
 case round =>
  obtain ⟨k, rfl, hk1, hk2, hk3, hk4, rfl⟩ := hrel
  by_cases hle : k ≤ hi.toNat
  ·have z1 : decide ((k : Int) ≤ (hi.toNat : Int)) = true := decide_eq_true (by omega)
   have y1 : decide (k ≤ hi.toNat) = true := decide_eq_true hle
   have i1 : (k : Int) < 256 := by omega
   have i2 : (0 : Int) ≤ (k : Int) := by omega
   have hw1 : IntKind.i64.wrap ((k : Int) + 1) = (k : Int) + 1 := IntWalk.i64_in _ (by omega)
   have hc : (w.alloc (.cells (setA (spanF lo.toNat k)) 160)).cell? ⟨w.heap.size, k, none⟩ = some (.bool (spanF lo.toNat k k)) := by
    rw [cell_of_row _ _ _ _ _ _ (heap_alloc_new w _)]
    exact setA_at _ (by omega)
   go_wp2_with fail
   refine ⟨⟨k + 1, by go_num, by omega, by omega, by omega, by omega, ?_⟩, by simp [intOf]; omega⟩
   rw [setA_set, spanF_succ _ _ hk1]
  ·have z1 : decide ((k : Int) ≤ (hi.toNat : Int)) = false := decide_eq_false (by omega)
   have y1 : decide (k ≤ hi.toNat) = false := decide_eq_false hle
   have hks : setA (spanF lo.toNat k) = setA (spanF lo.toNat (hi.toNat + 1)) := by
    rcases Nat.lt_or_ge hi.toNat lo.toNat with h | h
    ·rw [spanF_none _ _ (by omega), spanF_none _ _ (by omega)]
    ·rw [show k = hi.toNat + 1 by omega]
   rw [hks]
   have hpn := put_new w (spanF lo.toNat (hi.toNat + 1)) (spanF lo.toNat (hi.toNat + 1)) 160
   go_wp2_with fail
   refine wp_load_set _ rfl w.heap.size rfl _ _ (heap_alloc_new w _) ?_
   go_wp2_with fail
   exact ret_set rfl (heap_alloc_new w _) rfl rfl ⟨rfl, (Below.refl _ w).alloc (Nat.le_refl _) _⟩
def FitAt (w : World) (n : Nat) (p : Nat → Bool) : Prop := ∀ (c : Nat), c < 256 → ∀ W, Below w.heap.size w W → Calls Tryz.prog n #[.int .u8 c] W fun e W' => e = .returned (.bool (p c)) ∧ W = W'
def fitF (p : Nat → Bool) (k j : Nat) : Bool := decide (j < k) && p j
theorem fitF_none (p : Nat → Bool) : setA (fitF p 0) = setA (fun _ => false) := setA_congr fun i _ => by simp [fitF]
theorem fitF_all (p : Nat → Bool) : setA (fitF p 256) = setA p := setA_congr fun i h => by simp [fitF, h]
theorem fitF_succ (p : Nat → Bool) (k : Nat) : setA (fun j => if j = k then p k else fitF p k j) = setA (fitF p (k + 1)) := setA_congr fun i _ => by
 unfold fitF
 by_cases e : i = k
 ·subst e
  simp
 ·rw [if_neg e, show decide (i < k) = decide (i < k + 1) from decide_eq_decide.2 (by omega)]
set_option maxHeartbeats 4000000 in
set_option maxRecDepth 1000000 in
theorem where_any (n : Nat) (he : ∀ args w, (callFunc n args).run Tryz.prog w = .ok (.enter n args) w) (p : Nat → Bool) (w : World) (hf : FitAt w n p) : Calls Tryz.prog 148 #[.func (.func n) #[] #[]] w fun e w' => e = .returned (.agg (setA p)) ∧ Below w.heap.size w w' := by
 have hv := (zero_of_info infoS).1
 have HF := Lib.hid hf
 clear hf
 go_enter Tryz.func148, Tryz.ntmps148
 go_wp2
 rw [← setA_false, ← fitF_none p]
 go_loopw [4] (fun i wr => ∃ (k : Nat), i = .int .i64 k ∧ k ≤ 256 ∧ wr = w.alloc (.cells (setA (fitF p k)) 160)) (fun i _ => 256 - (intOf i).toNat)
 case atStart => exact ⟨0, rfl, by omega, rfl⟩
 case round =>
  obtain ⟨k, rfl, hk, rfl⟩ := hrel
  by_cases hle : k < 256
  ·have z1 : decide ((k : Int) < 256) = true := decide_eq_true (by omega)
   have y1 : decide (k < 256) = true := decide_eq_true hle
   have i1 : (k : Int) < 256 := by omega
   have i2 : (0 : Int) ≤ (k : Int) := by omega
   have hw1 : IntKind.i64.wrap ((k : Int) + 1) = (k : Int) + 1 := IntWalk.i64_in _ (by omega)
   have hw2 : IntKind.u8.wrap (k : Int) = (k : Int) := IntWalk.u8_in _ (by omega)
   have hc : (w.alloc (.cells (setA (fitF p k)) 160)).cell? ⟨w.heap.size, k, none⟩ = some (.bool (fitF p k k)) := by
    rw [cell_of_row _ _ _ _ _ _ (heap_alloc_new w _)]
    exact setA_at _ hle
   have HC := Lib.hid (HF.out k hle (w.alloc (.cells (setA (fitF p k)) 160)) ((Below.refl _ w).alloc (Nat.le_refl _) _))
   go_wp2_with (go_at_fn n; refine HC.out.mono ?_; rintro e w3 ⟨rfl, rfl⟩)
   refine ⟨⟨k + 1, by go_num, by omega, ?_⟩, by simp [intOf]; omega⟩
   rw [setA_set, fitF_succ]
  ·have z1 : decide ((k : Int) < 256) = false := decide_eq_false (by omega)
   have y1 : decide (k < 256) = false := decide_eq_false hle
   obtain rfl : k = 256 := by omega
   have hpn := put_new w p p 160
   rw [fitF_all]
   go_wp2_with fail
   refine wp_load_set _ rfl w.heap.size rfl _ _ (heap_alloc_new w _) ?_
   go_wp2_with fail
   exact ret_set rfl (heap_alloc_new w _) rfl rfl ⟨rfl, (Below.refl _ w).alloc (Nat.le_refl _) _⟩
theorem where_digit (w : World) (hk : Kinds w) : Calls Tryz.prog 148 #[.func (.func 149) #[] #[]] w fun e w' => e = .returned (.agg (setA Asc.isDigit)) ∧ Below w.heap.size w w' :=
 where_any _ (enters_of (P := Tryz.prog) (fn := Tryz.f149) (by kernel_rfl) (by kernel_rfl) rfl) _ w (fun c hc W hb => digit_any c W hc (hk.below hb))
end Go.Proofs.YtgcpinnnfoanjaaGreatDoor
namespace Go.Proofs.YtgcpinnnfoanjaaGreatDoor
open Go.RowKit
noncomputable def shpB (op : Int) (rs : List (UInt8 × UInt8)) (nm : List UInt8) (n : Nat) (mn mx : Int) : Bool :=
 if op = 0 ∨ op = 6 ∨ op = 7 then decide (n = 0) && (decide (rs.length = 0) && (decide (nm.length = 0) && decide (mn = 0 ∧ mx = 0)))
 else if op = 1 then decide (n = 0) && (srtB rs && (decide (nm.length = 0) && decide (mn = 0 ∧ mx = 0)))
 else if op = 2 ∨ op = 3 then decide (2 ≤ n) && (decide (rs.length = 0) && (decide (nm.length = 0) && decide (mn = 0 ∧ mx = 0)))
 else if op = 4 then decide (n = 1) && (decide (rs.length = 0) && decide (nm.length = 0))
 else if op = 5 then decide (n = 1) && (decide (rs.length = 0) && decide (mn = 0 ∧ mx = 0))
 else false
end Go.Proofs.YtgcpinnnfoanjaaGreatDoor
namespace Go.Proofs.YtgcpinnnfoanjaaGreatDoor
open Go.RowKit
noncomputable def bareB (op : Int) (rs : List (UInt8 × UInt8)) (nm : List UInt8) (mn mx : Int) : Bool :=
 (decide (op = 1) || decide (rs.length = 0)) && ((decide (op = 5) || decide (nm.length = 0)) && (decide (op = 4) || decide (mn = 0 ∧ mx = 0)))
end Go.Proofs.YtgcpinnnfoanjaaGreatDoor

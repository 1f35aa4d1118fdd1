/-
 Joined: LbD, BldB, LbE, LbF, LbG.
-/
import Derived.Test.YtgcpinnnfoanjaaGreatDoorRdAb
import Derived.Test.YtgcpinnnfoanjaaGreatDoorRdZb
import Derived.Test.YtgcpinnnfoanjaaGreatDoorRdZa
import Derived.Lib.Builder
import Derived.Lib.OthersKept
import Derived.Lib.AppendStr
import Derived.Laws.Externs
import Derived.Lib.UnsafeStr
import Derived.Laws.AppendOwnNone
import Derived.StillTailTactics
import Derived.Lib.QuietBelow
import Derived.Laws.CopyOwn
import Derived.Laws.Tables
namespace Go.Proofs.YtgcpinnnfoanjaaGreatDoor
open Go.RowKit
def DfAt (w : World) (l : List Lb.Def) (v : Value) : Prop := ∃ a c, v = .slice a l.length c ∧ l.length ≤ 900000 ∧
  (∀ i (h : i < l.length), ∃ blk off, a = some ⟨blk, off, none⟩ ∧ blk < w.heap.size ∧ w.cell? ⟨blk, off + i * 2, none⟩ = some (.string ⟨l[i].1.toArray⟩) ∧ w.cell? ⟨blk, off + i * 2 + 1, none⟩ = some (.string ⟨l[i].2.toArray⟩))
theorem DfAt.later {w w' : World} (hb : Below w.heap.size w w') {l : List Lb.Def} {v : Value} (h : DfAt w l v) : DfAt w' l v := by
 obtain ⟨a, c, e, hm, hk⟩ := h
 refine ⟨a, c, e, hm, fun i hi => ?_⟩
 obtain ⟨blk, off, e1, hl, c0, c1⟩ := hk i hi
 exact ⟨blk, off, e1, Nat.lt_of_lt_of_le hl hb.size, (hb.cell (p := ⟨blk, off + i * 2, none⟩) hl).trans c0, (hb.cell (p := ⟨blk, off + i * 2 + 1, none⟩) hl).trans c1⟩
theorem Lb.findM_at {l : List Lb.Def} {nm : List UInt8} {k : Nat} (hk : k < l.length) (h : l[k].1 = nm) (hb : ∀ j (h : j < l.length), j < k → l[j].1 ≠ nm) : Lb.findM l nm = some k := by
 unfold Lb.findM
 rw [List.findIdx?_eq_some_iff_getElem]
 refine ⟨hk, by simpa using h, fun j hj => ?_⟩
 have := hb j (by omega) hj
 simpa using this
theorem Lb.findM_no {l : List Lb.Def} {nm : List UInt8} (hb : ∀ j (h : j < l.length), l[j].1 ≠ nm) : Lb.findM l nm = none := by
 unfold Lb.findM
 rw [List.findIdx?_eq_none_iff]
 intro x hx
 obtain ⟨j, hj, rfl⟩ := List.mem_iff_getElem.1 hx
 simpa using hb j hj
theorem Lb.findM_lt {l : List Lb.Def} {nm : List UInt8} {k : Nat} (h : Lb.findM l nm = some k) : k < l.length := by
 unfold Lb.findM at h
 rw [List.findIdx?_eq_some_iff_getElem] at h
 exact h.1
def FindP (l : List Lb.Def) (nm : List UInt8) (w : World) (e : Ending) (w' : World) : Prop := e = .returned (.tuple #[.int .i64 (((Lb.findM l nm).getD 0 : Nat) : Int), .bool (Lb.findM l nm).isSome]) ∧ Below w.heap.size w w'
set_option maxHeartbeats 4000000 in
set_option maxRecDepth 1000000 in
theorem find_any (l : List Lb.Def) (nm : List UInt8) (v : Value) (w : World) (h : DfAt w l v) :
  Calls Tryz.prog 28 #[v, .string ⟨nm.toArray⟩] w (FindP l nm w) := by
 obtain ⟨a, c, rfl, hm, hk⟩ := h
 have HK := Lib.hid hk
 clear hk
 go_enter Tryz.func28, Tryz.ntmps28
 go_wp2_with fail
 go_loopw [10] (fun i wr => ∃ k : Nat, i = .int .i64 k ∧ k ≤ l.length ∧ Hid (∀ j (h : j < l.length), j < k → l[j].1 ≠ nm) ∧ Hid (Below w.heap.size w wr)) (fun i _ => l.length - (intOf i).toNat)
 case atStart => exact ⟨0, rfl, by omega, Lib.hid (fun _ _ h => by omega), Lib.hid (Below.refl _ _)⟩
 case round =>
  obtain ⟨k, rfl, hkl, HN, HB⟩ := hrel
  by_cases hlt : k < l.length
  ·obtain ⟨blk, off, rfl, hbl, c0, c1⟩ := HK.out k hlt
   have e0 := (HB.out.cell (p := ⟨blk, off + k * 2, none⟩) hbl).trans c0
   have e1 := (HB.out.cell (p := ⟨blk, off + k * 2 + 1, none⟩) hbl).trans c1
   have i1 : (k : Int) < (l.length : Int) := by omega
   have i2 : (0 : Int) ≤ (k : Int) := by omega
   have lw := Nat.lt_of_lt_of_le hbl HB.out.size
   have hw1 : IntKind.i64.wrap ((k : Int) + 1) = (k : Int) + 1 := IntWalk.i64_in _ (by omega)
   have HFK : Hid (l[k].1 = nm → Lb.findM l nm = some k) := Lib.hid (fun h => Lb.findM_at hlt h HN.out)
   have HNK : Hid (l[k].1 ≠ nm → ∀ j (h : j < l.length), j < k + 1 → l[j].1 ≠ nm) := Lib.hid (fun h j hj hjk => by
    by_cases e : j = k
    ·subst e; exact h
    ·exact HN.out j hj (by omega))
   obtain ⟨d, hd⟩ : ∃ d, l[k] = d := ⟨_, rfl⟩
   rw [hd] at e0 e1 HFK HNK
   obtain ⟨n1, s1⟩ := d
   simp only at e0 e1
   have HB2 := Lib.hid (HB.out.alloc HB.out.size (.cells #[.string ⟨n1.toArray⟩, .string ⟨s1.toArray⟩] 47))
   clear c0 c1 hd
   by_cases he : n1 = nm
   ·have HF := Lib.hid (HFK.out he)
    subst he
    go_wp2_with fail
    go_ret2
    exact ⟨by rw [HF.out]; rfl, HB2.out⟩
   ·have HN2 := Lib.hid (HNK.out he)
    have z1 : (n1 == nm) = false := beq_eq_false_iff_ne.2 he
    clear he
    go_wp2_with fail
    all_goals try (exfalso; simp_all; done)
    refine ⟨⟨k + 1, by go_num, by omega, HN2, HB2⟩, by simp [intOf]; omega⟩
  ·have z1 : decide ((k : Int) < (l.length : Int)) = false := decide_eq_false (by omega)
   have y1 : decide (k < l.length) = false := decide_eq_false hlt
   have HF := Lib.hid (Lb.findM_no (l := l) (nm := nm) fun j hj => HN.out j hj (by omega))
   go_wp2_with fail
   go_ret2
   exact ⟨by rw [HF.out]; rfl, HB.out⟩
def busA (b : List Nat) : Array Value := (((List.range 40).map fun i => Value.bool (decide (i ∈ b))) ++ [Value.slice none 0 0]).toArray
theorem busA_size (b : List Nat) : (busA b).size = 41 := by simp [busA]
theorem busA_at (b : List Nat) {i : Nat} (h : i < 40) : (busA b)[i]? = some (.bool (decide (i ∈ b))) := by
 unfold busA
 rw [List.getElem?_toArray, List.getElem?_append_left (by simpa using h)]
 simp [h]
theorem busA_last (b : List Nat) : (busA b)[40]? = some (.slice none 0 0) := by
 unfold busA
 rw [List.getElem?_toArray, List.getElem?_append_right (by simp)]
 simp
theorem busA_set (b : List Nat) (i : Nat) (hi : i < 40) : (busA b).setIfInBounds i (.bool true) = busA (i :: b) := by
 apply Array.ext_getElem?
 intro j
 rw [Array.getElem?_setIfInBounds, busA_size]
 by_cases hj : j < 40
 ·rw [busA_at (i :: b) hj]
  by_cases e : i = j
  ·subst e
   rw [if_pos rfl, if_pos (by omega)]
   simp
  ·rw [if_neg e, busA_at b hj]
   congr 2
   exact decide_eq_decide.2 ⟨fun h => List.mem_cons_of_mem _ h, fun h => (List.mem_cons.1 h).resolve_left (fun h => e h.symm)⟩
 ·rw [if_neg (by omega)]
  by_cases e : j = 40
  ·subst e; rw [busA_last, busA_last]
  ·rw [Array.getElem?_eq_none (by rw [busA_size]; omega), Array.getElem?_eq_none (by rw [busA_size]; omega)]
theorem busA_one (b : List Nat) : (busA b).all (·.oneCell') = true := by
 rw [Array.all_eq_true_iff_forall_mem]
 intro v hv
 simp only [busA, List.mem_toArray, List.mem_append, List.mem_map, List.mem_singleton] at hv
 rcases hv with ⟨i, _, rfl⟩ | rfl <;> rfl
theorem infoBu : (Tryz.prog.info? 75).map (fun i => (i.zero, i.size)) = some (some (.agg (busA [])), 41) := by kernel_rfl
theorem undBu : (Tryz.prog.underlying 75).map (fun d => match d with | .struct _ => true | _ => false) = some true := by kernel_rfl
theorem undBu2 : ∃ fs, Tryz.prog.underlying 75 = some (.struct fs) := by
 cases hq : Tryz.prog.underlying 75 with
 | none => have := undBu; rw [hq] at this; cases this
 | some d =>
  have := undBu
  rw [hq] at this
  cases d <;> first | exact ⟨_, rfl⟩ | (simp at this)
set_option maxHeartbeats 4000000 in
set_option maxRecDepth 1000000 in
theorem has_any (b : List Nat) (i : Nat) (hi : i < 40) (w : World) :
  Calls Tryz.prog 51 #[.agg (busA b), .int .i64 (i : Int)] w fun e w' => e = .returned (.bool (decide (i ∈ b))) ∧ Below w.heap.size w w' := by
 have hv := (zero_of_info infoBu).1
 have i1 : (i : Int) < 40 := by omega
 have i2 : (0 : Int) ≤ (i : Int) := by omega
 have hc : (w.alloc (.cells (busA b) 75)).cell? ⟨w.heap.size, i, none⟩ = some (.bool (decide (i ∈ b))) := by
  rw [cell_of_row _ _ _ _ _ _ (heap_alloc_new w _)]
  exact busA_at b hi
 go_enter Tryz.func51, Tryz.ntmps51
 go_wp2_with fail
 go_ret
 exact ⟨rfl, alb w _⟩
def DfR (d : Lb.Def) (us : List Value) : Prop := us = [.string ⟨d.1.toArray⟩, .string ⟨d.2.toArray⟩]
theorem infoDf : (Tryz.prog.info? 47).map (fun i => (i.zero, i.size, i.bytes)) = some (some (.agg #[.string ⟨#[]⟩, .string ⟨#[]⟩]), 2, 32) := by kernel_rfl
end Go.Proofs.YtgcpinnnfoanjaaGreatDoor
namespace Go.Proofs.YtgcpinnnfoanjaaGreatDoor
open Go.RowKit
theorem own_atB {w w' : World} {B E s n : Nat} {v : Value} {xs : List Value} (h : w.ownsRow B E s v n xs) (hb : ∀ k, v.ownBlock = some k → w'.heap[k]? = w.heap[k]?) : w'.ownsRow B E s v n xs := by
 obtain ⟨h1, h2⟩ := h
 refine ⟨h1, h2.imp id ?_⟩
 rintro ⟨g, cap, cur, rfl, hB, hg, rest⟩
 exact ⟨g, cap, cur, rfl, hB, (hb g rfl).trans hg, rest⟩
theorem infoBB : (Tryz.prog.info? 65).map (fun j => j.size) = some 2 := by kernel_rfl
theorem liesBB : liesAt Tryz.prog Tryz.prog.depth 65 (2 / Tryz.prog.cellsOf 65) 0 65 1 = true := by kernel_rfl
structure BW (g : Nat) (bs : List UInt8) (w : World) : Prop where
 blk : ∃ p v, w.heap[g]? = some (.cells #[.pointer p, v] 65 (0, 0)) ∧ (p = none ∨ p = some ⟨g, 0, none⟩) ∧ w.ownsRow (g + 1) 5 1 v bs.length (Lib.byteCells bs)
structure BF (g : Nat) (w w' : World) : Prop where
 bl : Below g w w'
 ot : Lib.OthersKept 5 (some g) w w'
theorem BF.refl (g : Nat) (w : World) : BF g w w := ⟨Below.refl _ _, Lib.OthersKept.refl _ _ _⟩
theorem BF.trans {g : Nat} {a b c : World} (h : BF g a b) (k : BF g b c) : BF g a c := ⟨h.bl.trans k.bl, h.ot.trans k.ot⟩
theorem oth_belowB {e : TypeId} {b : Option Nat} {w w' : World} (h : Below w.heap.size w w') : Lib.OthersKept e b w w' := fun k _ hk _ _ => (h.block k (Array.getElem?_eq_some_iff.1 hk).1).trans hk
theorem BF.of_below {g : Nat} {w w' : World} (h : Below w.heap.size w w') (hg : g < w.heap.size) : BF g w w' := ⟨h.mono (Nat.le_of_lt hg), oth_belowB h⟩
theorem BW.lt {g : Nat} {bs : List UInt8} {w : World} (h : BW g bs w) : g < w.heap.size := by
 obtain ⟨p, v, hb, _⟩ := h.blk
 exact (Array.getElem?_eq_some_iff.1 hb).1
theorem BW.on {g : Nat} {bs : List UInt8} {w w' : World} (h : BW g bs w) (k : Below w.heap.size w w') : BW g bs w' := by
 obtain ⟨p, v, hb, hp, ho⟩ := h.blk
 exact ⟨p, v, (k.block g h.lt).trans hb, hp, own_atB ho fun j hj => k.block j (ho.lt j hj).2⟩
theorem al_belowB (w : World) (o : Obj) : Below w.heap.size w (w.alloc o) := (Below.refl _ w).alloc (Nat.le_refl _) o
theorem kind_rowB {w : World} {B : Nat} {e : TypeId} {v : Value} {n : Nat} {xs : List Value} (h : w.ownsRow B e 1 v n xs) : ∀ g, v.ownBlock = some g → ∃ c fz, w.heap[g]? = some (.cells c e fz) :=
 Lib.ownsRowF_kind (World.ownsRowF_of h)
set_option maxHeartbeats 1000000 in
set_option maxRecDepth 100000 in
theorem bcopy_used (b : Nat) (w : World) (h0 : w.cell? ⟨b, 0, none⟩ = some (.pointer (some ⟨b, 0, none⟩))) :
  Calls Tryz.prog 49 #[.pointer (some ⟨b, 0, none⟩)] w fun e w' => e = .returned (.tuple #[]) ∧ w = w' := by
 obtain ⟨j, hj, _⟩ := Option.map_eq_some_iff.1 infoBB
 go_enter Tryz.func49, Tryz.ntmps49
 go_wp2
 rw [Lib.run_neq_ptr_same w _ Tryz.underlying63 hj]
 go_wp2
 go_end0
 exact ⟨rfl, rfl⟩
set_option maxHeartbeats 1000000 in
set_option maxRecDepth 100000 in
theorem bcopy_fresh (b : Nat) (w : World) (h0 : w.cell? ⟨b, 0, none⟩ = some (.pointer none)) (hsh : w.shape? b = some (65, 2)) (hfz : w.frozen? ⟨b, 0, none⟩ = false) :
  Calls Tryz.prog 49 #[.pointer (some ⟨b, 0, none⟩)] w fun e w' => e = .returned (.tuple #[]) ∧ w.setCell ⟨b, 0, none⟩ (.pointer (some ⟨b, 0, none⟩)) = w' := by
 obtain ⟨j, hj, hjs⟩ := Option.map_eq_some_iff.1 infoBB
 go_enter Tryz.func49, Tryz.ntmps49
 go_wp2
 rw [Lib.run_to_unsafe w ⟨b, 0, none⟩ Tryz.underlying63 Tryz.underlying119 hj (by rw [hjs]; decide) hsh (Nat.zero_lt_succ 1)]
 simp only [Result.andThen]
 rw [Oper.upon_value]
 go_wp2
 rw [run_callFunc_extern Tryz.func70 (by kernel_rfl) (by kernel_rfl) (by kernel_rfl) (e := Extern.AbiNoEscape.same) (by kernel_rfl)]
 rw [Lib.run_noEscape]
 simp only [Result.andThen]
 rw [Oper.upon_value]
 go_wp2
 rw [Lib.run_from_unsafe w ⟨b, 0, none⟩ Tryz.underlying119 Tryz.underlying63 hj hsh liesBB]
 simp only [Result.andThen]
 rw [Oper.upon_value]
 go_wp2
 go_end0
 exact ⟨rfl, rfl⟩
def BU (g : Nat) (v : Value) (bs : List UInt8) (w : World) : Prop := w.heap[g]? = some (.cells #[.pointer (some ⟨g, 0, none⟩), v] 65 (0, 0)) ∧ w.ownsRow (g + 1) 5 1 v bs.length (Lib.byteCells bs)
theorem bcopy_any (g : Nat) (bs : List UInt8) (w : World) (h : BW g bs w) :
  Calls Tryz.prog 49 #[.pointer (some ⟨g, 0, none⟩)] w fun e w' => e = .returned (.tuple #[]) ∧ (∃ v, BU g v bs w') ∧ BF g w w' := by
 obtain ⟨p, v, hb, hp, ho⟩ := h.blk
 have c0 : w.cell? ⟨g, 0, none⟩ = some (.pointer p) := by rw [Lib.cell_of_heap hb]; rfl
 rcases hp with rfl | rfl
 ·refine (bcopy_fresh g w c0 (by simp [World.shape?, hb]) (Lib.frozen_of_heap hb 0)).mono ?_
  rintro e w' ⟨rfl, rfl⟩
  refine ⟨rfl, ⟨v, ?_, ?_⟩, (Below.refl _ _).setCell (p := ⟨g, 0, none⟩) (Nat.le_refl _) _, Lib.OthersKept.setCell (Lib.OthersKept.refl _ _ _) ⟨g, 0, none⟩ rfl _⟩
  ·exact heap_setCell_same w g 0 _ _ _ hb
  ·exact own_atB ho fun k hk => Below.heap_setCell _ _ _ k (by have := (ho.lt k hk).1; simp; omega)
 ·refine (bcopy_used g w c0).mono ?_
  rintro e w' ⟨rfl, rfl⟩
  exact ⟨rfl, ⟨v, hb, ho⟩, BF.refl _ _⟩
theorem BU.on {g : Nat} {v : Value} {bs : List UInt8} {w w' : World} (h : BU g v bs w) (k : Below w.heap.size w w') : BU g v bs w' :=
 ⟨(k.block g (Array.getElem?_eq_some_iff.1 h.1).1).trans h.1, own_atB h.2 fun j hj => k.block j (h.2.lt j hj).2⟩
theorem row_formB {W : World} {B : Nat} {v : Value} {n : Nat} {xs : List Value} (h : W.ownsRow B 5 1 v n xs) : ∃ a cap, v = .slice a n cap := by
 rcases h.2 with ⟨h1, h0⟩ | ⟨g, cap, cur, h1, _⟩
 ·exact ⟨none, 0, by rw [h1, h0]⟩
 ·exact ⟨_, cap, h1⟩
theorem bu_put {g : Nat} {v v' : Value} {bs bs' : List UInt8} {w w1 w2 : World} (h : BU g v bs w1) (hf : BF g w w1) (hgr : w1.grownBy w2 v.ownBlock) (ho : w2.ownsRow (g + 1) 5 1 v' bs'.length (Lib.byteCells bs')) :
  BW g bs' (w2.setCell ⟨g, 1, none⟩ v') ∧ BF g w (w2.setCell ⟨g, 1, none⟩ v') ∧ w2.cell? ⟨g, 1, none⟩ = some v ∧ w2.frozen? ⟨g, 1, none⟩ = false := by
 obtain ⟨hb, hrow⟩ := h
 have hlt : g < w1.heap.size := (Array.getElem?_eq_some_iff.1 hb).1
 have hb2 : w2.heap[g]? = _ := (hgr.block g hlt (fun e => by have := (hrow.lt g e.symm).1; omega)).trans hb
 refine ⟨⟨_, v', heap_setCell_same w2 g 1 _ _ _ hb2, .inr rfl, own_atB ho fun k hk => Below.heap_setCell _ _ _ k (by have := (ho.lt k hk).1; simp; omega)⟩, ⟨?_, ?_⟩, by rw [Lib.cell_of_heap hb2]; rfl, Lib.frozen_of_heap hb2 1⟩
 ·exact ((hf.bl.trans ((Below.refl _ w1).grown hgr (Nat.le_of_lt hlt) (fun k hk => by have := (hrow.lt k hk).1; omega)))).setCell (p := ⟨g, 1, none⟩) (Nat.le_refl _) _
 ·exact (hf.ot.grown hgr (kind_rowB hrow)).setCell ⟨g, 1, none⟩ rfl _
set_option maxHeartbeats 4000000 in
set_option maxRecDepth 100000 in
theorem bbyte_any (g : Nat) (bs : List UInt8) (c : UInt8) (w : World) (h : BW g bs w) (hlen : bs.length ≤ 10000000) :
  Calls Tryz.prog 53 #[.pointer (some ⟨g, 0, none⟩), .int .u8 (c.toNat : Int)] w fun e w' => e = .returned .nilIface ∧ BW g (bs ++ [c]) w' ∧ BF g w w' := by
 obtain ⟨i0, hi, hz0, hz1, hz2⟩ := info_parts info5
 have HC := Lib.hid (bcopy_any g bs w h)
 clear h
 go_enter Tryz.func53, Tryz.ntmps53
 go_wp2_with fail
 refine HC.out.mono ?_
 rintro e w1 ⟨rfl, ⟨v, hu⟩, hf⟩
 have HU := Lib.hid hu
 have HF := Lib.hid hf
 obtain ⟨hbk, hown⟩ := hu
 have hlt : g < w1.heap.size := (Array.getElem?_eq_some_iff.1 hbk).1
 have c1 : w1.cell? ⟨g, 1, none⟩ = some v := by rw [Lib.cell_of_heap hbk]; rfl
 clear hbk hf
 go_wp2_with (at_builtin; refine wpList_append_own _ rfl _ _ 22 rfl (g + 1) 5 i0 (.int .u8 0) 1 1 Tryz.underlying22 hi hz0 hz1 hz2 rfl (by decide) _ _ _ rfl (hown.alloc _) ⟨w1.heap.size, 0, none⟩ 1 1 [.int .u8 (c.toNat : Int)] rfl rfl ?c1 ?c2 ?c3 ?c4 ?c5 ?_)
 case c1 =>
  intro j u hj
  match j, hj with
  | 0, hj => simp at hj; subst hj; simp [Addr.add]
 case c2 => intro u hu; simp at hu; subst hu; rfl
 case c3 => unfold maxLen; omega
 case c4 => omega
 case c5 => simp; omega
 intro v' w2 hown' hgrow _
 have hA := al_belowB w1 (.cells #[.int .u8 (c.toNat : Int)] 5)
 have hP := bu_put (bs' := bs ++ [c]) (HU.out.on hA) (HF.out.trans (BF.of_below hA hlt)) hgrow (by simpa [Lib.byteCells] using hown')
 obtain ⟨a', cap', rfl⟩ := row_formB hown'
 have HP1 := Lib.hid hP.1
 have HP2 := Lib.hid hP.2.1
 have d1 := hP.2.2.1
 have f1 := hP.2.2.2
 clear hP hown' hgrow hA hown
 go_wp2_with fail
 go_ret
 exact ⟨rfl, HP1.out, HP2.out⟩
set_option maxHeartbeats 4000000 in
set_option maxRecDepth 100000 in
theorem bstr_any (g : Nat) (bs : List UInt8) (l : List UInt8) (w : World) (h : BW g bs w) (hlen : bs.length ≤ 10000000) (hl : l.length ≤ 10000000) :
  Calls Tryz.prog 31 #[.pointer (some ⟨g, 0, none⟩), .string ⟨l.toArray⟩] w fun e w' => e = .returned (.tuple #[.int .i64 (l.length : Int), .nilIface]) ∧ BW g (bs ++ l) w' ∧ BF g w w' := by
 obtain ⟨i0, hi, hz0, hz1, hz2⟩ := info_parts info5
 have HC := Lib.hid (bcopy_any g bs w h)
 clear h
 go_enter Tryz.func31, Tryz.ntmps31
 go_wp2_with fail
 refine HC.out.mono ?_
 rintro e w1 ⟨rfl, ⟨v, hu⟩, hf⟩
 have HU := Lib.hid hu
 have HF := Lib.hid hf
 obtain ⟨hbk, hown⟩ := hu
 have hlt : g < w1.heap.size := (Array.getElem?_eq_some_iff.1 hbk).1
 have c1 : w1.cell? ⟨g, 1, none⟩ = some v := by rw [Lib.cell_of_heap hbk]; rfl
 have hsz : (ByteArray.mk l.toArray).size = l.length := by simp [ByteArray.size]
 have hsc : Lib.strCells ⟨l.toArray⟩ = Lib.byteCells l := by simp [Lib.strCells, Lib.byteCells]
 clear hbk hf
 go_wp2_with (at_builtin; refine Lib.wpList_append_own_string _ rfl _ _ 22 9 rfl (g + 1) 5 i0 Tryz.underlying22 Tryz.underlying9 hi hz0 hz1 hz2 _ _ _ rfl hown ⟨l.toArray⟩ rfl ?c3 ?c4 ?c5 ?_)
 case c3 => rw [hsz]; unfold maxLen; omega
 case c4 => rw [hsz]; omega
 case c5 => omega
 intro v' w2 hown' hgrow _
 have hP := bu_put (bs' := bs ++ l) HU.out HF.out hgrow (by simpa [Lib.byteCells] using hown')
 obtain ⟨a', cap', rfl⟩ := row_formB hown'
 have HP1 := Lib.hid hP.1
 have HP2 := Lib.hid hP.2.1
 have d1 := hP.2.2.1
 have f1 := hP.2.2.2
 clear hP hown' hgrow hown
 go_wp2_with fail
 go_ret2
 exact ⟨rfl, HP1.out, HP2.out⟩
set_option maxHeartbeats 4000000 in
set_option maxRecDepth 100000 in
theorem blen_any (g : Nat) (bs : List UInt8) (w : World) (h : BW g bs w) :
  Calls Tryz.prog 50 #[.pointer (some ⟨g, 0, none⟩)] w fun e w' => e = .returned (.int .i64 (bs.length : Int)) ∧ w = w' := by
 obtain ⟨p, v, hb, _, ho⟩ := h.blk
 have hform : ∃ a cap, v = .slice a bs.length cap := by
  rcases ho.2 with ⟨h1, h0⟩ | ⟨g', cap, cur, h1, _⟩
  ·exact ⟨none, 0, by rw [h1, h0]⟩
  ·exact ⟨_, cap, h1⟩
 obtain ⟨a, cap, rfl⟩ := hform
 have c1 : w.cell? ⟨g, 1, none⟩ = some (.slice a bs.length cap) := by rw [Lib.cell_of_heap hb]; rfl
 clear hb ho h
 go_enter Tryz.func50, Tryz.ntmps50
 go_wp2_with fail
 go_ret
 exact ⟨rfl, rfl⟩
theorem BW.new (w : World) : BW w.heap.size [] (w.alloc (.cells #[.pointer none, .slice none 0 0] 65)) :=
 ⟨none, .slice none 0 0, heap_alloc_new w _, .inl rfl, World.ownsRow_nil _ _ _ _⟩
theorem own_base {W : World} {B B' : Nat} {e : TypeId} {k : Nat} {v : Value} {n : Nat} {xs : List Value} (h : W.ownsRow B e k v n xs) (hB : B' ≤ B) : W.ownsRow B' e k v n xs := by
 obtain ⟨h0, h1 | ⟨g, cap, cur, h1, h2, h3⟩⟩ := h
 ·exact ⟨h0, .inl h1⟩
 ·exact ⟨h0, .inr ⟨g, cap, cur, h1, Nat.le_trans hB h2, h3⟩⟩
theorem bstring_any (g : Nat) (l : List UInt8) (w : World) (h : BW g l w) :
  Calls Tryz.prog 32 #[.pointer (some ⟨g, 0, none⟩)] w fun e w' => e = .returned (.string ⟨l.toArray⟩) ∧ Below g w w' := by
 have hlt := h.lt
 obtain ⟨p, v, hb, hp, ho⟩ := h.blk
 have hne : v.ownBlock ≠ some g := fun e => by have := (ho.lt g e).1; omega
 have hlen : (Lib.byteCells l).length = l.length := Lib.byteCells_length l
 have ho' : w.ownsRow g 5 1 v (Lib.byteCells l).length (Lib.byteCells l) := by rw [hlen]; exact own_base ho (Nat.le_succ g)
 refine Tryz.Builder_String_any g g l w ?_ (Nat.le_of_lt hlt)
 rcases hp with rfl | rfl
 ·exact .inl ⟨Nat.le_refl _, v, hb, ho', hne⟩
 ·exact .inr ⟨Nat.le_refl _, v, hb, ho', hne⟩
end Go.Proofs.YtgcpinnnfoanjaaGreatDoor
namespace Go.Proofs.YtgcpinnnfoanjaaGreatDoor
open Go.RowKit
theorem wp_load_bu {o : Oper} {a : Act} {w : World} {K : Act → World → Prop} {Q : Exit → Act → World → Prop} (x : Operand) (ho : o.op = .load 75 x) (g : Nat) (hx : a.eval x = .pointer (some ⟨g, 0, none⟩)) (b : List Nat) (hg : w.heap[g]? = some (.cells (busA b) 75 (0, 0)))
  (h : K (a.put o.dst (.agg (busA b))) w) : o.wp Tryz.prog a w K Q := by
 obtain ⟨fs, hd⟩ := undBu2
 exact wp_load_row _ x ho g hx 75 (busA b) (0, 0) _ hg hd rfl (by rw [busA_size]; exact (zero_of_info infoBu).2) h
theorem wpl_load_bu {ops : Array Oper} {rest : List Oper} {o : Oper} {a : Act} {w : World} {Q : Exit → Act → World → Prop} (hgd : o.guard = none) (x : Operand) (ho : o.op = .load 75 x) (g : Nat) (hx : a.eval x = .pointer (some ⟨g, 0, none⟩)) (b : List Nat) (hg : w.heap[g]? = some (.cells (busA b) 75 (0, 0)))
  (h : wpList Tryz.prog ops Q rest (a.put o.dst (.agg (busA b))) w) : wpList Tryz.prog ops Q (o :: rest) a w :=
 wpList_plain hgd fun _ hK => wp_load_bu x ho g hx b hg (hK _ _ h)
theorem ret_bu {fn : Func} {p : Tmp} (hfn : fn.results = #[.cell p 75]) {w : World} {b : List Nat} {g : Nat} (hg : w.heap[g]? = some (.cells (busA b) 75 (0, 0))) {tmps : Array Value} {df : _} (hdf : df = []) (hp : tmps.getD p undef = .pointer (some ⟨g, 0, none⟩)) {post : Ending → World → Prop} (h : post (.returned (.agg (busA b))) w) :
  bodyPost Tryz.prog fn post Exit.ret { tmps := tmps, defers := df } w := by
 obtain ⟨fs, hd⟩ := undBu2
 exact bodyPost_ret (results_cell_row hfn tmps w g 75 (busA b) (0, 0) _ hp hg hd rfl (by rw [busA_size]; exact (zero_of_info infoBu).2)) hdf h
theorem put_bu {W : World} {g : Nat} {b : List Nat} (hg : W.heap[g]? = some (.cells (busA b) 75 (0, 0))) (b' : List Nat) : ∃ W', (storeCells ⟨g, 0, none⟩ (busA b').toList).run Tryz.prog W = .ok () W' ∧ W'.heap[g]? = some (.cells (busA b') 75 (0, 0)) ∧ Below g W W' ∧ (storeCells ⟨g, 0, none⟩ (busA b').toList).run Tryz.prog W' = .ok () W' := by
 have key : ∀ (W : World) (b : List Nat), W.heap[g]? = some (.cells (busA b) 75 (0, 0)) → (storeCells ⟨g, 0, none⟩ (busA b').toList).run Tryz.prog W = .ok () (W.setRow g (busA b')) := by
  intro W b hg
  have := run_storeCells_from (P := Tryz.prog) g 75 (busA b').toList 0 (busA b) W hg (by rw [Array.length_toList, busA_size, busA_size]) (fun v hv => Array.all_eq_true_iff_forall_mem.1 (busA_one b') v (by simpa using hv))
  simpa using this
 have h1 := setRow_heap W g _ (busA b') 75 (0, 0) hg
 refine ⟨_, key W b hg, h1, below_setRow (Below.refl _ W) (Nat.le_refl _) _, ?_⟩
 have := key _ b' h1
 rwa [setRow_self _ _ _ _ _ h1] at this
set_option maxHeartbeats 4000000 in
set_option maxRecDepth 1000000 in
theorem bwith_any (b : List Nat) (i : Nat) (hi : i < 40) (w : World) :
  Calls Tryz.prog 52 #[.agg (busA b), .int .i64 (i : Int)] w fun e w' => e = .returned (.agg (busA (i :: b))) ∧ Below w.heap.size w w' := by
 have hv := (zero_of_info infoBu).1
 have i1 : (i : Int) < 40 := by omega
 have i2 : (0 : Int) ≤ (i : Int) := by omega
 have h0 : ((w.alloc (.cells (busA b) 75)).alloc (.cells (busA []) 75)).heap[w.heap.size]? = some (.cells (busA b) 75 (0, 0)) := two_first w _ _ _ _
 have h1 : ((w.alloc (.cells (busA b) 75)).alloc (.cells (busA []) 75)).heap[w.heap.size + 1]? = some (.cells (busA []) 75 (0, 0)) := by have := heap_alloc_new (w.alloc (.cells (busA b) 75)) (.cells (busA []) 75); rwa [World.size_alloc] at this
 have hB : Below w.heap.size w ((w.alloc (.cells (busA b) 75)).alloc (.cells (busA []) 75)) := (alb w _).trans ((alb _ _).mono (by simp))
 obtain ⟨W, hW⟩ : ∃ W, (w.alloc (.cells (busA b) 75)).alloc (.cells (busA []) 75) = W := ⟨_, rfl⟩
 have hc : W.cell? ⟨w.heap.size, i, none⟩ = some (.bool (decide (i ∈ b))) := by
  rw [← hW, cell_of_row _ _ _ _ _ _ h0]
  exact busA_at b hi
 have hf : W.frozen? ⟨w.heap.size, i, none⟩ = false := by rw [← hW]; exact Lib.frozen_of_heap h0 i
 rw [hW] at h0 h1 hB
 have h2 : (W.setCell ⟨w.heap.size, i, none⟩ (.bool true)).heap[w.heap.size]? = some (.cells (busA (i :: b)) 75 (0, 0)) := by rw [← busA_set b i hi]; exact heap_setCell_same W w.heap.size i _ _ _ h0
 have h3 : (W.setCell ⟨w.heap.size, i, none⟩ (.bool true)).heap[w.heap.size + 1]? = some (.cells (busA []) 75 (0, 0)) := (Below.heap_setCell _ _ _ (w.heap.size + 1) (by simp)).trans h1
 obtain ⟨w4, e4, h4, hb4, e4'⟩ := put_bu h3 (i :: b)
 have HB4 := Lib.hid ((hB.setCell (p := ⟨w.heap.size, i, none⟩) (Nat.le_refl _) (.bool true)).trans (hb4.mono (Nat.le_succ _)))
 clear hb4 h0 h1 hB h3
 go_enter Tryz.func52, Tryz.ntmps52
 go_wp2_with (refine wpl_load_bu rfl _ rfl w.heap.size rfl _ h2 ?_)
 exact ret_bu rfl h4 rfl rfl ⟨rfl, HB4.out⟩
end Go.Proofs.YtgcpinnnfoanjaaGreatDoor
namespace Go.Proofs.YtgcpinnnfoanjaaGreatDoor
open Go.RowKit Go.Sort
namespace Lb
theorem readM_fd {q nm fd : List UInt8} {k : Nat} (h : readM q = some (nm, fd, k)) : fd.length ≤ q.length := by
 unfold readM at h
 repeat' split at h
 all_goals first
  | (cases h; done)
  | (cases h; rw [List.length_take, List.length_drop]; omega)
  | (cases h; simp)
def PosOk (n : Nat) : List Ref → Nat → Prop
 | [], at_ => at_ ≤ n
 | r :: L, at_ => at_ ≤ r.fr ∧ r.fr ≤ r.to ∧ r.to ≤ n ∧ r.fd.length ≤ n ∧ PosOk n L r.to
theorem rfs_pos (s : List UInt8) (n : Nat) : ∀ at_ L, at_ ≤ s.length → rfs s n at_ = some L → PosOk s.length L at_ := by
 induction n with
 | zero => intro at_ L _ h; cases h
 | succ n ih =>
  intro at_ L hat h
  rw [rfs] at h
  split at h
  ·next h1 => injection h with h; subst h; exact hat
  ·next p q h1 =>
   split at h
   ·cases h
   ·next nm fd k h2 =>
    rw [Option.map_eq_some_iff] at h
    obtain ⟨L', h3, rfl⟩ := h
    obtain ⟨h4, h5⟩ := cutPM_len h1
    rw [List.length_drop] at h4
    have h6 := readM_le h2
    have h7 := readM_fd h2
    refine ⟨?_, ?_, ?_, ?_, ih _ _ ?_ h3⟩ <;> simp only <;> omega
theorem srcOf_at (l : List Def) {i : Nat} (h : i < l.length) : srcOf l i = l[i].2 := by
 unfold srcOf
 rw [List.getElem?_eq_getElem h]
 rfl
def freeN (n : Nat) (b : List Nat) : Nat := (List.range n).countP (fun i => decide (i ∉ b))
theorem countP_cons_lt (b : List Nat) (i : Nat) (hb : i ∉ b) : ∀ R : List Nat, R.countP (fun j => decide (j ∉ i :: b)) + (if i ∈ R then 1 else 0) ≤ R.countP (fun j => decide (j ∉ b))
 | [] => by simp
 | x :: R => by
  have ih := countP_cons_lt b i hb R
  rw [List.countP_cons, List.countP_cons]
  by_cases e : x = i
  ·subst e
   have h1 : decide (x ∉ x :: b) = false := by simp
   have h2 : decide (x ∉ b) = true := by simpa using hb
   rw [h1, h2]
   simp only [List.mem_cons, true_or, if_true, Bool.false_eq_true, if_false]
   simp only [List.mem_cons] at ih
   split at ih <;> omega
  ·have h1 : decide (x ∉ i :: b) = decide (x ∉ b) := by
    apply decide_eq_decide.2
    simp [e]
   rw [h1]
   have h2 : (i ∈ x :: R) ↔ i ∈ R := by
    rw [List.mem_cons]
    exact ⟨fun h => h.resolve_left (fun h => e h.symm), .inr⟩
   simp only [h2]
   omega
theorem freeN_cons {n i : Nat} {b : List Nat} (hi : i < n) (hb : i ∉ b) : freeN n (i :: b) < freeN n b := by
 have := countP_cons_lt b i hb (List.range n)
 rw [if_pos (by simpa using hi)] at this
 exact this
theorem expL_err (l : List Def) (sub : Nat → Res) (b : List Nat) (s : List UInt8) (hs : ∀ i, i < l.length → i ∉ b → sub i ≠ .error 0) : ∀ (L : List Ref) (at_ : Nat) (out : List UInt8), expL l sub b s L at_ out ≠ .error 0
 | [], at_, out => by
  rw [expL]
  split <;> (intro h; cases h)
 | r :: L, at_, out => by
  rw [expL]
  split
  ·intro h; cases h
  ·split
   ·intro h; cases h
   ·next i hi =>
    have hil : i < l.length := by
     unfold findM at hi
     rw [List.findIdx?_eq_some_iff_getElem] at hi
     exact hi.1
    split
    ·intro h; cases h
    ·next hb =>
     split
     ·next e he =>
      intro h
      injection h with h
      subst h
      exact hs i hil hb he
     ·exact expL_err l sub b s hs L _ _
theorem expM_err (l : List Def) (n : Nat) : ∀ (s : List UInt8) (b : List Nat), freeN l.length b < n → expM l n s b ≠ .error 0 := by
 induction n with
 | zero => intro s b h; omega
 | succ n ih =>
  intro s b h
  rw [expM]
  split
  ·intro h; cases h
  ·exact expL_err l _ b s (fun i hi hb => ih _ _ (by have := freeN_cons hi hb; omega)) _ _ _
end Lb
theorem wpq_load_bu {ops : Array Oper} {rest : List Oper} {o : Oper} {a : Act} {w : World} {Q : Act → Prop} (hgd : ∀ y, Region.wanted o y = true) (x : Operand) (ho : o.op = .load 75 x) (g : Nat) (hx : a.eval x = .pointer (some ⟨g, 0, none⟩)) (b : List Nat) (hg : w.heap[g]? = some (.cells (busA b) 75 (0, 0)))
  (h : wpQuiet Tryz.prog ops (fun w' => ∃ p : Regrown, w' = grow (redrawn w p.d) p.os) Q rest (a.put o.dst (.agg (busA b)))) : wpQuiet Tryz.prog ops (fun w' => ∃ p : Regrown, w' = grow (redrawn w p.d) p.os) Q (o :: rest) a := by
 obtain ⟨fs, hd⟩ := undBu2
 refine wpQuiet_step (fun K hK => ?_)
 rw [if_pos (hgd _)]
 refine ⟨_, ?_, hK _ h⟩
 rintro w' ⟨⟨d, os⟩, rfl⟩
 have hg' := ((below_regrown w d os).block g (Array.getElem?_eq_some_iff.1 hg).1).trans hg
 unfold Oper.quietAt execOp
 simp only [ho, hx, Instr.loadAt, Instr.sureAddr, Sem.run_bind, Sem.run_pure, Result.andThen_ok, run_loadVar_row (P := Tryz.prog) _ g 75 75 (busA b) (0, 0) _ hg' hd rfl (by rw [busA_size]; exact (zero_of_info infoBu).2)]
 exact ⟨rfl, rfl⟩
def expV : Lb.Res → Value
 | .ok t => .tuple #[.string ⟨t.toArray⟩, .int .i64 0]
 | .error e => .tuple #[.string ⟨#[]⟩, .int .i64 (e : Int)]
theorem infoBB2 : (Tryz.prog.info? 65).map (fun i => (i.zero, i.size)) = some (some (.agg #[.pointer none, .slice none 0 0]), 2) := by kernel_rfl
def RB (q : Nat) (r : Lb.Ref) (w : World) : Prop := w.heap[q]? = some (.cells #[.int .i64 (r.fr : Int), .int .i64 (r.to : Int), .string ⟨r.nm.toArray⟩, .string ⟨r.fd.toArray⟩] 83 (0, 0))
theorem RB.on {q : Nat} {r : Lb.Ref} {w w' : World} (h : RB q r w) (k : Below w.heap.size w w') : RB q r w' := (k.block q (Array.getElem?_eq_some_iff.1 h).1).trans h
theorem RB.bf {q g : Nat} {r : Lb.Ref} {w w' : World} (h : RB q r w) (k : BF g w w') (hn : q ≠ g) : RB q r w' := k.ot q _ h (fun e => hn (Option.some.inj e)) (by rintro c fz ⟨⟩)
end Go.Proofs.YtgcpinnnfoanjaaGreatDoor
namespace Go.Proofs.YtgcpinnnfoanjaaGreatDoor
open Go.RowKit Go.Sort
def ExpAt (l : List Lb.Def) (v : Value) (N : Nat) : Prop := ∀ (s : List UInt8) (b : List Nat) (w : World), KM w → DfAt w l v → s.length ≤ 900000 → Lb.freeN l.length b < N →
  Calls Tryz.prog 33 #[v, .string ⟨s.toArray⟩, .agg (busA b)] w fun e w' => e = .returned (expV (Lb.expM l N s b)) ∧ Below w.heap.size w w'
theorem ExpAt.zero (l : List Lb.Def) (v : Value) : ExpAt l v 0 := fun _ _ _ _ _ _ h => by omega
theorem stay_all {w w' : World} (h : Below w.heap.size w w') : Stay (fun _ => True) (fun _ => True) w w' := ⟨h.size, fun k _ hk => ⟨trivial, h.block k hk⟩⟩
set_option maxHeartbeats 16000000 in
set_option maxRecDepth 1000000 in
theorem ExpAt.succ (l : List Lb.Def) (v : Value) (hl40 : l.length ≤ 40) (hls : ∀ i (h : i < l.length), l[i].2.length ≤ 900000) (N : Nat) (ih : ExpAt l v N) : ExpAt l v (N + 1) := by
 intro s b w hk hdf hs hb
 have hv := (zero_of_info infoBB2).1
 have HK := Lib.hid hk
 have HD := Lib.hid hdf
 have HFR := Lib.hid hb
 obtain ⟨R, hR⟩ : ∃ R, Lb.expM l (N + 1) s b = R := ⟨_, rfl⟩
 have HX : Hid (R = match Lb.refsM s with | none => .error 1 | some L => Lb.expL l (fun i => Lb.expM l N (Lb.srcOf l i) (i :: b)) b s L 0 []) := Lib.hid (by rw [← hR, Lb.expM]; cases Lb.refsM s <;> rfl)
 rw [hR]
 have HSL : Hid (∀ i (h : i < l.length), l[i].2.length ≤ 900000) := Lib.hid hls
 have hd2 := hdf
 obtain ⟨va, vc, rfl, hvl, hvk⟩ := hd2
 have HVK := Lib.hid hvk
 have HIH := Lib.hid ih
 have HB0 : Hid (w.heap.size < (w.alloc (.cells (busA b) 75)).heap.size ∧ Below w.heap.size w (w.alloc (.cells (busA b) 75))) := Lib.hid ⟨by simp, alb w _⟩
 have HBX0 : Hid ((w.alloc (.cells (busA b) 75)).heap[w.heap.size]? = some (.cells (busA b) 75 (0, 0))) := Lib.hid (heap_alloc_new w _)
 have HRF := Lib.hid (refs_any s (w.alloc (.cells (busA b) 75)) (hk.below (alb w _)) hs)
 clear hk hdf hb hR hvk ih hls
 go_enter Tryz.func33, Tryz.ntmps33
 go_wp2_with fail
 refine HRF.out.mono ?_
 rintro e w1 ⟨hb1, hm⟩
 have HB1 := Lib.hid (HB0.out.2.trans (hb1.mono HB0.out.2.size))
 have HBX1 := Lib.hid ((hb1.block _ HB0.out.1).trans HBX0.out)
 have HG : Hid (w.heap.size < w1.heap.size) := Lib.hid (Nat.lt_of_lt_of_le HB0.out.1 hb1.size)
 clear hb1 HRF HB0 HBX0
 cases hq : Lb.refsM s with
 | none =>
  rw [hq] at hm HX
  subst hm
  dsimp only at HX
  clear hq
  go_wp2_with fail
  go_ret2
  exact ⟨by rw [HX.out]; rfl, HB1.out⟩
 | some L =>
  rw [hq] at hm HX
  dsimp only at HX
  obtain ⟨lv, rfl, hor⟩ := hm
  have HPOS := Lib.hid (Lb.rfs_pos s _ 0 L (Nat.zero_le _) hq)
  clear hq
  have HRW := Lib.hid (hor.rw (F := fun _ => True) (fun _ _ => trivial))
  obtain ⟨ra, rc, rfl, ⟨hLl, _⟩, _⟩ := HRW.out
  clear hor
  go_wp2_with fail
  go_loopw [28, 11] (fun i at_ wr => ∃ (k a : Nat) (out : List UInt8), i = .int .i64 k ∧ at_ = .int .i64 a ∧ k ≤ L.length ∧ out.length ≤ 1000000 ∧ Hid (Lb.PosOk s.length (L.drop k) a) ∧ Hid (Lb.expL l (fun i => Lb.expM l N (Lb.srcOf l i) (i :: b)) b s (L.drop k) a out = R) ∧ Hid (BW w1.heap.size out wr) ∧ Hid (Below w1.heap.size w1 wr)) (fun i _ _ => L.length - (intOf i).toNat)
  case atStart => exact ⟨0, 0, [], rfl, rfl, Nat.zero_le _, by simp, HPOS, Lib.hid HX.out.symm, Lib.hid (BW.new w1), Lib.hid (alb w1 _)⟩
  case round =>
   obtain ⟨k, a, out, rfl, rfl, hkL, hout, HP, HR, HW, HB⟩ := hrel
   have HBL := Lib.hid (HB1.out.trans (HB.out.mono HB1.out.size))
   clear HPOS HX
   by_cases hkl : k < L.length
   ·have hcL : L.drop k = L[k] :: L.drop (k + 1) := List.drop_eq_getElem_cons hkl
    obtain ⟨ra', rc', eqv, _, hrows⟩ := HRW.out.go (stay_all HB.out) (fun _ _ h => h) (R' := RfR)
    obtain ⟨rfl, rfl⟩ : ra' = ra ∧ rc' = rc := by injection eqv with h1 _ h2; exact ⟨h1.symm, h2.symm⟩
    obtain ⟨blk, off, rfl, hbl, _, hus⟩ := hrows (by omega)
    obtain ⟨us, _, hcell, hru⟩ := hus k hkl
    obtain ⟨r, hr⟩ : ∃ r, L[k] = r := ⟨_, rfl⟩
    rw [hr] at hru hcL
    unfold RfR at hru
    subst hru
    have c0 := hcell 0 (by omega)
    have c1 := hcell 1 (by omega)
    have c2 := hcell 2 (by omega)
    have c3 := hcell 3 (by omega)
    simp only [List.getElem?_cons_zero, List.getElem?_cons_succ, Nat.add_zero] at c0 c1 c2 c3
    rw [hcL] at HP HR
    obtain ⟨p1, p2, p3, p4, hpos⟩ := HP.out
    have HP2 := Lib.hid hpos
    have i1 : (k : Int) < (L.length : Int) := by omega
    have i2 : (0 : Int) ≤ (k : Int) := by omega
    have hw1 : IntKind.i64.wrap ((k : Int) + 1) = (k : Int) + 1 := IntWalk.i64_in _ (by omega)
    have hgl := HW.out.lt
    have HQ : Hid (RB wr.heap.size r (wr.alloc (.cells #[.int .i64 (r.fr : Int), .int .i64 (r.to : Int), .string ⟨r.nm.toArray⟩, .string ⟨r.fd.toArray⟩] 83))) := Lib.hid (heap_alloc_new wr _)
    have HWA := Lib.hid (HW.out.on (alb wr (.cells #[.int .i64 (r.fr : Int), .int .i64 (r.to : Int), .string ⟨r.nm.toArray⟩, .string ⟨r.fd.toArray⟩] 83)))
    have HBA := Lib.hid (HB.out.trans ((alb wr (.cells #[.int .i64 (r.fr : Int), .int .i64 (r.to : Int), .string ⟨r.nm.toArray⟩, .string ⟨r.fd.toArray⟩] 83)).mono HB.out.size))
    have HQN : Hid (wr.heap.size ≠ w1.heap.size) := Lib.hid (by omega)
    clear hcell hus hrows eqv hcL hr hpos HP HW
    have x1 : (ByteArray.mk s.toArray).extract a r.fr = ⟨((s.drop a).take (r.fr - a)).toArray⟩ := Asc.extract_seg s a r.fr
    have hdl : ((s.drop a).take (r.fr - a)).length ≤ s.length := by rw [List.length_take, List.length_drop]; omega
    have i3 : (a : Int) ≤ (r.fr : Int) := by omega
    have i4 : (0 : Int) ≤ (a : Int) := by omega
    have i5 : (r.fr : Int) ≤ (s.length : Int) := by omega
    obtain ⟨sg, hsg⟩ : ∃ sg, (s.drop a).take (r.fr - a) = sg := ⟨_, rfl⟩
    rw [hsg] at x1 hdl
    have HR1 := Lib.hid (HR.out)
    rw [Lb.expL, hsg] at HR1
    clear hsg HR
    go_wp2_with fail
    refine (bstr_any w1.heap.size out sg _ HWA.out (by omega) (by omega)).mono ?_
    rintro e w2 ⟨rfl, hw2, hf2⟩
    have HW2 := Lib.hid hw2
    have HB2 := Lib.hid (HBA.out.trans hf2.bl)
    have HQ2 := Lib.hid (HQ.out.bf hf2 HQN.out)
    clear hw2 hf2 HWA HBA HB HBL HQ c0 c1 c2 c3
    obtain ⟨o2, ho2⟩ : ∃ o2, out ++ sg = o2 := ⟨_, rfl⟩
    rw [ho2] at HR1 HW2
    have hol : o2.length ≤ 10000000 := by rw [← ho2, List.length_append]; omega
    clear ho2 x1
    have c2 : w2.cell? ⟨wr.heap.size, 2, none⟩ = some (.string ⟨r.nm.toArray⟩) := Lib.cell_of_heap HQ2.out 2
    have HDf := Lib.hid (HD.out.later (HB1.out.trans (HB2.out.mono HB1.out.size)))
    go_wp2_with fail
    refine (find_any l r.nm _ _ HDf.out).mono ?_
    rintro e w3 ⟨rfl, hb3⟩
    have HB3 := Lib.hid (HB2.out.trans (hb3.mono HB2.out.size))
    have HW3 := Lib.hid (HW2.out.on hb3)
    have HQ3 := Lib.hid (HQ2.out.on hb3)
    clear hb3 HB2 HW2 HQ2 c2 HDf
    go_wp2_with fail
    refine (blen_any w1.heap.size o2 _ HW3.out).mono ?_
    rintro e w4 ⟨rfl, rfl⟩
    by_cases h4 : 400 < o2.length
    ·rw [if_pos h4] at HR1
     have z2 : decide ((400 : Int) < (o2.length : Int)) = true := decide_eq_true (by omega)
     have y2 : decide (400 < o2.length) = true := decide_eq_true h4
     have HBL3 := Lib.hid (HB1.out.trans (HB3.out.mono HB1.out.size))
     go_wp2_with fail
     go_ret2
     exact ⟨by rw [← HR1.out]; rfl, HBL3.out⟩
    ·rw [if_neg h4] at HR1
     have z2 : decide ((400 : Int) < (o2.length : Int)) = false := decide_eq_false (by omega)
     have y2 : decide (400 < o2.length) = false := decide_eq_false h4
     cases hfm : Lb.findM l r.nm with
     | none =>
      rw [hfm] at HR1
      have HBL3 := Lib.hid (HB1.out.trans (HB3.out.mono HB1.out.size))
      go_wp2_with fail
      go_ret2
      exact ⟨by rw [← HR1.out]; rfl, HBL3.out⟩
     | some i =>
      rw [hfm] at HR1
      have hil := Lb.findM_lt hfm
      have HFM := Lib.hid hfm
      clear hfm
      dsimp only at HR1
      have hbx : w3.heap[w.heap.size]? = some (.cells (busA b) 75 (0, 0)) := (HB3.out.block _ HG.out).trans HBX1.out
      go_wp2_with (refine wpl_load_bu rfl _ rfl w.heap.size rfl b hbx ?_)
      refine (has_any b i (by omega) _).mono ?_
      rintro e w4 ⟨rfl, hb4⟩
      have HB4 := Lib.hid (HB3.out.trans (hb4.mono HB3.out.size))
      have HW4 := Lib.hid (HW3.out.on hb4)
      have HQ4 := Lib.hid (HQ3.out.on hb4)
      have HBL4 := Lib.hid (HB1.out.trans (HB4.out.mono HB1.out.size))
      clear hb4 HB3 HW3 HQ3 hbx
      by_cases hib : i ∈ b
      ·rw [if_pos hib] at HR1
       have z3 : decide (i ∈ b) = true := decide_eq_true hib
       go_wp2_with fail
       go_ret2
       exact ⟨by rw [← HR1.out]; rfl, HBL4.out⟩
      ·rw [if_neg hib] at HR1
       have z3 : decide (i ∈ b) = false := decide_eq_false hib
       have hbx : w4.heap[w.heap.size]? = some (.cells (busA b) 75 (0, 0)) := (HB4.out.block _ HG.out).trans HBX1.out
       obtain ⟨vb, vo, rfl, hvl2, _, d1⟩ := HVK.out i hil
       have k1 := cell_regrown ((HBL4.out.cell (p := ⟨vb, vo + i * 2 + 1, none⟩) hvl2).trans d1)
       have HI := Lib.hid (fun W hW => HIH.out (Lb.srcOf l i) (i :: b) W (HK.out.below hW) (HD.out.later hW) (by rw [Lb.srcOf_at l hil]; exact HSL.out i hil) (by have := Lb.freeN_cons hil hib; have := HFR.out; omega))
       have HSO := Lib.hid (Lb.srcOf_at l hil)
       have hnz := Lb.expM_err l N (Lb.srcOf l i) (i :: b) (by have := Lb.freeN_cons hil hib; have := HFR.out; omega)
       obtain ⟨sub, hsub⟩ : ∃ sub, Lb.expM l N (Lb.srcOf l i) (i :: b) = sub := ⟨_, rfl⟩
       have hlen := fun t h => Lb.expM_len l N (Lb.srcOf l i) (i :: b) t h
       rw [hsub] at HR1 HI hnz hlen
       rw [HSO.out] at HI
       obtain ⟨src, hsrc⟩ : ∃ src, l[i].2 = src := ⟨_, rfl⟩
       rw [hsrc] at HI k1
       have i6 : (i : Int) < (l.length : Int) := by omega
       have i7 : (0 : Int) ≤ (i : Int) := by omega
       clear hsub hsrc HSO d1
       cases hsb : sub with
       | error e5 =>
        rw [hsb] at HR1 HI hnz
        dsimp only [expV] at HR1 HI
        have hne : ((e5 : Int) == 0) = false := by rw [beq_eq_false_iff_ne]; intro h; exact hnz (by congr 1; omega)
        clear hnz hlen hsb
        go_wp2_with fail
        refine wp_region_quiet_below (by kernel_rfl) (by kernel_rfl) ?_
        iterate 6 (first | go_big_quiet_step (fail) | quiet_step (fail))
        refine wpq_load_bu (fun _ => rfl) _ rfl w.heap.size rfl b hbx ?_
        iterate 1 (first | go_big_quiet_step (fail) | quiet_step (fail))
        quiet_step ((go_at_call 52; exact Calls.regrown_of (bwith_any b i (by omega) _)))
        quiet_step ((go_at_call 33; exact Calls.regrown_of (HI.out _ (HBL4.out.trans ((below_regrown _ _ _).mono HBL4.out.size)))))
        iterate 5 (first | go_big_quiet_step (fail) | quiet_step (fail))
        refine wpQuiet_nil ?_
        clear k1 hbx
        rintro _ ⟨⟨dq, osq⟩, rfl⟩
        have hbq := below_regrown w4 dq osq
        obtain ⟨w5, hw5⟩ : ∃ W, grow (redrawn w4 dq) osq = W := ⟨_, rfl⟩
        rw [hw5] at hbq
        have HB5 := Lib.hid (HB4.out.trans (hbq.mono HB4.out.size))
        have HW5 := Lib.hid (HW4.out.on hbq)
        have HQ5 := Lib.hid (HQ4.out.on hbq)
        have HBL5 := Lib.hid (HB1.out.trans (HB5.out.mono HB1.out.size))
        clear hbq HB4 HW4 HQ4 HBL4
        dsimp only
        rw [hw5]
        clear hw5
        go_wp2_with fail
        go_ret2
        exact ⟨by rw [← HR1.out]; rfl, HBL5.out⟩
       | ok t =>
        rw [hsb] at HR1 HI
        dsimp only [expV] at HR1 HI
        have htl := hlen t hsb
        clear hnz hlen hsb
        go_wp2_with fail
        refine wp_region_quiet_below (by kernel_rfl) (by kernel_rfl) ?_
        iterate 6 (first | go_big_quiet_step (fail) | quiet_step (fail))
        refine wpq_load_bu (fun _ => rfl) _ rfl w.heap.size rfl b hbx ?_
        iterate 1 (first | go_big_quiet_step (fail) | quiet_step (fail))
        quiet_step ((go_at_call 52; exact Calls.regrown_of (bwith_any b i (by omega) _)))
        quiet_step ((go_at_call 33; exact Calls.regrown_of (HI.out _ (HBL4.out.trans ((below_regrown _ _ _).mono HBL4.out.size)))))
        iterate 5 (first | go_big_quiet_step (fail) | quiet_step (fail))
        refine wpQuiet_nil ?_
        clear k1 hbx
        rintro _ ⟨⟨dq, osq⟩, rfl⟩
        have hbq := below_regrown w4 dq osq
        obtain ⟨w5, hw5⟩ : ∃ W, grow (redrawn w4 dq) osq = W := ⟨_, rfl⟩
        rw [hw5] at hbq
        have HB5 := Lib.hid (HB4.out.trans (hbq.mono HB4.out.size))
        have HW5 := Lib.hid (HW4.out.on hbq)
        have HQ5 := Lib.hid (HQ4.out.on hbq)
        have HBL5 := Lib.hid (HB1.out.trans (HB5.out.mono HB1.out.size))
        clear hbq HB4 HW4 HQ4 HBL4
        dsimp only
        rw [hw5]
        clear hw5
        go_wp2_with fail
        refine (bbyte_any w1.heap.size o2 40 _ HW5.out hol).mono ?_
        rintro e w6 ⟨rfl, hw6, hf6⟩
        have HW6 := Lib.hid hw6
        have HB6 := Lib.hid (HB5.out.trans hf6.bl)
        have HQ6 := Lib.hid (HQ5.out.bf hf6 HQN.out)
        clear hw6 hf6 HW5 HB5 HQ5 HBL5
        have c3 : w6.cell? ⟨wr.heap.size, 3, none⟩ = some (.string ⟨r.fd.toArray⟩) := Lib.cell_of_heap HQ6.out 3
        have x3 : ByteArray.mk t.toArray ++ ByteArray.mk #[41] = ⟨(t ++ [41]).toArray⟩ := ba_app t [41]
        have HFL : Hid ((Lb.fldL r.fd).length ≤ 900001) := Lib.hid (by unfold Lb.fldL; split <;> simp <;> omega)
        by_cases hfd : r.fd = []
        ·rw [hfd] at c3
         have HFD := hfd
         have HW7 := HW6
         have HB7 := HB6
         have HQ7 := HQ6
         clear HW6 HB6 HQ6
         clear hfd
         go_wp2_with fail
         refine (bstr_any w1.heap.size (o2 ++ [40]) (t ++ [41]) _ HW7.out (by rw [List.length_append, List.length_singleton]; omega) (by rw [List.length_append, List.length_singleton]; omega)).mono ?_
         rintro e w8 ⟨rfl, hw8, hf8⟩
         have HW8 : Hid (BW w1.heap.size (o2 ++ 40 :: (Lb.fldL r.fd ++ t ++ [41])) w8) := Lib.hid (by have := hw8; simpa [Lb.fldL, HFD] using this)
         have HB8 := Lib.hid (HB7.out.trans hf8.bl)
         have HQ8 := Lib.hid (HQ7.out.bf hf8 HQN.out)
         clear hw8 hf8 HW7 HB7 HQ7
         have c1 : w8.cell? ⟨wr.heap.size, 1, none⟩ = some (.int .i64 (r.to : Int)) := Lib.cell_of_heap HQ8.out 1
         clear x3
         go_wp2_with fail
         refine ⟨⟨k + 1, r.to, o2 ++ 40 :: (Lb.fldL r.fd ++ t ++ [41]), by go_num, rfl, by omega, ?_, HP2, HR1, HW8, HB8⟩, by simp [intOf]; omega⟩
         rw [List.length_append, List.length_cons, List.length_append, List.length_append, List.length_singleton]
         have := HFL.out
         omega
        ·have HFD := hfd
         have e2 : r.fd.isEmpty = false := by cases hq : r.fd with | nil => exact absurd hq hfd | cons x y => rfl
         have x2 : ByteArray.mk r.fd.toArray ++ ByteArray.mk #[58] = ⟨(r.fd ++ [58]).toArray⟩ := ba_app r.fd [58]
         clear hfd
         go_wp2_with fail
         refine (bstr_any w1.heap.size (o2 ++ [40]) (r.fd ++ [58]) _ HW6.out (by rw [List.length_append, List.length_singleton]; omega) (by rw [List.length_append, List.length_singleton]; omega)).mono ?_
         rintro e w7 ⟨rfl, hw7, hf7⟩
         have HW7 := Lib.hid hw7
         have HB7 := Lib.hid (HB6.out.trans hf7.bl)
         have HQ7 := Lib.hid (HQ6.out.bf hf7 HQN.out)
         clear hw7 hf7 HW6 HB6 HQ6 c3 e2 x2
         go_wp2_with fail
         refine (bstr_any w1.heap.size (o2 ++ [40] ++ (r.fd ++ [58])) (t ++ [41]) _ HW7.out (by rw [List.length_append, List.length_append, List.length_append, List.length_singleton, List.length_singleton]; omega) (by rw [List.length_append, List.length_singleton]; omega)).mono ?_
         rintro e w8 ⟨rfl, hw8, hf8⟩
         have HW8 : Hid (BW w1.heap.size (o2 ++ 40 :: (Lb.fldL r.fd ++ t ++ [41])) w8) := Lib.hid (by have := hw8; simpa [Lb.fldL, HFD] using this)
         have HB8 := Lib.hid (HB7.out.trans hf8.bl)
         have HQ8 := Lib.hid (HQ7.out.bf hf8 HQN.out)
         clear hw8 hf8 HW7 HB7 HQ7
         have c1 : w8.cell? ⟨wr.heap.size, 1, none⟩ = some (.int .i64 (r.to : Int)) := Lib.cell_of_heap HQ8.out 1
         clear x3
         go_wp2_with fail
         refine ⟨⟨k + 1, r.to, o2 ++ 40 :: (Lb.fldL r.fd ++ t ++ [41]), by go_num, rfl, by omega, ?_, HP2, HR1, HW8, HB8⟩, by simp [intOf]; omega⟩
         rw [List.length_append, List.length_cons, List.length_append, List.length_append, List.length_singleton]
         have := HFL.out
         omega
   ·have z1 : decide ((k : Int) < (L.length : Int)) = false := decide_eq_false (by omega)
    have y1 : decide (k < L.length) = false := decide_eq_false hkl
    have hdn : L.drop k = [] := List.drop_eq_nil_of_le (by omega)
    rw [hdn] at HP HR
    have hal : a ≤ s.length := HP.out
    have HR2 : Hid (R = if 400 < (out ++ s.drop a).length then .error 3 else .ok (out ++ s.drop a)) := Lib.hid (by rw [← HR.out, Lb.expL])
    have x1 : (ByteArray.mk s.toArray).extract a s.length = ⟨(s.drop a).toArray⟩ := ext_drop s a
    have hdl : (s.drop a).length = s.length - a := List.length_drop
    clear HP HR hdn
    go_wp2_with fail
    refine (bstr_any w1.heap.size out (s.drop a) _ HW.out (by omega) (by omega)).mono ?_
    rintro e w2 ⟨rfl, hw2, hf2⟩
    have HW2 := Lib.hid hw2
    have HB2 := Lib.hid (HB.out.trans (hf2.bl))
    have HBL2 := Lib.hid (HB1.out.trans (HB2.out.mono HB1.out.size))
    clear hw2 hf2 HW HB HBL
    obtain ⟨o2, ho2⟩ : ∃ o2, out ++ s.drop a = o2 := ⟨_, rfl⟩
    rw [ho2] at HR2 HW2
    have hol : o2.length ≤ 10000000 := by rw [← ho2, List.length_append]; omega
    clear ho2 x1
    go_wp2_with fail
    refine (blen_any w1.heap.size o2 _ HW2.out).mono ?_
    rintro e w3 ⟨rfl, rfl⟩
    by_cases h4 : 400 < o2.length
    ·rw [if_pos h4] at HR2
     have z2 : decide ((400 : Int) < (o2.length : Int)) = true := decide_eq_true (by omega)
     have y2 : decide (400 < o2.length) = true := decide_eq_true h4
     go_wp2_with fail
     go_ret2
     exact ⟨by rw [HR2.out]; rfl, HBL2.out⟩
    ·rw [if_neg h4] at HR2
     have z2 : decide ((400 : Int) < (o2.length : Int)) = false := decide_eq_false (by omega)
     have y2 : decide (400 < o2.length) = false := decide_eq_false h4
     go_wp2_with fail
     refine (bstring_any w1.heap.size o2 _ HW2.out).mono ?_
     rintro e w3 ⟨rfl, hb3⟩
     have HBL3 := Lib.hid (HB1.out.trans ((HB2.out.trans hb3).mono HB1.out.size))
     clear hb3
     go_wp2_with fail
     go_ret2
     exact ⟨by rw [HR2.out]; rfl, HBL3.out⟩
end Go.Proofs.YtgcpinnnfoanjaaGreatDoor

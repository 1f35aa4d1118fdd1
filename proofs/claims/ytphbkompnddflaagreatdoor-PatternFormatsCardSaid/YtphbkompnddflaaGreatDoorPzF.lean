/-
  The complement of a set of bytes, the union of two; what follows an opening bracket.
-/
import Derived.Test.YtphbkompnddflaaGreatDoorPatYh
import Derived.Laws.Rows
namespace Go.Proofs.YtphbkompnddflaaGreatDoor
open Go.RowKit

/-- The cells below k are done. -/
def mixF (g f : Nat → Bool) (k j : Nat) : Bool := if j < k then g j else f j
theorem mixF_none (g f : Nat → Bool) : setA (mixF g f 0) = setA f := setA_congr fun i _ => by simp [mixF]
theorem mixF_all (g f : Nat → Bool) : setA (mixF g f 256) = setA g := setA_congr fun i h => by simp [mixF, h]
theorem mixF_succ (g f : Nat → Bool) (k : Nat) : setA (fun j => if j = k then g k else mixF g f k j) = setA (mixF g f (k + 1)) := setA_congr fun i _ => by
  unfold mixF
  by_cases e : i = k
  · subst e
    simp
  · rw [if_neg e]
    by_cases h : i < k
    · rw [if_pos h, if_pos (by omega)]
    · rw [if_neg h, if_neg (by omega)]
/-- A set in a block. -/
def SB (b : Nat) (f : Nat → Bool) (w : World) : Prop := w.heap[b]? = some (.cells (setA f) 94 (0, 0))
theorem SB.cell {b : Nat} {f : Nat → Bool} {w : World} (h : SB b f w) {i : Nat} (hi : i < 256) : w.cell? ⟨b, i, none⟩ = some (.bool (f i)) := by
  rw [cell_of_row _ _ _ _ _ _ h]
  exact setA_at f hi
theorem SB.lt {b : Nat} {f : Nat → Bool} {w : World} (h : SB b f w) : b < w.heap.size := (Array.getElem?_eq_some_iff.1 h).1
theorem SB.fz {b : Nat} {f : Nat → Bool} {w : World} (h : SB b f w) (i : Nat) : w.frozen? ⟨b, i, none⟩ = false := Lib.frozen_of_heap h i
theorem SB.set {b : Nat} {f : Nat → Bool} {w : World} (h : SB b f w) (k : Nat) (x : Bool) : SB b (fun j => if j = k then x else f j) (w.setCell ⟨b, k, none⟩ (.bool x)) := by
  unfold SB
  rw [← setA_set]
  exact heap_setCell_same w b k _ _ _ h
theorem SB.other {b b' : Nat} {f : Nat → Bool} {w : World} (h : SB b f w) (k : Nat) (v : Value) (hn : b ≠ b') : SB b f (w.setCell ⟨b', k, none⟩ v) := (heap_setCell_other w ⟨b', k, none⟩ b v hn).trans h
theorem SB.on {b B : Nat} {f : Nat → Bool} {w w' : World} (h : SB b f w) (k : Below B w w') (hb : b < B) : SB b f w' := (k.block b hb).trans h
theorem SB.go {b g : Nat} {f : Nat → Bool} {w w' : World} (h : SB b f w) (k : Apart g w w') (hb : b ≠ g) : SB b f w' := (k.block hb h.lt).trans h
theorem SB.eq {b : Nat} {f g : Nat → Bool} {w : World} (h : SB b f w) (e : setA f = setA g) : SB b g w := by unfold SB; rw [← e]; exact h
theorem SB.new (w : World) (f : Nat → Bool) : SB w.heap.size f (w.alloc (.cells (setA f) 94)) := heap_alloc_new w _

set_option maxHeartbeats 4000000 in
set_option maxRecDepth 1000000 in
theorem not_any (f : Nat → Bool) (w : World) : Calls Tryz.prog 53 #[.agg (setA f)] w fun e w' => e = .returned (.agg (setA (fun c => !f c))) ∧ Below w.heap.size w w' := by
  have hv := (zero_of_info infoS).1
  go_enter Tryz.func53, Tryz.ntmps53
  go_wp2
  rw [← setA_false]
  have H0 : Hid (SB w.heap.size (mixF (fun c => !f c) f 0) ((w.alloc (.cells (setA f) 94)).alloc (.cells (setA (fun _ => false)) 94))) := Lib.hid (((SB.new w f).on (al_below _ _) (by simp)).eq (mixF_none _ _).symm)
  have H1 : Hid (SB (w.heap.size + 1) (fun _ => false) ((w.alloc (.cells (setA f) 94)).alloc (.cells (setA (fun _ => false)) 94))) := Lib.hid (by have := SB.new (w.alloc (.cells (setA f) 94)) (fun _ => false); simpa using this)
  have HB : Hid (Below w.heap.size w ((w.alloc (.cells (setA f) 94)).alloc (.cells (setA (fun _ => false)) 94))) := Lib.hid ((al_below w _).trans ((al_below _ _).mono (by simp)))
  go_loopw [4] (fun i wr => ∃ (k : Nat), i = .int .i64 k ∧ k ≤ 256 ∧ Hid (SB w.heap.size (mixF (fun c => !f c) f k) wr) ∧ Hid (SB (w.heap.size + 1) (fun _ => false) wr) ∧ Hid (Below w.heap.size w wr)) (fun i _ => 256 - (intOf i).toNat)
  case atStart => exact ⟨0, rfl, by omega, H0, H1, HB⟩
  case round =>
    obtain ⟨k, rfl, hk, HS, HR, HBL⟩ := hrel
    clear H0 H1 HB
    by_cases hle : k < 256
    · have z1 : decide ((k : Int) < 256) = true := decide_eq_true (by omega)
      have y1 : decide (k < 256) = true := decide_eq_true hle
      have i1 : (k : Int) < 256 := by omega
      have i2 : (0 : Int) ≤ (k : Int) := by omega
      have hw1 : IntKind.i64.wrap ((k : Int) + 1) = (k : Int) + 1 := IntWalk.i64_in _ (by omega)
      have hc : wr.cell? ⟨w.heap.size, k, none⟩ = some (.bool (f k)) := by
        rw [HS.out.cell hle]
        simp [mixF]
      have hf := HS.out.fz k
      go_wp2
      refine ⟨⟨k + 1, by go_num, by omega, Lib.hid ((HS.out.set k (!f k)).eq (mixF_succ (fun c => !f c) f k)), Lib.hid (HR.out.other k _ (by simp)), Lib.hid (HBL.out.setCell (p := ⟨w.heap.size, k, none⟩) (Nat.le_refl _) _)⟩, by simp [intOf]; omega⟩
    · have z1 : decide ((k : Int) < 256) = false := decide_eq_false (by omega)
      have y1 : decide (k < 256) = false := decide_eq_false hle
      obtain rfl : k = 256 := by omega
      have hs := HS.out.eq (mixF_all (fun c => !f c) f)
      obtain ⟨w4, e4, h4, hb4, e4'⟩ := put_set2 HR.out (fun c => !f c)
      have HB4 := Lib.hid (HBL.out.trans (hb4.mono (Nat.le_succ _)))
      clear hb4 HS
      go_wp2_with fail
      refine wp_load_set _ rfl w.heap.size rfl _ _ hs ?_
      go_wp2_with fail
      exact ret_set rfl h4 rfl rfl ⟨rfl, HB4.out⟩
set_option maxHeartbeats 4000000 in
set_option maxRecDepth 1000000 in
theorem with_any (f g : Nat → Bool) (w : World) : Calls Tryz.prog 51 #[.agg (setA f), .agg (setA g)] w fun e w' => e = .returned (.agg (setA (fun c => f c || g c))) ∧ Below w.heap.size w w' := by
  have hv := (zero_of_info infoS).1
  go_enter Tryz.func51, Tryz.ntmps51
  go_wp2
  rw [← setA_false]
  have hb1 := al_below w (.cells (setA f) 94)
  have hb2 := al_below (w.alloc (.cells (setA f) 94)) (.cells (setA g) 94)
  have hb3 := al_below ((w.alloc (.cells (setA f) 94)).alloc (.cells (setA g) 94)) (.cells (setA (fun _ => false)) 94)
  obtain ⟨w0, hw0⟩ : ∃ w0, ((w.alloc (.cells (setA f) 94)).alloc (.cells (setA g) 94)).alloc (.cells (setA (fun _ => false)) 94) = w0 := ⟨_, rfl⟩
  have H0 : Hid (SB w.heap.size (mixF (fun c => f c || g c) f 0) w0) := Lib.hid (by rw [← hw0]; exact ((((SB.new w f).on hb2 (by simp)).on hb3 (by simp; omega)).eq (mixF_none _ _).symm))
  have H1 : Hid (SB (w.heap.size + 1) g w0) := Lib.hid (by
    have := SB.new (w.alloc (.cells (setA f) 94)) g
    rw [← hw0]
    exact SB.on (by simpa using this) hb3 (by simp))
  have H2 : Hid (SB (w.heap.size + 1 + 1) (fun _ => false) w0) := Lib.hid (by
    have := SB.new ((w.alloc (.cells (setA f) 94)).alloc (.cells (setA g) 94)) (fun _ => false)
    rw [← hw0]
    simpa using this)
  have HB : Hid (Below w.heap.size w w0) := Lib.hid (by rw [← hw0]; exact hb1.trans ((hb2.trans (hb3.mono hb2.size)).mono hb1.size))
  rw [hw0]
  clear hb1 hb2 hb3 hw0
  go_loopw [6] (fun i wr => ∃ (k : Nat), i = .int .i64 k ∧ k ≤ 256 ∧ Hid (SB w.heap.size (mixF (fun c => f c || g c) f k) wr) ∧ Hid (SB (w.heap.size + 1) g wr) ∧ Hid (SB (w.heap.size + 1 + 1) (fun _ => false) wr) ∧ Hid (Below w.heap.size w wr)) (fun i _ => 256 - (intOf i).toNat)
  case atStart => exact ⟨0, rfl, by omega, H0, H1, H2, HB⟩
  case round =>
    obtain ⟨k, rfl, hk, HS, HT, HR, HBL⟩ := hrel
    clear H0 H1 H2 HB
    by_cases hle : k < 256
    · have z1 : decide ((k : Int) < 256) = true := decide_eq_true (by omega)
      have y1 : decide (k < 256) = true := decide_eq_true hle
      have i1 : (k : Int) < 256 := by omega
      have i2 : (0 : Int) ≤ (k : Int) := by omega
      have hw1 : IntKind.i64.wrap ((k : Int) + 1) = (k : Int) + 1 := IntWalk.i64_in _ (by omega)
      have hc : wr.cell? ⟨w.heap.size, k, none⟩ = some (.bool (f k)) := by
        rw [HS.out.cell hle]
        simp [mixF]
      have hd : wr.cell? ⟨w.heap.size + 1, k, none⟩ = some (.bool (g k)) := HT.out.cell hle
      have hf := HS.out.fz k
      have HX := Lib.hid (fun (x : Bool) (hx : (f k || g k) = x) => ((HS.out.set k x).eq (by rw [← hx]; exact mixF_succ (fun c => f c || g c) f k) : SB w.heap.size (mixF (fun c => f c || g c) f (k + 1)) (wr.setCell ⟨w.heap.size, k, none⟩ (.bool x))))
      cases hfk : f k with
      | true =>
        rw [hfk] at hc HX
        have HX' := Lib.hid (HX.out true rfl)
        clear HX hfk
        go_wp2
        refine ⟨⟨k + 1, by go_num, by omega, HX', Lib.hid (HT.out.other k _ (by simp)), Lib.hid (HR.out.other k _ (by omega)), Lib.hid (HBL.out.setCell (p := ⟨w.heap.size, k, none⟩) (Nat.le_refl _) _)⟩, by simp [intOf]; omega⟩
      | false =>
        rw [hfk] at hc HX
        have HX' := Lib.hid (HX.out (g k) rfl)
        clear HX hfk
        go_wp2
        refine ⟨⟨k + 1, by go_num, by omega, HX', Lib.hid (HT.out.other k _ (by simp)), Lib.hid (HR.out.other k _ (by omega)), Lib.hid (HBL.out.setCell (p := ⟨w.heap.size, k, none⟩) (Nat.le_refl _) _)⟩, by simp [intOf]; omega⟩
    · have z1 : decide ((k : Int) < 256) = false := decide_eq_false (by omega)
      have y1 : decide (k < 256) = false := decide_eq_false hle
      obtain rfl : k = 256 := by omega
      have hs := HS.out.eq (mixF_all (fun c => f c || g c) f)
      obtain ⟨w4, e4, h4, hb4, e4'⟩ := put_set2 HR.out (fun c => f c || g c)
      have HB4 := Lib.hid (HBL.out.trans (hb4.mono (by omega)))
      clear hb4 HS
      go_wp2_with fail
      refine wp_load_set _ rfl w.heap.size rfl _ _ hs ?_
      go_wp2_with fail
      exact ret_set rfl h4 rfl rfl ⟨rfl, HB4.out⟩
/-- The load of a whole set, at the head of a list of operations. -/
theorem wpl_load_set {ops : Array Oper} {rest : List Oper} {o : Oper} {a : Act} {w : World} {Q : Exit → Act → World → Prop} (hgd : o.guard = none) (x : Operand) (ho : o.op = .load 94 x) (g : Nat) (hx : a.eval x = .pointer (some ⟨g, 0, none⟩)) (f : Nat → Bool) (hg : SB g f w)
    (h : wpList Tryz.prog ops Q rest (a.put o.dst (.agg (setA f))) w) : wpList Tryz.prog ops Q (o :: rest) a w :=
  wpList_plain hgd fun _ hK => wp_load_set x ho g hx f _ hg (hK _ _ h)
end Go.Proofs.YtphbkompnddflaaGreatDoor

/-
 Joined: PzF, PzM, PzA, PzB, PyA.
-/
import Derived.Test.YtmpbjaodgajnfaaGreatDoorEhP
import Derived.Laws.Rows
namespace Go.Proofs.YtmpbjaodgajnfaaGreatDoor
open Go.RowKit
def mixF (g f : Nat → Bool) (k j : Nat) : Bool := if j < k then g j else f j
theorem mixF_none (g f : Nat → Bool) : setA (mixF g f 0) = setA f := setA_congr fun i _ => by simp [mixF]
theorem mixF_all (g f : Nat → Bool) : setA (mixF g f 256) = setA g := setA_congr fun i h => by simp [mixF, h]
theorem mixF_succ (g f : Nat → Bool) (k : Nat) : setA (fun j => if j = k then g k else mixF g f k j) = setA (mixF g f (k + 1)) := setA_congr fun i _ => by
 unfold mixF
 by_cases e : i = k
 ·subst e
  simp
 ·rw [if_neg e]
  by_cases h : i < k
  ·rw [if_pos h, if_pos (by omega)]
  ·rw [if_neg h, if_neg (by omega)]
def SB (b : Nat) (f : Nat → Bool) (w : World) : Prop := w.heap[b]? = some (.cells (setA f) 213 (0, 0))
theorem SB.cell {b : Nat} {f : Nat → Bool} {w : World} (h : SB b f w) {i : Nat} (hi : i < 256) : w.cell? ⟨b, i, none⟩ = some (.bool (f i)) := by
 rw [cell_of_row _ _ _ _ _ _ h]
 exact setA_at f hi
theorem SB.lt {b : Nat} {f : Nat → Bool} {w : World} (h : SB b f w) : b < w.heap.size := (Array.getElem?_eq_some_iff.1 h).1
theorem SB.fz {b : Nat} {f : Nat → Bool} {w : World} (h : SB b f w) (i : Nat) : w.frozen? ⟨b, i, none⟩ = false := Lib.frozen_of_heap h i
theorem SB.set {b : Nat} {f : Nat → Bool} {w : World} (h : SB b f w) (k : Nat) (x : Bool) : SB b (fun j => if j = k then x else f j) (w.setCell ⟨b, k, none⟩ (.bool x)) := by
 unfold SB
 rw [← setA_set]
 exact heap_setCell_same w b k _ _ _ h
theorem SB.other {b b' : Nat} {f : Nat → Bool} {w : World} (h : SB b f w) (k : Nat) (v : Value) (hn : b ≠ b') : SB b f (w.setCell ⟨b', k, none⟩ v) := (heap_setCell_other w ⟨b', k, none⟩ b v hn).trans h
theorem SB.on {b B : Nat} {f : Nat → Bool} {w w' : World} (h : SB b f w) (k : Below B w w') (hb : b < B) : SB b f w' := (k.block b hb).trans h
theorem SB.go {b g : Nat} {f : Nat → Bool} {w w' : World} (h : SB b f w) (k : Apart g w w') (hb : b ≠ g) : SB b f w' := (k.block hb h.lt).trans h
theorem SB.eq {b : Nat} {f g : Nat → Bool} {w : World} (h : SB b f w) (e : setA f = setA g) : SB b g w := by unfold SB; rw [← e]; exact h
theorem SB.new (w : World) (f : Nat → Bool) : SB w.heap.size f (w.alloc (.cells (setA f) 213)) := heap_alloc_new w _
set_option maxHeartbeats 4000000 in
set_option maxRecDepth 1000000 in
theorem not_any (f : Nat → Bool) (w : World) : Calls Tryz.prog 150 #[.agg (setA f)] w fun e w' => e = .returned (.agg (setA (fun c => !f c))) ∧ Below w.heap.size w w' := by
 have hv := (zero_of_info infoS).1
 go_enter Tryz.func150, Tryz.ntmps150
 go_wp2
 rw [← setA_false]
 have H0 : Hid (SB w.heap.size (mixF (fun c => !f c) f 0) ((w.alloc (.cells (setA f) 213)).alloc (.cells (setA (fun _ => false)) 213))) := Lib.hid (((SB.new w f).on (al_below _ _) (by simp)).eq (mixF_none _ _).symm)
 have H1 : Hid (SB (w.heap.size + 1) (fun _ => false) ((w.alloc (.cells (setA f) 213)).alloc (.cells (setA (fun _ => false)) 213))) := Lib.hid (by have := SB.new (w.alloc (.cells (setA f) 213)) (fun _ => false); simpa using this)
 have HB : Hid (Below w.heap.size w ((w.alloc (.cells (setA f) 213)).alloc (.cells (setA (fun _ => false)) 213))) := Lib.hid ((al_below w _).trans ((al_below _ _).mono (by simp)))
 go_loopw [4] (fun i wr => ∃ (k : Nat), i = .int .i64 k ∧ k ≤ 256 ∧ Hid (SB w.heap.size (mixF (fun c => !f c) f k) wr) ∧ Hid (SB (w.heap.size + 1) (fun _ => false) wr) ∧ Hid (Below w.heap.size w wr)) (fun i _ => 256 - (intOf i).toNat)
 case atStart => exact ⟨0, rfl, by omega, H0, H1, HB⟩
 case round =>
  obtain ⟨k, rfl, hk, HS, HR, HBL⟩ := hrel
  clear H0 H1 HB
  by_cases hle : k < 256
  ·have z1 : decide ((k : Int) < 256) = true := decide_eq_true (by omega)
   have y1 : decide (k < 256) = true := decide_eq_true hle
   have i1 : (k : Int) < 256 := by omega
   have i2 : (0 : Int) ≤ (k : Int) := by omega
   have hw1 : IntKind.i64.wrap ((k : Int) + 1) = (k : Int) + 1 := IntWalk.i64_in _ (by omega)
   have hc : wr.cell? ⟨w.heap.size, k, none⟩ = some (.bool (f k)) := by
    rw [HS.out.cell hle]
    simp [mixF]
   have hf := HS.out.fz k
   go_wp2
   refine ⟨⟨k + 1, by go_num, by omega, Lib.hid ((HS.out.set k (!f k)).eq (mixF_succ (fun c => !f c) f k)), Lib.hid (HR.out.other k _ (by simp)), Lib.hid (HBL.out.setCell (p := ⟨w.heap.size, k, none⟩) (Nat.le_refl _) _)⟩, by simp [intOf]; omega⟩
  ·have z1 : decide ((k : Int) < 256) = false := decide_eq_false (by omega)
   have y1 : decide (k < 256) = false := decide_eq_false hle
   obtain rfl : k = 256 := by omega
   have hs := HS.out.eq (mixF_all (fun c => !f c) f)
   obtain ⟨w4, e4, h4, hb4, e4'⟩ := put_set2 HR.out (fun c => !f c)
   have HB4 := Lib.hid (HBL.out.trans (hb4.mono (Nat.le_succ _)))
   clear hb4 HS
   go_wp2_with fail
   refine wp_load_set _ rfl w.heap.size rfl _ _ hs ?_
   go_wp2_with fail
   exact ret_set rfl h4 rfl rfl ⟨rfl, HB4.out⟩
set_option maxHeartbeats 4000000 in
set_option maxRecDepth 1000000 in
theorem with_any (f g : Nat → Bool) (w : World) : Calls Tryz.prog 167 #[.agg (setA f), .agg (setA g)] w fun e w' => e = .returned (.agg (setA (fun c => f c || g c))) ∧ Below w.heap.size w w' := by
 have hv := (zero_of_info infoS).1
 go_enter Tryz.func167, Tryz.ntmps167
 go_wp2
 rw [← setA_false]
 have hb1 := al_below w (.cells (setA f) 213)
 have hb2 := al_below (w.alloc (.cells (setA f) 213)) (.cells (setA g) 213)
 have hb3 := al_below ((w.alloc (.cells (setA f) 213)).alloc (.cells (setA g) 213)) (.cells (setA (fun _ => false)) 213)
 obtain ⟨w0, hw0⟩ : ∃ w0, ((w.alloc (.cells (setA f) 213)).alloc (.cells (setA g) 213)).alloc (.cells (setA (fun _ => false)) 213) = w0 := ⟨_, rfl⟩
 have H0 : Hid (SB w.heap.size (mixF (fun c => f c || g c) f 0) w0) := Lib.hid (by rw [← hw0]; exact ((((SB.new w f).on hb2 (by simp)).on hb3 (by simp; omega)).eq (mixF_none _ _).symm))
 have H1 : Hid (SB (w.heap.size + 1) g w0) := Lib.hid (by
  have := SB.new (w.alloc (.cells (setA f) 213)) g
  rw [← hw0]
  exact SB.on (by simpa using this) hb3 (by simp))
 have H2 : Hid (SB (w.heap.size + 1 + 1) (fun _ => false) w0) := Lib.hid (by
  have := SB.new ((w.alloc (.cells (setA f) 213)).alloc (.cells (setA g) 213)) (fun _ => false)
  rw [← hw0]
  simpa using this)
 have HB : Hid (Below w.heap.size w w0) := Lib.hid (by rw [← hw0]; exact hb1.trans ((hb2.trans (hb3.mono hb2.size)).mono hb1.size))
 rw [hw0]
 clear hb1 hb2 hb3 hw0
 go_loopw [6] (fun i wr => ∃ (k : Nat), i = .int .i64 k ∧ k ≤ 256 ∧ Hid (SB w.heap.size (mixF (fun c => f c || g c) f k) wr) ∧ Hid (SB (w.heap.size + 1) g wr) ∧ Hid (SB (w.heap.size + 1 + 1) (fun _ => false) wr) ∧ Hid (Below w.heap.size w wr)) (fun i _ => 256 - (intOf i).toNat)
 case atStart => exact ⟨0, rfl, by omega, H0, H1, H2, HB⟩
 case round =>
  obtain ⟨k, rfl, hk, HS, HT, HR, HBL⟩ := hrel
  clear H0 H1 H2 HB
  by_cases hle : k < 256
  ·have z1 : decide ((k : Int) < 256) = true := decide_eq_true (by omega)
   have y1 : decide (k < 256) = true := decide_eq_true hle
   have i1 : (k : Int) < 256 := by omega
   have i2 : (0 : Int) ≤ (k : Int) := by omega
   have hw1 : IntKind.i64.wrap ((k : Int) + 1) = (k : Int) + 1 := IntWalk.i64_in _ (by omega)
   have hc : wr.cell? ⟨w.heap.size, k, none⟩ = some (.bool (f k)) := by
    rw [HS.out.cell hle]
    simp [mixF]
   have hd : wr.cell? ⟨w.heap.size + 1, k, none⟩ = some (.bool (g k)) := HT.out.cell hle
   have hf := HS.out.fz k
   have HX := Lib.hid (fun (x : Bool) (hx : (f k || g k) = x) => ((HS.out.set k x).eq (by rw [← hx]; exact mixF_succ (fun c => f c || g c) f k) : SB w.heap.size (mixF (fun c => f c || g c) f (k + 1)) (wr.setCell ⟨w.heap.size, k, none⟩ (.bool x))))
   cases hfk : f k with
   | true =>
    rw [hfk] at hc HX
    have HX' := Lib.hid (HX.out true rfl)
    clear HX hfk
    go_wp2
    refine ⟨⟨k + 1, by go_num, by omega, HX', Lib.hid (HT.out.other k _ (by simp)), Lib.hid (HR.out.other k _ (by omega)), Lib.hid (HBL.out.setCell (p := ⟨w.heap.size, k, none⟩) (Nat.le_refl _) _)⟩, by simp [intOf]; omega⟩
   | false =>
    rw [hfk] at hc HX
    have HX' := Lib.hid (HX.out (g k) rfl)
    clear HX hfk
    go_wp2
    refine ⟨⟨k + 1, by go_num, by omega, HX', Lib.hid (HT.out.other k _ (by simp)), Lib.hid (HR.out.other k _ (by omega)), Lib.hid (HBL.out.setCell (p := ⟨w.heap.size, k, none⟩) (Nat.le_refl _) _)⟩, by simp [intOf]; omega⟩
  ·have z1 : decide ((k : Int) < 256) = false := decide_eq_false (by omega)
   have y1 : decide (k < 256) = false := decide_eq_false hle
   obtain rfl : k = 256 := by omega
   have hs := HS.out.eq (mixF_all (fun c => f c || g c) f)
   obtain ⟨w4, e4, h4, hb4, e4'⟩ := put_set2 HR.out (fun c => f c || g c)
   have HB4 := Lib.hid (HBL.out.trans (hb4.mono (by omega)))
   clear hb4 HS
   go_wp2_with fail
   refine wp_load_set _ rfl w.heap.size rfl _ _ hs ?_
   go_wp2_with fail
   exact ret_set rfl h4 rfl rfl ⟨rfl, HB4.out⟩
theorem wpl_load_set {ops : Array Oper} {rest : List Oper} {o : Oper} {a : Act} {w : World} {Q : Exit → Act → World → Prop} (hgd : o.guard = none) (x : Operand) (ho : o.op = .load 213 x) (g : Nat) (hx : a.eval x = .pointer (some ⟨g, 0, none⟩)) (f : Nat → Bool) (hg : SB g f w)
  (h : wpList Tryz.prog ops Q rest (a.put o.dst (.agg (setA f))) w) : wpList Tryz.prog ops Q (o :: rest) a w :=
 wpList_plain hgd fun _ hK => wp_load_set x ho g hx f _ hg (hK _ _ h)
end Go.Proofs.YtmpbjaodgajnfaaGreatDoor
namespace Go.Proofs.YtmpbjaodgajnfaaGreatDoor
abbrev Out (α : Type) := Except (Nat × Nat) (α × Nat)
def clsT (f : Nat → Bool) : NT := .node 1 (rngs f 0) [] [] 0 0
def selfE (c : Nat) : Bool := decide (32 ≤ c) && decide (c ≤ 126) && !Asc.isLetter c && !Asc.isDigit c
def escM (l : List UInt8) (i : Nat) : Out ((Nat → Bool) × Nat × Bool) :=
 if Asc.at_ l i = 100 then .ok ((Asc.isDigit, 100, false), i + 1)
 else if Asc.at_ l i = 119 then .ok ((Asc.isWord, 119, false), i + 1)
 else if Asc.at_ l i = 115 then .ok ((Asc.isSpace, 115, false), i + 1)
 else if Asc.at_ l i = 110 then .ok ((spanF 10 11, 10, true), i + 1)
 else if Asc.at_ l i = 116 then .ok ((spanF 9 10, 9, true), i + 1)
 else if selfE (Asc.at_ l i) then .ok ((spanF (Asc.at_ l i) (Asc.at_ l i + 1), Asc.at_ l i, true), i + 1)
 else .error (i, 1)
def selfI (c : Nat) : Bool := decide (32 ≤ c) && decide (c ≤ 126) && decide (c ≠ 93) && decide (c ≠ 45) && decide (c ≠ 94)
def dws (c : Nat) : Bool := decide (c = 100) || decide (c = 119) || decide (c = 115)
def itemM (l : List UInt8) (single : Bool) (i : Nat) : Out ((Nat → Bool) × Nat × Bool) :=
 if Asc.at_ l i = 92 then (if single && dws (Asc.at_ l (i + 1)) then .error (i, 1) else escM l (i + 1))
 else if selfI (Asc.at_ l i) then .ok ((spanF (Asc.at_ l i) (Asc.at_ l i + 1), Asc.at_ l i, true), i + 1)
 else .error (i, 1)
def braL (l : List UInt8) : Nat → Bool → Nat → (Nat → Bool) → Out (Nat → Bool)
 | 0, _, i, _ => .error (i, 0)
 | n + 1, first, i, all =>
  if first = false ∧ Asc.at_ l i = 93 then .ok (all, i)
  else match itemM l false i with
   | .error x => .error x
   | .ok ((s, lo, one), j) =>
    if one = true ∧ Asc.at_ l j = 45 then
     match itemM l true (j + 1) with
     | .error x => .error x
     | .ok ((_, hi, _), k) => if hi < lo then .error (k, 2) else braL l n false k (fun c => all c || spanF lo (hi + 1) c)
    else braL l n false j (fun c => all c || s c)
def braM (l : List UInt8) (i : Nat) : Out NT :=
 match braL l (l.length + 1) true (if Asc.at_ l i = 94 then i + 1 else i) (fun _ => false) with
 | .error x => .error x
 | .ok (f, j) => .ok (clsT (if Asc.at_ l i = 94 then (fun c => !f c) else f), j + 1)
def boundM (l : List UInt8) (i : Nat) : Out Nat :=
 if Asc.isDigit (Asc.at_ l i) then
  (if Asc.isDigit (Asc.at_ l (i + 1)) then
   (if 40 < (Asc.at_ l i - 48) * 10 + (Asc.at_ l (i + 1) - 48) then .error (i + 2, 2) else .ok ((Asc.at_ l i - 48) * 10 + (Asc.at_ l (i + 1) - 48), i + 2))
  else .ok (Asc.at_ l i - 48, i + 1))
 else .error (i, 1)
def boundsM (l : List UInt8) (i : Nat) : Out (Int × Int) :=
 match boundM l i with
 | .error x => .error x
 | .ok (lo, j) =>
  if Asc.at_ l j = 44 then
   (if Asc.at_ l (j + 1) = 125 then .ok (((lo : Int), -1), j + 2)
   else match boundM l (j + 1) with
    | .error x => .error x
    | .ok (hi, k) => if hi < lo then .error (k, 2) else if Asc.at_ l k = 125 then .ok (((lo : Int), (hi : Int)), k + 1) else .error (k, 1))
  else if Asc.at_ l j = 125 then .ok (((lo : Int), (lo : Int)), j + 1) else .error (j, 1)
def grpI (l : List UInt8) (i : Nat) : Nat := if 0 < capN (l.drop i) then i + capN (l.drop i) + 1 else i
section
variable (ch : Nat → Out NT) (l : List UInt8)
def grpM (i : Nat) : Out NT :=
 match ch (grpI l i) with
 | .error x => .error x
 | .ok (t, j) => if Asc.at_ l j = 41 then .ok (if 0 < capN (l.drop i) then .node 5 [] (Asc.seg l i (i + capN (l.drop i))) [t] 0 0 else t, j + 1) else .error (j, 1)
def selfA (c : Nat) : Bool := decide (32 ≤ c) && decide (c ≤ 126) && !(spec.map UInt8.toNat).contains c
def atomM (i : Nat) : Out NT :=
 if Asc.at_ l i = 40 then grpM ch l (i + 1)
 else if Asc.at_ l i = 91 then braM l (i + 1)
 else if Asc.at_ l i = 46 then .ok (clsT (fun c => !spanF 10 11 c), i + 1)
 else if Asc.at_ l i = 94 then .ok (.node 6 [] [] [] 0 0, i + 1)
 else if Asc.at_ l i = 36 then .ok (.node 7 [] [] [] 0 0, i + 1)
 else if Asc.at_ l i = 92 then (match escM l (i + 1) with
  | .error x => .error x
  | .ok ((s, _, _), j) => .ok (clsT s, j))
 else if selfA (Asc.at_ l i) then .ok (clsT (spanF (Asc.at_ l i) (Asc.at_ l i + 1)), i + 1)
 else .error (i, 1)
def repM (i : Nat) : Out NT :=
 match atomM ch l i with
 | .error x => .error x
 | .ok (t, j) =>
  if Asc.at_ l j = 42 then .ok (.node 4 [] [] [t] 0 (-1), j + 1)
  else if Asc.at_ l j = 43 then .ok (.node 4 [] [] [t] 1 (-1), j + 1)
  else if Asc.at_ l j = 63 then .ok (.node 4 [] [] [t] 0 1, j + 1)
  else if Asc.at_ l j = 123 then (match boundsM l (j + 1) with
   | .error x => .error x
   | .ok ((lo, hi), k) => .ok (.node 4 [] [] [t] lo hi, k))
  else .ok (t, j)
def catL : Nat → Nat → List NT → Out NT
 | 0, i, _ => .error (i, 0)
 | n + 1, i, ts =>
  if Asc.at_ l i = 999 ∨ Asc.at_ l i = 124 ∨ Asc.at_ l i = 41 then .ok (joinT 2 ts, i)
  else match repM ch l i with
   | .error x => .error x
   | .ok (t, j) => catL n j (ts ++ [t])
def catM (i : Nat) : Out NT := catL ch l (l.length + 1) i []
def altL : Nat → Nat → List NT → Out NT
 | 0, i, _ => .error (i, 0)
 | n + 1, i, ts =>
  if Asc.at_ l i = 124 then (match catM ch l (i + 1) with
   | .error x => .error x
   | .ok (t, j) => altL n j (ts ++ [t]))
  else .ok (joinT 3 ts, i)
def choB (i : Nat) : Out NT :=
 match catM ch l i with
 | .error x => .error x
 | .ok (t, j) => altL ch l (l.length + 1) j [t]
end
def choM (l : List UInt8) : Nat → Nat → Out NT
 | 0, i => .error (i, 0)
 | d + 1, i => choB (choM l d) l i
def fits {α : Type} (r : Out α) (t : α) (j e : Nat) : Prop := match r with
 | .ok (t', j') => t = t' ∧ j = j' ∧ e = 0
 | .error (k, x) => j = k ∧ e = x ∧ e ≠ 0
theorem fits_cases {α : Type} {r : Out α} {t : α} {j e : Nat} (h : fits r t j e) : (r = .ok (t, j) ∧ e = 0) ∨ (r = .error (j, e) ∧ e ≠ 0) := by
 unfold fits at h
 split at h
 ·obtain ⟨rfl, rfl, rfl⟩ := h
  exact .inl ⟨rfl, rfl⟩
 ·obtain ⟨rfl, rfl, h⟩ := h
  exact .inr ⟨rfl, h⟩
theorem fits_ok {α : Type} {t : α} {j : Nat} : fits (.ok (t, j)) t j 0 := ⟨rfl, rfl, rfl⟩
theorem fits_err {α : Type} {t : α} {j e : Nat} (h : e ≠ 0) : fits (.error (j, e)) t j e := ⟨rfl, rfl, h⟩
end Go.Proofs.YtmpbjaodgajnfaaGreatDoor
namespace Go.Proofs.YtmpbjaodgajnfaaGreatDoor
open Go.RowKit
structure ZS (b : Nat) (l : List UInt8) (i e : Nat) (w : World) : Prop where
 st : PSt b l i e w
 le : i ≤ l.length
 len : l.length ≤ 1000
 kd : Kinds w
 kb : 1 < b
structure ZQ (b : Nat) (l : List UInt8) (i e : Nat) (w w' : World) : Prop where
 ap : Apart b w w'
 ps : ZS b l i e w'
def nxN (l : List UInt8) (i e : Nat) : Nat := if e = 0 then Asc.at_ l i else 999
theorem nxN_ok {l : List UInt8} {i : Nat} : nxN l i 0 = Asc.at_ l i := rfl
theorem nxN_err {l : List UInt8} {i e : Nat} (h : e ≠ 0) : nxN l i e = 999 := if_neg h
section
variable {b i j e f : Nat} {l : List UInt8} {w w1 w2 W W' : World}
theorem ZS.ok (h : ZS b l i 0 w) : PS b l i w := ⟨h.st, h.le, h.len, h.kd, h.kb⟩
theorem PS.zs (h : PS b l i w) : ZS b l i 0 w := ⟨h.st, h.le, h.len, h.kd, h.kb⟩
theorem PQ.zq (h : PQ b l i w w1) : ZQ b l i 0 w w1 := ⟨h.ap, h.ps.zs⟩
theorem ZQ.ok (h : ZQ b l i 0 w w1) : PQ b l i w w1 := ⟨h.ap, h.ps.ok⟩
theorem ZS.drewN (h : ZS b l i e w) (n : Nat) : ZQ b l i e w (w.drewN n) := ⟨⟨⟨rfl, rfl, rfl, Nat.le_refl _, fun _ _ => rfl⟩, fun _ _ _ => rfl⟩, ⟨h.st.keep rfl (Nat.le_refl _), h.le, h.len, ⟨h.kd.1, h.kd.2⟩, h.kb⟩⟩
theorem ZQ.refl (h : ZS b l i e w) : ZQ b l i e w w := ⟨Apart.refl _ _, h⟩
theorem ZQ.trans (h : ZQ b l i e w w1) (k : ZQ b l j f w1 w2) : ZQ b l j f w w2 := ⟨h.ap.trans k.ap, k.ps⟩
theorem ZQ.on (h : ZQ b l i e w w1) (k : Below w1.heap.size w1 w2) : ZQ b l i e w w2 := ⟨h.ap.trans (Apart.of_below k h.ps.st.lt), ⟨h.ps.st.on k h.ps.st.lt, h.ps.le, h.ps.len, h.ps.kd.below k, h.ps.kb⟩⟩
theorem ZS.on (h : ZS b l i e w) {B : Nat} (k : Below B w W') (hb : b < B) : ZS b l i e W' := ⟨h.st.on k hb, h.le, h.len, h.kd.on (Nat.lt_trans h.kb hb) k, h.kb⟩
theorem ZQ.far (h : ZQ b l i e w w1) (k : Below w.heap.size w1 w2) (hb : b < w.heap.size) : ZQ b l i e w w2 := ⟨⟨h.ap.1.trans (k.mono (Nat.le_of_lt hb)), fun j h1 h2 => (k.block j h2).trans (h.ap.2 j h1 h2)⟩, h.ps.on k hb⟩
theorem psE_one' (l : List UInt8) (at_ e x : Nat) : ∀ i, i < 3 → Upd (psE l at_ e) 1 (.int .i64 (x : Int)) i = psE l x e i := fun i hi => by
 match i, hi with
 | 0, _ => rfl
 | 1, _ => rfl
 | 2, _ => rfl
theorem ZS.to (h : ZS b l i e w) (j : Nat) (hj : j ≤ l.length) : ZQ b l j e w (w.setCell ⟨b, 1, none⟩ (.int .i64 (j : Int))) := ⟨Apart.setCell w 1 _, ⟨(h.st.set 1 (by omega) _).cong (psE_one' l i e j), hj, h.len, h.kd.ap h.kb (Apart.setCell w 1 _), h.kb⟩⟩
theorem ZS.c0 (h : ZS b l i e w) : w.cell? ⟨b, 0, none⟩ = some (.string ⟨l.toArray⟩) := h.st.ev 0 (by omega)
theorem ZS.c1 (h : ZS b l i e w) : w.cell? ⟨b, 1, none⟩ = some (.int .i64 (i : Int)) := h.st.ev 1 (by omega)
theorem ZS.c2 (h : ZS b l i e w) : w.cell? ⟨b, 2, none⟩ = some (.int .i64 (e : Int)) := h.st.ev 2 (by omega)
theorem ZS.f1 (h : ZS b l i e w) : w.frozen? ⟨b, 1, none⟩ = false := h.st.fz 1
theorem ZS.lt (h : ZS b l i e w) : b < w.heap.size := h.st.lt
end
theorem zfail (b : Nat) (l : List UInt8) (i e x : Nat) (w : World) (h : ZS b l i e w) : Calls Tryz.prog 52 #[.pointer (some ⟨b, 0, none⟩), .int .i64 (x : Int)] w fun r w' => r = .returned (.tuple #[]) ∧ ZQ b l i (if e = 0 then x else e) w w' :=
 (fail_any b l i e x w h.st).mono fun _ _ hr => ⟨hr.1, hr.2.ap, hr.2.st, h.le, h.len, h.kd.ap h.kb hr.2.ap, h.kb⟩
theorem znext_ok (b : Nat) (l : List UInt8) (i : Nat) (w : World) (h : ZS b l i 0 w) (v : Nat) (hv : Asc.at_ l i = v) (hv2 : v < 256) : Calls Tryz.prog 101 #[.pointer (some ⟨b, 0, none⟩)] w fun r w' => r = .returned (.tuple #[.int .u8 (v : Int), .bool true]) ∧ ZQ b l i 0 w w' :=
 (pnext_ok b l i w h.ok v hv hv2).mono fun _ _ hr => ⟨hr.1, hr.2.zq⟩
theorem at_999 {l : List UInt8} {i : Nat} (h : Asc.at_ l i = 999) : l.length ≤ i := by
 rcases Nat.lt_or_ge i l.length with hlt | hge
 ·have := Asc.at_le hlt
  omega
 ·exact hge
theorem at_two (l : List UInt8) (i : Nat) : Asc.at_ l i < 256 ∨ Asc.at_ l i = 999 := by
 rcases Nat.lt_or_ge i l.length with hlt | hge
 ·have := Asc.at_le hlt
  exact .inl (by omega)
 ·exact .inr (by unfold Asc.at_; rw [List.getElem?_eq_none hge])
set_option maxHeartbeats 4000000 in
set_option maxRecDepth 1000000 in
theorem znext_bad (b : Nat) (l : List UInt8) (i e : Nat) (w : World) (h : ZS b l i e w) (he : e ≠ 0) : Calls Tryz.prog 101 #[.pointer (some ⟨b, 0, none⟩)] w fun r w' => r = .returned (.tuple #[.int .u8 0, .bool false]) ∧ ZQ b l i e w w' := by
 have hb := h.st.lt
 have c0 := h.c0
 have c1 := h.c1
 have c2 := h.c2
 have H := Lib.hid h
 have z1 : ((e : Int) == 0) = false := by rw [beq_eq_false_iff_ne]; omega
 have z2 : ((e : Int) != 0) = true := by simp; omega
 have z3 : decide ((e : Int) ≠ 0) = true := by simp; omega
 clear h he
 go_enter Tryz.func101, Tryz.ntmps101
 go_wp2_with fail
 go_quiet (fail)
 go_wp2_with fail
 go_ret2
 exact ⟨rfl, H.out.drewN _⟩
theorem znext_no (b : Nat) (l : List UInt8) (i e : Nat) (w : World) (h : ZS b l i e w) (hx : nxN l i e = 999) : Calls Tryz.prog 101 #[.pointer (some ⟨b, 0, none⟩)] w fun r w' => r = .returned (.tuple #[.int .u8 0, .bool false]) ∧ ZQ b l i e w w' := by
 by_cases he : e = 0
 ·subst he
  exact (pnext_end b l i w h.ok (at_999 hx)).mono fun _ _ hr => ⟨hr.1, hr.2.zq⟩
 ·exact znext_bad b l i e w h he
set_option maxHeartbeats 4000000 in
set_option maxRecDepth 1000000 in
theorem zsees_no (b : Nat) (l : List UInt8) (i e : Nat) (w : World) (h : ZS b l i e w) (c : Nat) (hc : nxN l i e ≠ c) : Calls Tryz.prog 103 #[.pointer (some ⟨b, 0, none⟩), .int .u8 (c : Int)] w fun r w' => r = .returned (.bool false) ∧ ZQ b l i e w w' := by
 by_cases he : e = 0
 ·subst he
  exact (psees_no b l i w h.ok c hc).mono fun _ _ hr => ⟨hr.1, hr.2.zq⟩
 ·have HN := Lib.hid (znext_bad b l i e w h he)
  clear h hc he
  go_enter Tryz.func103, Tryz.ntmps103
  go_wp2_with (go_at_call 101; refine HN.out.mono ?_; rintro e w1 ⟨rfl, hq⟩; have HQ := Lib.hid hq; clear hq)
  go_ret
  exact ⟨rfl, HQ.out⟩
theorem zsees_yes (b : Nat) (l : List UInt8) (i : Nat) (w : World) (h : ZS b l i 0 w) (c : Nat) (hc : Asc.at_ l i = c) (hc2 : c < 256) : Calls Tryz.prog 103 #[.pointer (some ⟨b, 0, none⟩), .int .u8 (c : Int)] w fun r w' => r = .returned (.bool true) ∧ ZQ b l i 0 w w' :=
 (psees_yes b l i w h.ok c hc hc2).mono fun _ _ hr => ⟨hr.1, hr.2.zq⟩
set_option maxHeartbeats 4000000 in
set_option maxRecDepth 1000000 in
theorem ztakes_no (b : Nat) (l : List UInt8) (i e : Nat) (w : World) (h : ZS b l i e w) (c : Nat) (hc : nxN l i e ≠ c) : Calls Tryz.prog 74 #[.pointer (some ⟨b, 0, none⟩), .int .u8 (c : Int)] w fun r w' => r = .returned (.bool false) ∧ ZQ b l i e w w' := by
 have HN := Lib.hid (zsees_no b l i e w h c hc)
 clear h hc
 go_enter Tryz.func74, Tryz.ntmps74
 go_wp2_with (go_at_call 103; refine HN.out.mono ?_; rintro e w1 ⟨rfl, hq⟩; have HQ := Lib.hid hq; clear hq)
 go_ret
 exact ⟨rfl, HQ.out⟩
theorem ztakes_yes (b : Nat) (l : List UInt8) (i : Nat) (w : World) (h : ZS b l i 0 w) (c : Nat) (hc : Asc.at_ l i = c) (hc2 : c < 256) : Calls Tryz.prog 74 #[.pointer (some ⟨b, 0, none⟩), .int .u8 (c : Int)] w fun r w' => r = .returned (.bool true) ∧ ZQ b l (i + 1) 0 w w' :=
 (ptakes_yes b l i w h.ok c hc hc2).mono fun _ _ hr => ⟨hr.1, hr.2.zq⟩
theorem zexpect_yes (b : Nat) (l : List UInt8) (i : Nat) (w : World) (h : ZS b l i 0 w) (c : Nat) (hc : Asc.at_ l i = c) (hc2 : c < 256) : Calls Tryz.prog 156 #[.pointer (some ⟨b, 0, none⟩), .int .u8 (c : Int)] w fun r w' => r = .returned (.tuple #[]) ∧ ZQ b l (i + 1) 0 w w' :=
 (pexpect_yes b l i w h.ok c hc hc2).mono fun _ _ hr => ⟨hr.1, hr.2.zq⟩
set_option maxHeartbeats 4000000 in
set_option maxRecDepth 1000000 in
theorem zexpect_no (b : Nat) (l : List UInt8) (i e : Nat) (w : World) (h : ZS b l i e w) (c : Nat) (hc : nxN l i e ≠ c) : Calls Tryz.prog 156 #[.pointer (some ⟨b, 0, none⟩), .int .u8 (c : Int)] w fun r w' => r = .returned (.tuple #[]) ∧ ZQ b l i (if e = 0 then 1 else e) w w' := by
 have HN := Lib.hid (ztakes_no b l i e w h c hc)
 have HF := Lib.hid fun W (hW : ZS b l i e W) => zfail b l i e 1 W hW
 obtain ⟨R, hR⟩ : ∃ R, (if e = 0 then 1 else e) = R := ⟨_, rfl⟩
 rw [hR] at HF ⊢
 clear h hc hR
 go_enter Tryz.func156, Tryz.ntmps156
 go_wp2_with (first | (go_at_call 74; refine HN.out.mono ?_; rintro e w1 ⟨rfl, hq⟩; have HQ := Lib.hid hq; clear hq) | (go_at_call 52; refine (HF.out _ HQ.out.ps).mono ?_; rintro e w1 ⟨rfl, hq⟩; have HQ2 := Lib.hid (HQ.out.trans hq); clear hq))
 go_end0
 exact ⟨rfl, HQ2.out⟩
end Go.Proofs.YtmpbjaodgajnfaaGreatDoor
namespace Go.Proofs.YtmpbjaodgajnfaaGreatDoor
open Go.RowKit
def PNz (b : Nat) (l : List UInt8) (r : Out NT) (w : World) (en : Ending) (w' : World) : Prop := ∃ v t j e, en = .returned v ∧ NG (fun k => w.heap.size ≤ k) w' t v ∧ ZQ b l j e w w' ∧ fits r t j e
def RdZ (fn : Nat) (b : Nat) (l : List UInt8) (i : Nat) (r : Out NT) : Prop := ∀ W, ZS b l i 0 W → Calls Tryz.prog fn #[.pointer (some ⟨b, 0, none⟩)] W (PNz b l r W)
structure ZR (b : Nat) (l : List UInt8) (i e : Nat) (w W : World) : Prop where
 pq : ZQ b l i e w W
 bk : BK w.heap.size 6 (nE 0 none 0 0 [] none 0 0 0 0) W
 hb : b < w.heap.size
section
variable {b i j e f : Nat} {l : List UInt8} {w W W' : World}
theorem ZR.start (h : ZS b l i e w) : ZR b l i e w (w.alloc (.cells #[.int .i64 0, .slice none 0 0, .string ⟨#[]⟩, .slice none 0 0, .int .i64 0, .int .i64 0] 33)) := ⟨(ZQ.refl h).on (al_below w _), nE_new w 0 none 0 0 [] none 0 0 0 0, h.st.lt⟩
theorem ZR.go (h : ZR b l i e w W) (k : ZQ b l j f W W') : ZR b l j f w W' := ⟨h.pq.trans k, h.bk.go k.ap (Nat.ne_of_gt h.hb), h.hb⟩
theorem ZR.sz (h : ZR b l i e w W) : w.heap.size < W.heap.size := h.bk.lt
theorem ZR.far (h : ZR b l i e w W) (k : Below (w.heap.size + 1) W W') : ZR b l i e w W' := ⟨h.pq.far (k.mono (Nat.le_succ _)) h.hb, h.bk.on k (Nat.lt_succ_self _), h.hb⟩
theorem ZR.on (h : ZR b l i e w W) (k : Below W.heap.size W W') : ZR b l i e w W' := h.far (k.mono h.sz)
theorem ZR.ps (h : ZR b l i e w W) : ZS b l i e W := h.pq.ps
end
theorem node_retz {fn : Func} {P : Tmp} (hfn : fn.results = #[.cell P 33]) {w W : World} {b j e : Nat} {l : List UInt8} (hS : ZR b l j e w W) (tmps : Array Value) (df : _) (hdf : df = []) (hp : tmps.getD P undef = .pointer (some ⟨w.heap.size, 0, none⟩)) {v0 v1 v2 v3 v4 v5 : Value} {t : NT} {r : Out NT}
  (hT : NG (fun k => w.heap.size < k) W t (.agg #[v0, v1, v2, v3, v4, v5])) (hr : fits r t j e) :
  bodyPost Tryz.prog fn (PNz b l r w) Exit.ret { tmps := tmps, defers := df } (setL W w.heap.size [v0, v1, v2, v3, v4, v5] 0) := by
 have hb := setL_below (B := w.heap.size) (b := w.heap.size) (Nat.le_refl _) [v0, v1, v2, v3, v4, v5] W 0
 exact item_ret hfn hS.bk hdf hp ⟨_, t, j, e, rfl, NG.go ⟨hb.size, fun j hj _ => ⟨Nat.le_of_lt hj, setL_heap _ (Nat.ne_of_gt hj) _ _⟩⟩ _ _ hT, hS.pq.far hb hS.hb, hr⟩
theorem zero_retz {fn : Func} {P : Tmp} (hfn : fn.results = #[.cell P 33]) {w W : World} {b j e : Nat} {l : List UInt8} (hS : ZR b l j e w W) (tmps : Array Value) (df : _) (hdf : df = []) (hp : tmps.getD P undef = .pointer (some ⟨w.heap.size, 0, none⟩)) {r : Out NT} (he : e ≠ 0) (hr : r = .error (j, e)) :
  bodyPost Tryz.prog fn (PNz b l r w) Exit.ret { tmps := tmps, defers := df } (setL W w.heap.size [.int .i64 0, .slice none 0 0, .string ⟨#[]⟩, .slice none 0 0, .int .i64 0, .int .i64 0] 0) := by
 subst hr
 exact node_retz hfn hS tmps df hdf hp (NG.node (rs := []) (kids := []) RW.nil RW.nil 0 [] 0 0 (by simp)) (fits_err he)
theorem NG.zq {b B j e : Nat} {l : List UInt8} {W W' : World} {t : NT} {v : Value} (h : NG (fun k => B < k) W t v) (k : ZQ b l j e W W') (hb : b ≤ B) : NG (fun k => B < k) W' t v := NG.go ⟨k.ap.1.size, fun _ hk hl => ⟨hk, k.ap.block (by omega) hl⟩⟩ _ _ h
structure ZA (b : Nat) (l : List UInt8) (i e : Nat) (w : World) (q : Nat) (E : Nat → Value) (t : NT) (v : Value) (W : World) : Prop where
 pr : ZR b l i e w W
 bk : BK q 6 E W
 ng : NG (fun k => w.heap.size < k) W t v
 hq : w.heap.size < q
theorem ZA.go {b : Nat} {l : List UInt8} {i e j f : Nat} {w : World} {q : Nat} {E : Nat → Value} {t : NT} {v : Value} {W W' : World} (h : ZA b l i e w q E t v W) (k : ZQ b l j f W W') : ZA b l j f w q E t v W' := ⟨h.pr.go k, h.bk.go k.ap (by have := h.pr.hb; have := h.hq; omega), h.ng.zq k (Nat.le_of_lt h.pr.hb), h.hq⟩
theorem ZA.start {b : Nat} {l : List UInt8} {j e : Nat} {w W : World} {t : NT} {op : Int} {ra : Option Addr} {rn rc : Nat} {nm : List UInt8} {a : Option Addr} {n c : Nat} {mn mx : Int} (h : ZR b l j e w W) (hT : NG (fun k => w.heap.size < k) W t (.agg #[.int .i64 op, .slice ra rn rc, .string ⟨nm.toArray⟩, .slice a n c, .int .i64 mn, .int .i64 mx])) :
  ZA b l j e w W.heap.size (nE op ra rn rc nm a n c mn mx) t (.agg #[.int .i64 op, .slice ra rn rc, .string ⟨nm.toArray⟩, .slice a n c, .int .i64 mn, .int .i64 mx]) (W.alloc (.cells #[.int .i64 op, .slice ra rn rc, .string ⟨nm.toArray⟩, .slice a n c, .int .i64 mn, .int .i64 mx] 33)) :=
 ⟨h.on (al_below W _), nE_new W op ra rn rc nm a n c mn mx, hT.low (al_below W _), h.sz⟩
structure ZL (b : Nat) (l : List UInt8) (i e : Nat) (w : World) (kids : List NT) (v : Value) (W : World) : Prop where
 pr : ZR b l i e w W
 row : OR (w.heap.size + 1) 33 6 (KR (FF (fun k => w.heap.size < k) v) W) W kids v
section
variable {b i e j f : Nat} {l : List UInt8} {w W W' : World} {kids : List NT} {v x : Value} {t : NT}
theorem ZL.start (h : ZR b l i e w W) : ZL b l i e w [] (.slice none 0 0) W := ⟨h, OR.nil⟩
theorem ZL.go (h : ZL b l i e w kids v W) (k : ZQ b l j f W W') : ZL b l j f w kids v W' :=
 ⟨h.pr.go k, h.row.keep (fun m h1 h2 => k.ap.block (by have := h.pr.hb; omega) h2) (fun _ _ hx => KR.go ⟨k.ap.1.size, fun m hm hl => ⟨hm, k.ap.block (by have := h.pr.hb; have := hm.1; omega) hl⟩⟩ _ _ hx)⟩
theorem ZL.new (h : ZL b l i e w kids v W) (hT : NG (fun k => W.heap.size ≤ k) W' t x) : NG (FF (fun k => w.heap.size < k) v) W' t x :=
 NG.go ⟨Nat.le_refl _, fun k hk _ => ⟨⟨Nat.lt_of_lt_of_le h.pr.sz hk, fun e => by have := (h.row.lt e).2; omega⟩, rfl⟩⟩ _ _ hT
theorem ZL.push {o : Obj} {g' cap H : Nat} {W5 : World} (h : ZL b l i e w kids v W) (cs : List Value) (hown : W.ownsRow (w.heap.size + 1) 33 6 v kids.length cs)
  (hpush : ∀ (R' : NT → List Value → Prop) (W' : World) (x : NT) (us : List Value) (v' : Value), (∀ x us, KR (FF (fun k => w.heap.size < k) v) W x us → R' x us) → us.length = 6 → R' x us → kids.length + 1 ≤ 1000000 → W'.ownsRow (w.heap.size + 1) 33 6 v' (kids.length + 1) (cs ++ us) → OR (w.heap.size + 1) 33 6 R' W' (kids ++ [x]) v')
  (hgr : (W.alloc o).grownBy W5 v.ownBlock) (hat : v.ownBlock = some g' ∨ g' = H) (hH : H = (W.alloc o).heap.size) (us : List Value) (hu : us.length = 6) (hx : KR (FF (fun k => w.heap.size < k) v) W t us) (hl : kids.length + 1 ≤ 1000000)
  (ho : W5.ownsRow (w.heap.size + 1) 33 6 (.slice (some ⟨g', 0, none⟩) (kids.length + 1) cap) (kids.length + 1) (cs ++ us)) : ZL b l i e w (kids ++ [t]) (.slice (some ⟨g', 0, none⟩) (kids.length + 1) cap) W5 := by
 have hB := push_below hgr hown h.pr.sz
 have hst := push_stay (G := fun k => w.heap.size < k) (n := kids.length + 1) (cap := cap) hgr (hat.imp id (fun e => by rw [e, hH]; simp))
 exact ⟨h.pr.far hB, hpush _ _ t us _ (fun _ _ h => KR.go hst _ _ h) hu (KR.go hst _ _ hx) hl ho⟩
theorem ZL.rows (h : ZL b l i e w kids v W) : RW (fun k => w.heap.size + 1 ≤ k) 6 (KR (fun k => w.heap.size + 1 ≤ k) W) W kids v :=
 (h.row.rw (F := fun k => w.heap.size + 1 ≤ k) (fun _ h => h)).go ⟨Nat.le_refl _, fun _ hk _ => ⟨hk, rfl⟩⟩ (fun _ _ h => KR.go ⟨Nat.le_refl _, fun _ hk _ => ⟨hk.1, rfl⟩⟩ _ _ h)
end
theorem ZL.lit {b i e : Nat} {l : List UInt8} {w W : World} {t : NT} (h : ZR b l i e w W) (us : List Value) (hu : us.length = 6) (hT : KR (fun k => w.heap.size < k) W t us) : ZL b l i e w [t] (.slice (some ⟨W.heap.size, 0, none⟩) 1 1) (W.alloc (.cells us.toArray 33)) :=
 ⟨h.on (al_below W _), OR.lit W t us h.sz hu (KR.go ⟨(al_below W _).size, fun k hk hl => ⟨⟨hk, fun e => by simp only [Value.ownBlock, Option.some.injEq] at e; omega⟩, (al_below W _).block k hl⟩⟩ _ _ hT)⟩
end Go.Proofs.YtmpbjaodgajnfaaGreatDoor
namespace Go.Proofs.YtmpbjaodgajnfaaGreatDoor
open Go.RowKit
set_option maxHeartbeats 4000000 in
set_option maxRecDepth 1000000 in
theorem printable_low (c : Nat) (w : World) (h : c < 32) : Calls Tryz.prog 153 #[.int .u8 (c : Int)] w fun e w' => e = .returned (.bool false) ∧ w = w' := by
 have z1 : decide ((32 : Int) ≤ (c : Int)) = false := decide_eq_false (by omega)
 have y1 : decide (32 ≤ c) = false := decide_eq_false (by omega)
 go_enter Tryz.func153, Tryz.ntmps153
 go_wp2_with fail
 go_ret
 exact ⟨rfl, rfl⟩
set_option maxHeartbeats 4000000 in
set_option maxRecDepth 1000000 in
theorem printable_high (c : Nat) (w : World) (h : 126 < c) : Calls Tryz.prog 153 #[.int .u8 (c : Int)] w fun e w' => e = .returned (.bool false) ∧ w = w' := by
 have z1 : decide ((32 : Int) ≤ (c : Int)) = true := decide_eq_true (by omega)
 have y1 : decide (32 ≤ c) = true := decide_eq_true (by omega)
 have z2 : decide ((c : Int) ≤ 126) = false := decide_eq_false (by omega)
 have y2 : decide (c ≤ 126) = false := decide_eq_false (by omega)
 go_enter Tryz.func153, Tryz.ntmps153
 go_wp2_with fail
 go_ret
 exact ⟨rfl, rfl⟩
theorem printable_no (c : Nat) (w : World) (h : c < 32 ∨ 126 < c) : Calls Tryz.prog 153 #[.int .u8 (c : Int)] w fun e w' => e = .returned (.bool false) ∧ w = w' := by
 rcases h with h | h
 ·exact printable_low c w h
 ·exact printable_high c w h
theorem ib_no (s : List UInt8) (c : UInt8) (w : World) (h : c ∉ s) : Calls Tryz.prog 154 #[.string ⟨s.toArray⟩, .int .u8 (c.toNat : Int)] w fun e w' => e = .returned (.int .i64 (-1)) ∧ w = w' := by
 refine (ibyte_any _ _ w).mono ?_
 rintro e w' ⟨rfl, rfl⟩
 refine ⟨?_, rfl⟩
 show Ending.returned (.int .i64 (Lib.indexByte s _)) = _
 rw [u8_of, Asc.indexByte_pos, if_neg (Asc.pos_none fun j hj => fun e => h (by rw [← e]; exact List.getElem_mem hj))]
theorem ib_yes (s : List UInt8) (c : UInt8) (w : World) (h : c ∈ s) : Calls Tryz.prog 154 #[.string ⟨s.toArray⟩, .int .u8 (c.toNat : Int)] w fun e w' => e = .returned (.int .i64 (Asc.pos s c : Int)) ∧ w = w' := by
 refine (ibyte_any _ _ w).mono ?_
 rintro e w' ⟨rfl, rfl⟩
 refine ⟨?_, rfl⟩
 show Ending.returned (.int .i64 (Lib.indexByte s _)) = _
 have hp : Asc.pos s c < s.length := by
  unfold Asc.pos
  rw [List.findIdx_lt_length]
  exact ⟨c, h, by simp⟩
 rw [u8_of, Asc.indexByte_pos, if_pos hp]
def oddL : List UInt8 := [93, 45, 94, 92]
end Go.Proofs.YtmpbjaodgajnfaaGreatDoor

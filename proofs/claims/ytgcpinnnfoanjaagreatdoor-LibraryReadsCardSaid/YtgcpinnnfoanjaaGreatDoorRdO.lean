/-
 Joined: RpDa, RpDb, RpDc.
-/
import Derived.Test.YtgcpinnnfoanjaaGreatDoorRdN
namespace Go.Proofs.YtgcpinnnfoanjaaGreatDoor
open Go.RowKit
set_option maxHeartbeats 16000000 in
set_option maxRecDepth 1000000 in
theorem ritem_bad (l : List UInt8) (i : Nat) (hl : l.length ≤ 1000) (hi : i ≤ l.length) (w : World) (hbad : l.length ≤ i ∨ (i < l.length ∧ pk l i = 93) ∨ (i < l.length ∧ pk l i ≠ 93 ∧ pk l i = 45) ∨ (i < l.length ∧ pk l i ≠ 93 ∧ pk l i ≠ 45 ∧ pk l i = 94) ∨ (i < l.length ∧ pk l i ≠ 93 ∧ pk l i ≠ 45 ∧ pk l i ≠ 94 ∧ pk l i < 32) ∨ (i < l.length ∧ pk l i ≠ 93 ∧ pk l i ≠ 45 ∧ pk l i ≠ 94 ∧ 32 ≤ pk l i ∧ 126 < pk l i)) : Calls Tryz.prog 151 #[.agg #[.string ⟨l.toArray⟩, .int .i64 (i : Int), .int .i64 0, .int .i64 0]] w (RItP l (itemM l false i) w) := by
 have hv := (zero_of_info infoQ).1
 simp only [← setA_false] at hv
 have HEND : Hid (∀ r en w', itemM l false i = r → RItP l r w en w' → RItP l (itemM l false i) w en w') := Lib.hid (fun r en w' e h => by rw [e]; exact h)
 obtain ⟨M, hM⟩ : ∃ M, itemM l false i = M := ⟨_, rfl⟩
 have HM := Lib.hid hM
 rw [hM] at HEND ⊢
 clear hM
 have HI0 : Hid (RI w l i 0 0 (((w.alloc (.cells #[.string ⟨l.toArray⟩, .int .i64 (i : Int), .int .i64 0, .int .i64 0] 111)).alloc (.cells #[.string ⟨#[]⟩, .int .i64 0, .int .i64 0, .int .i64 0] 111)).alloc (.cells (setA (fun _ => false)) 167))) := Lib.hid ((RI.start w l i 0 0).go (al_below _ _))
 have HS0 : Hid (SbQ (w.heap.size + 1 + 1) (fun _ => false) (((w.alloc (.cells #[.string ⟨l.toArray⟩, .int .i64 (i : Int), .int .i64 0, .int .i64 0] 111)).alloc (.cells #[.string ⟨#[]⟩, .int .i64 0, .int .i64 0, .int .i64 0] 111)).alloc (.cells (setA (fun _ => false)) 167))) := Lib.hid (by have := SbQ.new ((w.alloc (.cells #[.string ⟨l.toArray⟩, .int .i64 (i : Int), .int .i64 0, .int .i64 0] 111)).alloc (.cells #[.string ⟨#[]⟩, .int .i64 0, .int .i64 0, .int .i64 0] 111)) (fun _ => false); rwa [show ((w.alloc (.cells #[.string ⟨l.toArray⟩, .int .i64 (i : Int), .int .i64 0, .int .i64 0] 111)).alloc (.cells #[.string ⟨#[]⟩, .int .i64 0, .int .i64 0, .int .i64 0] 111)).heap.size = w.heap.size + 1 + 1 by simp] at this)
 have HPK := Lib.hid fun j W => rpeek0 l j W
 have HF := Lib.hid fun j W => rfail0 l j W
 have hw1 : IntKind.i64.wrap ((i : Int) + 1) = (i : Int) + 1 := IntWalk.i64_in _ (by omega)
 have hw2 : IntKind.i64.wrap ((i : Int) + 1 + 1) = (i : Int) + 1 + 1 := IntWalk.i64_in _ (by omega)
 go_enter Tryz.func151, Tryz.ntmps151
 go_wp2_with fail
 refine (HPK.out _ _).mono ?_
 rintro e w1 ⟨rfl, hb⟩
 have HI1 := Lib.hid (HI0.out.go hb)
 have HS1 := Lib.hid (HS0.out.on hb (by simp))
 clear hb HI0 HS0
 obtain ⟨⟨c0, c1, c2, c3⟩, f0, f1, f2, f3⟩ := HI1.out.cs
 obtain ⟨⟨ra, rb, rc, rd, r0, r1, r2, r3⟩, g0, g1, g2, g3⟩ := HI1.out.rs
 have hc8 := pk_lt l i
 have HPI := Lib.hid fun (h : i < l.length) => pk_in h
 obtain ⟨c, hc⟩ : ∃ c, pk l i = c := ⟨_, rfl⟩
 rw [hc] at hc8 HPI hbad
 have HC := Lib.hid hc
 rw [hc]
 clear hc
 have HME : Hid (M = .error (i, 1)) := Lib.hid (by
  rw [← HM.out]
  refine itemM_bad ?_ ?_
  ·intro e
   have hlt : i < l.length := Asc.at_lt (by omega)
   have := HPI.out hlt
   omega
  ·unfold selfI
   rcases hbad with h | h | h | h | h | h
   ·rw [show Asc.at_ l i = 999 by unfold Asc.at_; rw [List.getElem?_eq_none h]]
    decide
   all_goals
    rw [← HPI.out h.1]
    simp
    omega)
 have HPOST : Hid (∀ w', Below w.heap.size w w' → RItP l M w (.returned (.tuple #[.agg #[.string ⟨l.toArray⟩, .int .i64 (i : Int), .int .i64 1, .int .i64 (i : Int)], .int .i64 0, .agg (setA (fun _ => false))])) w') := Lib.hid (fun w' hb => by
  rw [HME.out]
  exact ⟨i, 1, i, 0, _, rfl, hb, ⟨rfl, by decide, rfl⟩, by omega⟩)
 clear HEND HM
 have hfork : (decide ((l.length : Int) ≤ (i : Int)) = true) ∨ (decide ((l.length : Int) ≤ (i : Int)) = false ∧ ((c : Int) == 93) = true) ∨ (decide ((l.length : Int) ≤ (i : Int)) = false ∧ ((c : Int) == 93) = false ∧ ((c : Int) == 45) = true) ∨ (decide ((l.length : Int) ≤ (i : Int)) = false ∧ ((c : Int) == 93) = false ∧ ((c : Int) == 45) = false ∧ ((c : Int) == 94) = true) ∨ (decide ((l.length : Int) ≤ (i : Int)) = false ∧ ((c : Int) == 93) = false ∧ ((c : Int) == 45) = false ∧ ((c : Int) == 94) = false ∧ decide ((c : Int) < 32) = true) ∨ (decide ((l.length : Int) ≤ (i : Int)) = false ∧ ((c : Int) == 93) = false ∧ ((c : Int) == 45) = false ∧ ((c : Int) == 94) = false ∧ decide ((c : Int) < 32) = false ∧ decide ((126 : Int) < (c : Int)) = true) := by
  simp only [decide_eq_true_iff, decide_eq_false_iff_not, beq_iff_eq, beq_eq_false_iff_ne]
  omega
 clear hbad
 have hforkN : ∀ b, decide ((l.length : Int) ≤ (i : Int)) = b → decide (l.length ≤ i) = b := fun b h => by rw [← h]; simp
 have h32N : ∀ b, decide ((c : Int) < 32) = b → decide (c < 32) = b := fun b h => by rw [← h, Bool.eq_iff_iff]; simp; omega
 have h126N : ∀ b, decide ((126 : Int) < (c : Int)) = b → decide (126 < c) = b := fun b h => by rw [← h, Bool.eq_iff_iff]; simp; omega
 rcases hfork with z1 | ⟨z1, z2⟩ | ⟨z1, z2, z3⟩ | ⟨z1, z2, z3, z4⟩ | ⟨z1, z2, z3, z4, z5⟩ | ⟨z1, z2, z3, z4, z5, z6⟩
 all_goals
  have y1 := hforkN _ z1
  try have y5 := h32N _ z5
  try have y6 := h126N _ z6
  clear hforkN h32N h126N
  go_wp2_with fail
  refine (HF.out _ _).mono ?_
  rintro e w3 ⟨rfl, hb⟩
  have HI3 := Lib.hid (HI1.out.go hb)
  have HS3 := Lib.hid (HS1.out.on hb HS1.out.lt)
  clear hb HI1 HS1 c0 c1 c2 c3 f0 f1 f2 f3 r0 r1 r2 r3 g0 g1 g2 g3 HPK HF
  obtain ⟨⟨ra, rb, rc, rd, r0, r1, r2, r3⟩, g0, g1, g2, g3⟩ := HI3.out.rs
  obtain ⟨w5, e5, h5, h6, hb5⟩ := HI3.out.set HS3.out (.string ⟨l.toArray⟩) (.int .i64 (i : Int)) (.int .i64 1) (.int .i64 (i : Int)) (fun _ => false)
  rw [stR] at e5
  go_wp2_with fail
  exact ret_ctc rfl (by rfl) (by rfl) (by rfl) (lv_rp h5) (lv_st h6) (HPOST.out _ hb5)
end Go.Proofs.YtgcpinnnfoanjaaGreatDoor
namespace Go.Proofs.YtgcpinnnfoanjaaGreatDoor
open Go.RowKit
set_option maxHeartbeats 16000000 in
set_option maxRecDepth 1000000 in
theorem ritem_self (l : List UInt8) (i : Nat) (hl : l.length ≤ 1000) (w : World) (hin : i < l.length) (hgood : 32 ≤ pk l i ∧ pk l i ≤ 126 ∧ pk l i ≠ 93 ∧ pk l i ≠ 45 ∧ pk l i ≠ 94) (h92 : pk l i ≠ 92) : Calls Tryz.prog 151 #[.agg #[.string ⟨l.toArray⟩, .int .i64 (i : Int), .int .i64 0, .int .i64 0]] w (RItP l (itemM l false i) w) := by
 have hv := (zero_of_info infoQ).1
 simp only [← setA_false] at hv
 have HEND : Hid (∀ r en w', itemM l false i = r → RItP l r w en w' → RItP l (itemM l false i) w en w') := Lib.hid (fun r en w' e h => by rw [e]; exact h)
 obtain ⟨M, hM⟩ : ∃ M, itemM l false i = M := ⟨_, rfl⟩
 have HM := Lib.hid hM
 rw [hM] at HEND ⊢
 clear hM
 have HI0 : Hid (RI w l i 0 0 (((w.alloc (.cells #[.string ⟨l.toArray⟩, .int .i64 (i : Int), .int .i64 0, .int .i64 0] 111)).alloc (.cells #[.string ⟨#[]⟩, .int .i64 0, .int .i64 0, .int .i64 0] 111)).alloc (.cells (setA (fun _ => false)) 167))) := Lib.hid ((RI.start w l i 0 0).go (al_below _ _))
 have HS0 : Hid (SbQ (w.heap.size + 1 + 1) (fun _ => false) (((w.alloc (.cells #[.string ⟨l.toArray⟩, .int .i64 (i : Int), .int .i64 0, .int .i64 0] 111)).alloc (.cells #[.string ⟨#[]⟩, .int .i64 0, .int .i64 0, .int .i64 0] 111)).alloc (.cells (setA (fun _ => false)) 167))) := Lib.hid (by have := SbQ.new ((w.alloc (.cells #[.string ⟨l.toArray⟩, .int .i64 (i : Int), .int .i64 0, .int .i64 0] 111)).alloc (.cells #[.string ⟨#[]⟩, .int .i64 0, .int .i64 0, .int .i64 0] 111)) (fun _ => false); rwa [show ((w.alloc (.cells #[.string ⟨l.toArray⟩, .int .i64 (i : Int), .int .i64 0, .int .i64 0] 111)).alloc (.cells #[.string ⟨#[]⟩, .int .i64 0, .int .i64 0, .int .i64 0] 111)).heap.size = w.heap.size + 1 + 1 by simp] at this)
 have HPK := Lib.hid fun j W => rpeek0 l j W
 have HF := Lib.hid fun j W => rfail0 l j W
 have hw1 : IntKind.i64.wrap ((i : Int) + 1) = (i : Int) + 1 := IntWalk.i64_in _ (by omega)
 have hw2 : IntKind.i64.wrap ((i : Int) + 1 + 1) = (i : Int) + 1 + 1 := IntWalk.i64_in _ (by omega)
 go_enter Tryz.func151, Tryz.ntmps151
 go_wp2_with fail
 refine (HPK.out _ _).mono ?_
 rintro e w1 ⟨rfl, hb⟩
 have HI1 := Lib.hid (HI0.out.go hb)
 have HS1 := Lib.hid (HS0.out.on hb (by simp))
 clear hb HI0 HS0
 obtain ⟨⟨c0, c1, c2, c3⟩, f0, f1, f2, f3⟩ := HI1.out.cs
 obtain ⟨⟨ra, rb, rc, rd, r0, r1, r2, r3⟩, g0, g1, g2, g3⟩ := HI1.out.rs
 have hc8 := pk_lt l i
 have HPI := Lib.hid fun (h : i < l.length) => pk_in h
 obtain ⟨c, hc⟩ : ∃ c, pk l i = c := ⟨_, rfl⟩
 rw [hc] at hc8 HPI hgood h92
 have HC := Lib.hid hc
 rw [hc]
 clear hc
 have HAT : Hid (Asc.at_ l i = c) := Lib.hid (HPI.out hin).symm
 have z1 : decide ((l.length : Int) ≤ (i : Int)) = false := decide_eq_false (by omega)
 have y1 : decide (l.length ≤ i) = false := decide_eq_false (by omega)
 have z2 : ((c : Int) == 93) = false := by rw [beq_eq_false_iff_ne]; omega
 have z3 : ((c : Int) == 45) = false := by rw [beq_eq_false_iff_ne]; omega
 have z4 : ((c : Int) == 94) = false := by rw [beq_eq_false_iff_ne]; omega
 have z5 : decide ((c : Int) < 32) = false := decide_eq_false (by omega)
 have y5 : decide (c < 32) = false := decide_eq_false (by omega)
 have z6 : decide ((126 : Int) < (c : Int)) = false := decide_eq_false (by omega)
 have y6 : decide (126 < c) = false := decide_eq_false (by omega)
 have HI2 : Hid (RI w l (i + 1) 0 0 (w1.setCell ⟨w.heap.size, 1, none⟩ (.int .i64 ((i : Int) + 1)))) := Lib.hid (HI1.out.to (i + 1))
 have HS2 : Hid (SbQ (w.heap.size + 1 + 1) (fun _ => false) (w1.setCell ⟨w.heap.size, 1, none⟩ (.int .i64 ((i : Int) + 1)))) := Lib.hid (HS1.out.other 1 _ (by omega))
 have z7 : ((c : Int) == 92) = false := by rw [beq_eq_false_iff_ne]; omega
 have z7' : ((c : Int) != 92) = true := by simp; omega
 have hw3 : IntKind.i64.wrap (c : Int) = (c : Int) := IntWalk.i64_in _ (by omega)
 have HPOST : Hid (∀ w', Below w.heap.size w w' → RItP l M w (.returned (.tuple #[.agg #[.string ⟨l.toArray⟩, .int .i64 ((i : Int) + 1), .int .i64 0, .int .i64 0], .int .i64 (c : Int), .agg (setA (fun _ => false))])) w') := Lib.hid (fun w' hb => by
  rw [← HM.out, itemM_self HAT.out h92 (by unfold selfI; simp; omega)]
  exact ⟨i + 1, 0, 0, c, _, rfl, hb, ⟨rfl, rfl, rfl⟩, by omega, fun _ => ⟨rfl, rfl⟩, fun h => by cases h⟩)
 obtain ⟨w5, e5, h5, h6, hb5⟩ := HI2.out.set HS2.out (.string ⟨l.toArray⟩) (.int .i64 ((i : Int) + 1)) (.int .i64 0) (.int .i64 0) (fun _ => false)
 rw [stR] at e5
 clear HM HEND HPI HAT hgood h92
 go_wp2_with fail
 exact ret_ctc rfl (by rfl) (by rfl) (by rfl) (lv_rp h5) (lv_st h6) (HPOST.out _ hb5)
end Go.Proofs.YtgcpinnnfoanjaaGreatDoor
namespace Go.Proofs.YtgcpinnnfoanjaaGreatDoor
open Go.RowKit
def PAt (w : World) (l : List UInt8) (j e bad : Nat) (W : World) : Prop := W.heap[w.heap.size + 1]? = some (.cells #[.string ⟨l.toArray⟩, .int .i64 (j : Int), .int .i64 (e : Int), .int .i64 (bad : Int)] 111 (0, 0))
def IvS (w : World) (l : List UInt8) (j q : Nat) (f : Nat → Bool) (W : World) : Prop := RI w l j 0 0 W ∧ (∃ g, SbQ (w.heap.size + 1 + 1) g W) ∧ SbQ q f W
def RvS (w : World) (l : List UInt8) (j : Nat) (f : Nat → Bool) (W W' : World) : Prop := (PAt w l j 0 0 W → PAt w l j 0 0 W') ∧ (SbQ (w.heap.size + 1 + 1) f W → SbQ (w.heap.size + 1 + 1) f W')
theorem RvS.refl (w : World) (l : List UInt8) (j : Nat) (f : Nat → Bool) (W : World) : RvS w l j f W W := ⟨id, id⟩
def GvS (w : World) (l : List UInt8) (j : Nat) (f : Nat → Bool) (k : Nat) (v : Value) (W : World) : Prop :=
 match k with
 | 0 => v = .agg #[.string ⟨l.toArray⟩, .int .i64 (j : Int), .int .i64 0, .int .i64 0]
 | 1 => v = .agg (setA f)
 | 2 => PAt w l j 0 0 W
 | 3 => v = .int .i64 (-1)
 | 4 => SbQ (w.heap.size + 1 + 1) f W
 | _ => True
theorem GvS.keep (w : World) (l : List UInt8) (j : Nat) (f : Nat → Bool) : ∀ k v W W', RvS w l j f W W' → GvS w l j f k v W → GvS w l j f k v W' := by
 intro k v W W' hr hg
 match k with
 | 0 => exact hg
 | 1 => exact hg
 | 2 => exact hr.1 hg
 | 3 => exact hg
 | 4 => exact hr.2 hg
 | k + 5 => trivial
theorem IvS.stp {w : World} {l : List UInt8} {q : Nat} {f : Nat → Bool} {W : World} {j0 : Nat} (h : IvS w l j0 q f W) (j : Nat) (hq : w.heap.size + 1 + 1 ≠ q ∧ w.heap.size + 1 ≠ q) : IvS w l j0 q f (stR w W (.string ⟨l.toArray⟩) (.int .i64 (j : Int)) (.int .i64 0) (.int .i64 0)) ∧ RvS w l j f W (stR w W (.string ⟨l.toArray⟩) (.int .i64 (j : Int)) (.int .i64 0) (.int .i64 0)) ∧ PAt w l j 0 0 (stR w W (.string ⟨l.toArray⟩) (.int .i64 (j : Int)) (.int .i64 0) (.int .i64 0)) ∧ True := by
 obtain ⟨h1, h2, h3, h4⟩ := h.1.res (.string ⟨l.toArray⟩) (.int .i64 (j : Int)) (.int .i64 0) (.int .i64 0)
 obtain ⟨hi, ⟨g, hg⟩, hs⟩ := h
 exact ⟨⟨⟨(h3 _ (by omega)).trans hi.pb, ⟨_, _, _, _, h1⟩, h2⟩, ⟨g, (h3 _ (by omega)).trans hg⟩, (h3 _ (Ne.symm hq.2)).trans hs⟩, ⟨fun _ => h1, fun k => (h3 _ (by omega)).trans k⟩, h1, trivial⟩
theorem put_apartQ {W : World} {g : Nat} {f : Nat → Bool} (_ : SbQ g f W) (f' : Nat → Bool) : Apart g W (W.setRow g (setA f')) :=
 ⟨below_setRow (Below.refl _ W) (Nat.le_refl _) _, fun k hk _ => setRow_other W g k _ (Nat.ne_of_gt hk)⟩
theorem IvS.sts {w : World} {l : List UInt8} {q : Nat} {f : Nat → Bool} {W : World} {j0 : Nat} (h : IvS w l j0 q f W) (j : Nat) (hq : w.heap.size + 1 + 1 ≠ q ∧ w.heap.size + 1 ≠ q) : ∃ W', (storeCells ⟨w.heap.size + 1 + 1, 0, none⟩ (setA f).toList).run Tryz.prog W = .ok () W' ∧ IvS w l j0 q f W' ∧ RvS w l j f W W' ∧ SbQ (w.heap.size + 1 + 1) f W' := by
 obtain ⟨hi, ⟨g, hg⟩, hs⟩ := h
 have e := put_set hg f
 have ha := put_apartQ hg f
 have h5 := setRow_heap W (w.heap.size + 1 + 1) _ (setA f) _ (0, 0) hg
 obtain ⟨a, b, c, d, hr⟩ := hi.rb
 refine ⟨_, e, ⟨⟨(ha.block (by omega) hi.pb.lt).trans hi.pb, ⟨a, b, c, d, (ha.block (by omega) (Array.getElem?_eq_some_iff.1 hr).1).trans hr⟩, hi.bl.trans (ha.1.mono (by omega))⟩, ⟨f, h5⟩, (ha.block (Ne.symm hq.1) hs.lt).trans hs⟩, ⟨fun k => (ha.block (by omega) (Array.getElem?_eq_some_iff.1 k).1).trans k, fun _ => h5⟩, h5⟩
set_option maxHeartbeats 16000000 in
set_option maxRecDepth 1000000 in
theorem ritem_esc (l : List UInt8) (i : Nat) (hl : l.length ≤ 1000) (w : World) (hin : i < l.length) (h92 : pk l i = 92) : Calls Tryz.prog 151 #[.agg #[.string ⟨l.toArray⟩, .int .i64 (i : Int), .int .i64 0, .int .i64 0]] w (RItP l (itemM l false i) w) := by
 have hv := (zero_of_info infoQ).1
 simp only [← setA_false] at hv
 have HEND : Hid (∀ r en w', itemM l false i = r → RItP l r w en w' → RItP l (itemM l false i) w en w') := Lib.hid (fun r en w' e h => by rw [e]; exact h)
 obtain ⟨M, hM⟩ : ∃ M, itemM l false i = M := ⟨_, rfl⟩
 have HM := Lib.hid hM
 rw [hM] at HEND ⊢
 clear hM
 have HI0 : Hid (RI w l i 0 0 (((w.alloc (.cells #[.string ⟨l.toArray⟩, .int .i64 (i : Int), .int .i64 0, .int .i64 0] 111)).alloc (.cells #[.string ⟨#[]⟩, .int .i64 0, .int .i64 0, .int .i64 0] 111)).alloc (.cells (setA (fun _ => false)) 167))) := Lib.hid ((RI.start w l i 0 0).go (al_below _ _))
 have HS0 : Hid (SbQ (w.heap.size + 1 + 1) (fun _ => false) (((w.alloc (.cells #[.string ⟨l.toArray⟩, .int .i64 (i : Int), .int .i64 0, .int .i64 0] 111)).alloc (.cells #[.string ⟨#[]⟩, .int .i64 0, .int .i64 0, .int .i64 0] 111)).alloc (.cells (setA (fun _ => false)) 167))) := Lib.hid (by have := SbQ.new ((w.alloc (.cells #[.string ⟨l.toArray⟩, .int .i64 (i : Int), .int .i64 0, .int .i64 0] 111)).alloc (.cells #[.string ⟨#[]⟩, .int .i64 0, .int .i64 0, .int .i64 0] 111)) (fun _ => false); rwa [show ((w.alloc (.cells #[.string ⟨l.toArray⟩, .int .i64 (i : Int), .int .i64 0, .int .i64 0] 111)).alloc (.cells #[.string ⟨#[]⟩, .int .i64 0, .int .i64 0, .int .i64 0] 111)).heap.size = w.heap.size + 1 + 1 by simp] at this)
 have HPK := Lib.hid fun j W => rpeek0 l j W
 have HF := Lib.hid fun j W => rfail0 l j W
 have hw1 : IntKind.i64.wrap ((i : Int) + 1) = (i : Int) + 1 := IntWalk.i64_in _ (by omega)
 have hw2 : IntKind.i64.wrap ((i : Int) + 1 + 1) = (i : Int) + 1 + 1 := IntWalk.i64_in _ (by omega)
 go_enter Tryz.func151, Tryz.ntmps151
 go_wp2_with fail
 refine (HPK.out _ _).mono ?_
 rintro e w1 ⟨rfl, hb⟩
 have HI1 := Lib.hid (HI0.out.go hb)
 have HS1 := Lib.hid (HS0.out.on hb (by simp))
 clear hb HI0 HS0
 obtain ⟨⟨c0, c1, c2, c3⟩, f0, f1, f2, f3⟩ := HI1.out.cs
 obtain ⟨⟨ra, rb, rc, rd, r0, r1, r2, r3⟩, g0, g1, g2, g3⟩ := HI1.out.rs
 have hc8 := pk_lt l i
 have HPI := Lib.hid fun (h : i < l.length) => pk_in h
 obtain ⟨c, hc⟩ : ∃ c, pk l i = c := ⟨_, rfl⟩
 rw [hc] at hc8 HPI h92
 have HC := Lib.hid hc
 rw [hc]
 clear hc
 subst h92
 have HAT : Hid (Asc.at_ l i = 92) := Lib.hid (HPI.out hin).symm
 rw [itemM_esc HAT.out] at HM
 clear HPI HAT HC hc8
 have z1 : decide ((l.length : Int) ≤ (i : Int)) = false := decide_eq_false (by omega)
 have y1 : decide (l.length ≤ i) = false := decide_eq_false (by omega)
 have HI2 : Hid (RI w l (i + 1) 0 0 (w1.setCell ⟨w.heap.size, 1, none⟩ (.int .i64 ((i : Int) + 1)))) := Lib.hid (HI1.out.to (i + 1))
 have HS2 : Hid (SbQ (w.heap.size + 1 + 1) (fun _ => false) (w1.setCell ⟨w.heap.size, 1, none⟩ (.int .i64 ((i : Int) + 1)))) := Lib.hid (HS1.out.other 1 _ (by omega))
 have HF2 := Lib.hid fun W => rfail0 l (i + 1) W
 have HPK2 := Lib.hid fun W => rpeek0 l (i + 1) W
 rw [show ((i + 1 : Nat) : Int) = (i : Int) + 1 from rfl] at HF2 HPK2
 clear HF HPK HI1 HS1
 by_cases hend : l.length ≤ i + 1
 ·have HPOST : Hid (∀ w', Below w.heap.size w w' → RItP l M w (.returned (.tuple #[.agg #[.string ⟨l.toArray⟩, .int .i64 ((i : Int) + 1), .int .i64 1, .int .i64 ((i : Int) + 1)], .int .i64 0, .agg (setA (fun _ => false))])) w') := Lib.hid (fun w' hb => by
   rw [← HM.out, escM_end (by unfold Asc.at_; rw [List.getElem?_eq_none hend])]
   exact ⟨i + 1, 1, i + 1, 0, _, rfl, hb, ⟨rfl, by decide, rfl⟩, by omega⟩)
  have z2 : decide ((l.length : Int) ≤ (i : Int) + 1) = true := decide_eq_true (by omega)
  have y2 : decide (l.length ≤ i + 1) = true := decide_eq_true hend
  clear HM HEND hend
  go_wp2_with fail
  refine (HF2.out _).mono ?_
  rintro e w3 ⟨rfl, hb⟩
  have HI3 := Lib.hid (HI2.out.go hb)
  have HS3 := Lib.hid (HS2.out.on hb HS2.out.lt)
  clear hb HI2 HS2 c0 c1 c2 c3 f0 f1 f2 f3 r0 r1 r2 r3 g0 g1 g2 g3
  obtain ⟨⟨ra, rb, rc, rd, r0, r1, r2, r3⟩, g0, g1, g2, g3⟩ := HI3.out.rs
  obtain ⟨w5, e5, h5, h6, hb5⟩ := HI3.out.set HS3.out (.string ⟨l.toArray⟩) (.int .i64 ((i : Int) + 1)) (.int .i64 1) (.int .i64 ((i : Int) + 1)) (fun _ => false)
  rw [stR] at e5
  go_wp2_with fail
  exact ret_ctc rfl (by rfl) (by rfl) (by rfl) (lv_rp h5) (lv_st h6) (HPOST.out _ hb5)
 ·have z2 : decide ((l.length : Int) ≤ (i : Int) + 1) = false := decide_eq_false (by omega)
  have y2 : decide (l.length ≤ i + 1) = false := decide_eq_false hend
  go_wp2_with fail
  refine (HPK2.out _).mono ?_
  rintro e w3 ⟨rfl, hb⟩
  have HI3 := Lib.hid (HI2.out.go hb)
  have HS3 := Lib.hid (HS2.out.on hb HS2.out.lt)
  clear hb HI2 HS2 c0 c1 c2 c3 f0 f1 f2 f3 r0 r1 r2 r3 g0 g1 g2 g3 HPK2
  have hd8 := pk_lt l (i + 1)
  have hpi := pk_in (show i + 1 < l.length by omega)
  obtain ⟨d, hd⟩ : ∃ d, pk l (i + 1) = d := ⟨_, rfl⟩
  rw [hd] at hd8 hpi ⊢
  have HAT : Hid (Asc.at_ l (i + 1) = d) := Lib.hid hpi.symm
  have HND := Lib.hid fun W => rnamed_any d W
  have HSD := Lib.hid fun W => rsingle_any d hd8 W
  clear hd hpi hend
  obtain ⟨gb, hgb⟩ : ∃ b, nmG d = b := ⟨_, rfl⟩
  obtain ⟨sb, hsb⟩ : ∃ b, sgB d = b := ⟨_, rfl⟩
  rw [hgb] at HND
  rw [hsb] at HSD
  have HGB := Lib.hid hgb
  have HSB := Lib.hid hsb
  clear hgb hsb
  go_wp2_with fail
  refine (HND.out _).mono ?_
  rintro e w4 ⟨rfl, hb⟩
  have HI4 := Lib.hid (HI3.out.go hb)
  have HS4 := Lib.hid (HS3.out.on hb HS3.out.lt)
  have HQ0 := Lib.hid (SbQ.new w4 (fun _ => false))
  have HI5 := Lib.hid (HI4.out.go (al_below w4 (.cells (setA (fun _ => false)) 167)))
  have HS5 := Lib.hid (HS4.out.on (al_below w4 (.cells (setA (fun _ => false)) 167)) HS4.out.lt)
  have hqb := HI4.out.sz
  have HQS := Lib.hid HS4.out.lt
  have HQL : Hid (w.heap.size + 1 + 1 ≠ w4.heap.size ∧ w.heap.size + 1 ≠ w4.heap.size) := Lib.hid (by have := HS4.out.lt; omega)
  obtain ⟨w6, e6, h6, hb6, e6'⟩ := put_set2 HQ0.out (nmF d)
  have HI6 := Lib.hid (HI5.out.on hb6 hqb)
  have HS6 := Lib.hid (HS5.out.on hb6 HQS.out)
  have HQ6 : Hid (SbQ w4.heap.size (nmF d) w6) := Lib.hid h6
  clear hb HI3 HS3 HND hb6 h6 HI4 HS4 HI5 HS5 HQ0
  obtain ⟨⟨c0, c1, c2, c3⟩, f0, f1, f2, f3⟩ := HI6.out.cs
  obtain ⟨⟨ra, rb, rc, rd, r0, r1, r2, r3⟩, g0, g1, g2, g3⟩ := HI6.out.rs
  cases gb with
  | true =>
   have HI7 : Hid (RI w l (i + 1 + 1) 0 0 (w6.setCell ⟨w.heap.size, 1, none⟩ (.int .i64 ((i : Int) + 1 + 1)))) := Lib.hid (HI6.out.to (i + 1 + 1))
   have HS7 : Hid (SbQ (w.heap.size + 1 + 1) (fun _ => false) (w6.setCell ⟨w.heap.size, 1, none⟩ (.int .i64 ((i : Int) + 1 + 1)))) := Lib.hid (HS6.out.other 1 _ (by omega))
   have HQ7 : Hid (SbQ w4.heap.size (nmF d) (w6.setCell ⟨w.heap.size, 1, none⟩ (.int .i64 ((i : Int) + 1 + 1)))) := Lib.hid (HQ6.out.other 1 _ (by omega))
   have HPOST : Hid (∀ w', Below w.heap.size w w' → RItP l M w (.returned (.tuple #[.agg #[.string ⟨l.toArray⟩, .int .i64 ((i : Int) + 1 + 1), .int .i64 0, .int .i64 0], .int .i64 (-1), .agg (setA (nmF d))])) w') := Lib.hid (fun w' hb => by
    rw [← HM.out, escM_named HAT.out HGB.out]
    refine ⟨i + 1 + 1, 0, 0, -1, _, rfl, hb, ?_⟩
    exact ⟨⟨rfl, rfl, rfl⟩, hd8, fun h => Bool.noConfusion h, fun _ => ⟨rfl, rfl⟩⟩)
   go_wp2_with fail
   clear c0 c1 c2 c3 f0 f1 f2 f3 r0 r1 r2 r3 g0 g1 g2 g3 e6 e6' HI6 HS6 HQ6 HM HEND
   obtain ⟨w7, hw7⟩ : ∃ w7, w6.setCell ⟨w.heap.size, 1, none⟩ (.int .i64 ((i : Int) + 1 + 1)) = w7 := ⟨_, rfl⟩
   rw [hw7] at HI7 HS7 HQ7 ⊢
   clear hw7
   refine wp_region_slotsB (by rfl) (by kernel_rfl) (by kernel_rfl) 97 [] [(1, .pointer (some ⟨w.heap.size, 0, none⟩)), (2, .pointer (some ⟨w.heap.size + 1, 0, none⟩)), (4, .pointer (some ⟨w.heap.size + 1 + 1, 0, none⟩)), (6, .pointer (some ⟨w4.heap.size, 0, none⟩))] (by kernel_rfl) (IvS w l (i + 1 + 1) w4.heap.size (nmF d)) (RvS w l (i + 1 + 1) (nmF d)) (GvS w l (i + 1 + 1) (nmF d)) (GvS.keep w l (i + 1 + 1) (nmF d)) ?_ ?_ ⟨rfl, rfl, fun s v hs => ?_, HI7.out.go (Below.refl _ _).drew, ⟨_, HS7.out.on (Below.refl _ _).drew HS7.out.lt⟩, HQ7.out.on (Below.refl _ _).drew HQ7.out.lt⟩
   case refine_1 =>
    intro k o ho ac W hB hd K hK
    have hk5 : k < 5 := (Array.getElem?_eq_some_iff.1 ho).1
    have hs1 : ac.tmps.getD 1 undef = .pointer (some ⟨w.heap.size, 0, none⟩) := hB.fixed 1 _ (by simp)
    have hs2 : ac.tmps.getD 2 undef = .pointer (some ⟨w.heap.size + 1, 0, none⟩) := hB.fixed 2 _ (by simp)
    have hs4 : ac.tmps.getD 4 undef = .pointer (some ⟨w.heap.size + 1 + 1, 0, none⟩) := hB.fixed 4 _ (by simp)
    have hs6 : ac.tmps.getD 6 undef = .pointer (some ⟨w4.heap.size, 0, none⟩) := hB.fixed 6 _ (by simp)
    obtain ⟨hi, ⟨g, hg⟩, hq⟩ := hB.inv
    have HIW := Lib.hid hi
    have HSW := Lib.hid hg
    have HQW := Lib.hid hq
    have HKK := Lib.hid hK
    obtain ⟨⟨c0, c1, c2, c3⟩, f0, f1, f2, f3⟩ := hi.cs
    obtain ⟨⟨ra, rb, rc, rd, r0, r1, r2, r3⟩, g0, g1, g2, g3⟩ := hi.rs
    clear hK hB hi hg hq
    rcases (show k = 0 ∨ k = 1 ∨ k = 2 ∨ k = 3 ∨ k = 4 by omega) with rfl | rfl | rfl | rfl | rfl
    ·obtain rfl := Option.some.inj ho
     go_simp
     exact HKK.out _ _ (RvS.refl _ _ _ _ _) ⟨HIW.out, ⟨_, HSW.out⟩, HQW.out⟩ rfl
    ·obtain rfl := Option.some.inj ho
     refine wp_load_setQ _ rfl w4.heap.size ((show ac.eval (Operand.tmp 6) = ac.tmps.getD 6 undef from rfl).trans hs6) _ _ HQW.out ?_
     exact HKK.out _ _ (RvS.refl _ _ _ _ _) ⟨HIW.out, ⟨_, HSW.out⟩, HQW.out⟩ rfl
    ·obtain rfl := Option.some.inj ho
     have hd0 : ac.tmps.getD 76 undef = .agg #[.string ⟨l.toArray⟩, .int .i64 ((i : Int) + 1 + 1), .int .i64 0, .int .i64 0] := hd ⟨0, .data⟩ (by simp) rfl
     obtain ⟨s1, s2, s3, s4⟩ := IvS.stp ⟨HIW.out, ⟨_, HSW.out⟩, HQW.out⟩ (i + 1 + 1) HQL.out
     have S1 := Lib.hid s1
     have S2 := Lib.hid s2
     have S3 := Lib.hid s3
     clear s1 s2 s3 s4
     go_simp
     exact HKK.out undef _ S2.out S1.out S3.out
    ·obtain rfl := Option.some.inj ho
     go_simp
     exact HKK.out _ _ (RvS.refl _ _ _ _ _) ⟨HIW.out, ⟨_, HSW.out⟩, HQW.out⟩ rfl
    ·obtain rfl := Option.some.inj ho
     have hd1 : ac.tmps.getD 77 undef = .agg (setA (nmF d)) := hd ⟨1, .data⟩ (by simp) rfl
     obtain ⟨w8, e8, s1, s2, s3⟩ := IvS.sts ⟨HIW.out, ⟨_, HSW.out⟩, HQW.out⟩ (i + 1 + 1) HQL.out
     have S1 := Lib.hid s1
     have S2 := Lib.hid s2
     have S3 := Lib.hid s3
     clear s1 s2 s3
     go_simp
     exact HKK.out undef _ S2.out S1.out S3.out
   case refine_2 =>
    intro ac W hB hG
    have h2 : W.heap[w.heap.size + 1]? = _ := hG 2 (by decide)
    have h4 : SbQ (w.heap.size + 1 + 1) (nmF d) W := hG 4 (by decide)
    have h3 : ac.tmps.getD 3 undef = .int .i64 (-1) := hG 3 (by decide)
    have hs2 : ac.tmps.getD 2 undef = .pointer (some ⟨w.heap.size + 1, 0, none⟩) := hB.fixed 2 _ (by simp)
    have hs4 : ac.tmps.getD 4 undef = .pointer (some ⟨w.heap.size + 1 + 1, 0, none⟩) := hB.fixed 4 _ (by simp)
    have hbw := hB.inv.1.bl
    have hdf := hB.defers
    obtain ⟨tm, df⟩ := ac
    obtain rfl : df = [] := hdf
    have HR := Lib.hid (ret_ctc (fn := Tryz.f151) (post := RItP l M w) rfl hs2 h3 hs4 (lv_rp h2) (lv_st h4) (HPOST.out _ hbw))
    clear hB hG h2 h4 h3 hs2 hs4
    go_wp2_with fail
    exact HR.out
   case refine_3 =>
    simp only [List.mem_cons, Prod.mk.injEq, List.not_mem_nil, or_false] at hs
    rcases hs with ⟨rfl, rfl⟩ | ⟨rfl, rfl⟩ | ⟨rfl, rfl⟩ | ⟨rfl, rfl⟩ <;> rfl
  | false =>
   go_wp2_with fail
   refine (HSD.out _).mono ?_
   rintro e w7 ⟨rfl, rfl⟩
   cases sb with
   | true =>
    have HI7 : Hid (RI w l (i + 1 + 1) 0 0 (w6.setCell ⟨w.heap.size, 1, none⟩ (.int .i64 ((i : Int) + 1 + 1)))) := Lib.hid (HI6.out.to (i + 1 + 1))
    have HS7 : Hid (SbQ (w.heap.size + 1 + 1) (fun _ => false) (w6.setCell ⟨w.heap.size, 1, none⟩ (.int .i64 ((i : Int) + 1 + 1)))) := Lib.hid (HS6.out.other 1 _ (by omega))
    have HPOST : Hid (∀ w', Below w.heap.size w w' → RItP l M w (.returned (.tuple #[.agg #[.string ⟨l.toArray⟩, .int .i64 ((i : Int) + 1 + 1), .int .i64 0, .int .i64 0], .int .i64 (sgN d : Int), .agg (setA (fun _ => false))])) w') := Lib.hid (fun w' hb => by
     rw [← HM.out, escM_single HAT.out HGB.out HSB.out]
     refine ⟨i + 1 + 1, 0, 0, sgN d, _, rfl, hb, ?_⟩
     exact ⟨⟨rfl, rfl, rfl⟩, sgN_lt hd8, fun _ => ⟨rfl, rfl⟩, fun h => Bool.noConfusion h⟩)
    obtain ⟨w8, e8, h8, h9, hb8⟩ := HI7.out.set HS7.out (.string ⟨l.toArray⟩) (.int .i64 ((i : Int) + 1 + 1)) (.int .i64 0) (.int .i64 0) (fun _ => false)
    rw [stR] at e8
    clear e6 e6' HI6 HS6 HQ6 HM HEND
    go_wp2_with fail
    exact ret_ctc rfl (by rfl) (by rfl) (by rfl) (lv_rp h8) (lv_st h9) (HPOST.out _ hb8)
   | false =>
    have HPOST : Hid (∀ w', Below w.heap.size w w' → RItP l M w (.returned (.tuple #[.agg #[.string ⟨l.toArray⟩, .int .i64 ((i : Int) + 1), .int .i64 1, .int .i64 ((i : Int) + 1)], .int .i64 0, .agg (setA (fun _ => false))])) w') := Lib.hid (fun w' hb => by
     rw [← HM.out, escM_bad HAT.out HGB.out HSB.out]
     exact ⟨i + 1, 1, i + 1, 0, _, rfl, hb, ⟨rfl, by decide, rfl⟩, by omega⟩)
    clear e6 e6' HM HEND
    go_wp2_with fail
    refine (HF2.out _).mono ?_
    rintro e w7 ⟨rfl, hb⟩
    have HI7 := Lib.hid (HI6.out.go hb)
    have HS7 := Lib.hid (HS6.out.on hb HS6.out.lt)
    clear hb HI6 HS6 HQ6 c0 c1 c2 c3 f0 f1 f2 f3 r0 r1 r2 r3 g0 g1 g2 g3
    obtain ⟨⟨ra, rb, rc, rd, r0, r1, r2, r3⟩, g0, g1, g2, g3⟩ := HI7.out.rs
    obtain ⟨w8, e8, h8, h9, hb8⟩ := HI7.out.set HS7.out (.string ⟨l.toArray⟩) (.int .i64 ((i : Int) + 1)) (.int .i64 1) (.int .i64 ((i : Int) + 1)) (fun _ => false)
    rw [stR] at e8
    go_wp2_with fail
    exact ret_ctc rfl (by rfl) (by rfl) (by rfl) (lv_rp h8) (lv_st h9) (HPOST.out _ hb8)
end Go.Proofs.YtgcpinnnfoanjaaGreatDoor

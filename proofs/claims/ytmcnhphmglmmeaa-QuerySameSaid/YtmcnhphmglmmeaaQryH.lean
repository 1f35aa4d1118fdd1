/-
  Stages: query.sameStage, slices.EqualFunc at stages.
-/
import Derived.Test.YtmcnhphmglmmeaaQryG
namespace Go.Proofs.Ytmcnhphmglmmeaa
open Go.RowKit

/-- A stage, plainly. -/
structure QS where
  ex : Bool
  src : List UInt8
  t : QT
def SAt (w : World) (s : QS) (v : Value) : Prop := ∃ op nm tx num a n c, v = .agg #[.bool s.ex, .string ⟨s.src.toArray⟩, .int .i64 op, .string ⟨(nm : List UInt8).toArray⟩, .string ⟨(tx : List UInt8).toArray⟩, .int .i64 num, .slice a n c] ∧
    TAt w s.t (.agg #[.int .i64 op, .string ⟨nm.toArray⟩, .string ⟨tx.toArray⟩, .int .i64 num, .slice a n c])
theorem SAt.later {w w' : World} (hb : Below w.heap.size w w') {s : QS} {v : Value} (h : SAt w s v) : SAt w' s v := by
  obtain ⟨op, nm, tx, num, a, n, c, e, ht⟩ := h
  exact ⟨op, nm, tx, num, a, n, c, e, TAt.later hb _ _ ht⟩
/-- Stages as they lie. -/
def LAt (w : World) (ss : List QS) (v : Value) : Prop := ∃ a c, v = .slice a ss.length c ∧ ss.length ≤ 9223372036854775807 ∧
    (∀ i (h : i < ss.length), ∃ blk off ex src op' nm' tx' num' a' n' c', a = some ⟨blk, off, none⟩ ∧ blk < w.heap.size ∧ w.cell? ⟨blk, off + i * 7, none⟩ = some (.bool ex) ∧ w.cell? ⟨blk, off + i * 7 + 1, none⟩ = some (.string ⟨(src : List UInt8).toArray⟩) ∧
      w.cell? ⟨blk, off + i * 7 + 2, none⟩ = some (.int .i64 op') ∧ w.cell? ⟨blk, off + i * 7 + 3, none⟩ = some (.string ⟨(nm' : List UInt8).toArray⟩) ∧
      w.cell? ⟨blk, off + i * 7 + 4, none⟩ = some (.string ⟨(tx' : List UInt8).toArray⟩) ∧ w.cell? ⟨blk, off + i * 7 + 5, none⟩ = some (.int .i64 num') ∧ w.cell? ⟨blk, off + i * 7 + 6, none⟩ = some (.slice a' n' c') ∧
      ss[i].ex = ex ∧ ss[i].src = src ∧ TAt w ss[i].t (.agg #[.int .i64 op', .string ⟨nm'.toArray⟩, .string ⟨tx'.toArray⟩, .int .i64 num', .slice a' n' c']))
theorem LAt.later {w w' : World} (hb : Below w.heap.size w w') {ss : List QS} {v : Value} (h : LAt w ss v) : LAt w' ss v := by
  obtain ⟨a, c, e, hm, hk⟩ := h
  refine ⟨a, c, e, hm, fun i hi => ?_⟩
  obtain ⟨blk, off, ex, src, op', nm', tx', num', a', n', c', e1, hl, c0, c1, c2, c3, c4, c5, c6, x1, x2, ht⟩ := hk i hi
  exact ⟨blk, off, ex, src, op', nm', tx', num', a', n', c', e1, Nat.lt_of_lt_of_le hl hb.size, (hb.cell (p := ⟨blk, off + i * 7, none⟩) hl).trans c0, (hb.cell (p := ⟨blk, off + i * 7 + 1, none⟩) hl).trans c1, (hb.cell (p := ⟨blk, off + i * 7 + 2, none⟩) hl).trans c2, (hb.cell (p := ⟨blk, off + i * 7 + 3, none⟩) hl).trans c3, (hb.cell (p := ⟨blk, off + i * 7 + 4, none⟩) hl).trans c4, (hb.cell (p := ⟨blk, off + i * 7 + 5, none⟩) hl).trans c5, (hb.cell (p := ⟨blk, off + i * 7 + 6, none⟩) hl).trans c6, x1, x2, TAt.later hb _ _ ht⟩

noncomputable def eqS (s t : QS) : Bool := @decide (s = t) (Classical.propDecidable _)
theorem eqS_no {s t : QS} (h : s ≠ t) : eqS s t = false := by unfold eqS; exact @decide_eq_false _ (Classical.propDecidable _) h
theorem eqS_yes {s t : QS} (h : s = t) : eqS s t = true := by unfold eqS; exact @decide_eq_true _ (Classical.propDecidable _) h

set_option maxRecDepth 100000 in
set_option maxHeartbeats 4000000 in
theorem same_stage (s t : QS) (u v : Value) (w : World) (hs : SAt w s u) (ht : SAt w t v) :
    Calls Try.prog 21 #[u, v] w fun e w' => e = .returned (.bool (eqS s t)) ∧ Below w.heap.size w w' := by
  obtain ⟨ex, src, t1⟩ := s
  obtain ⟨ex2, src2, t2⟩ := t
  obtain ⟨op, nm, tx, num, a, n, c, rfl, hk⟩ := hs
  obtain ⟨op2, nm2, tx2, num2, a2, n2, c2, rfl, hk2⟩ := ht
  simp only at hk hk2 ⊢
  have HB0 : Hid (Below w.heap.size w ((w.alloc (.cells #[.bool ex, .string ⟨src.toArray⟩, .int .i64 op, .string ⟨nm.toArray⟩, .string ⟨tx.toArray⟩, .int .i64 num, .slice a n c] 41)).alloc (.cells #[.bool ex2, .string ⟨src2.toArray⟩, .int .i64 op2, .string ⟨nm2.toArray⟩, .string ⟨tx2.toArray⟩, .int .i64 num2, .slice a2 n2 c2] 41))) :=
    ((Below.refl _ w).alloc (Nat.le_refl _) _).alloc (by simp) _
  have HC := Lib.hid (qsame_aux _ t1 t2 _ _ _ (Nat.lt_succ_self _) (TAt.later HB0.out _ _ hk) (TAt.later HB0.out _ _ hk2))
  clear hk hk2
  by_cases h0 : ¬ ex = ex2
  · have z0 : (ex == ex2) = false := by simp [h0]
    have HE := Lib.hid (eqS_no (s := ⟨ex, src, t1⟩) (t := ⟨ex2, src2, t2⟩) (fun e => h0 (by injection e)))
    go_enter Try.func21, Try.ntmps21
    go_wp2_with fail
    go_ret
    exact ⟨ret_bool HE.out.symm, HB0.out⟩
  obtain rfl := Classical.not_not.1 h0
  clear h0
  have z0 : (ex == ex) = true := by simp
  by_cases h1 : ¬ src = src2
  · have z1 : (src == src2) = false := by simp [h1]
    have HE := Lib.hid (eqS_no (s := ⟨ex, src, t1⟩) (t := ⟨ex, src2, t2⟩) (fun e => h1 (by injection e)))
    go_enter Try.func21, Try.ntmps21
    go_wp2_with fail
    go_ret
    exact ⟨ret_bool HE.out.symm, HB0.out⟩
  obtain rfl := Classical.not_not.1 h1
  clear h1
  have HE := Lib.hid (show eqS ⟨ex, src, t1⟩ ⟨ex, src, t2⟩ = eqT t1 t2 by
    by_cases h : t1 = t2
    · rw [eqT_yes h, eqS_yes (by rw [h])]
    · rw [eqT_no h, eqS_no (fun e => h (by injection e))])
  go_enter Try.func21, Try.ntmps21
  go_wp2_with (go_at_call 19; refine HC.out.mono ?_; rintro e w2 ⟨rfl, hb2⟩; have HB3 := Lib.hid (HB0.out.trans (hb2.mono HB0.out.size)))
  go_ret
  exact ⟨ret_bool HE.out.symm, HB3.out⟩

set_option maxRecDepth 100000 in
set_option maxHeartbeats 4000000 in
theorem equal_stages (ss1 ss2 : List QS) (u v : Value) (w : World) (h1 : LAt w ss1 u) (h2 : LAt w ss2 v) :
    Calls Try.prog 20 #[u, v, .func (.func 21) #[] #[]] w fun e w' => e = .returned (.bool (eqL ss1 ss2)) ∧ Below w.heap.size w w' := by
  obtain ⟨a, c, rfl, hm, hk⟩ := h1
  obtain ⟨a2, c2, rfl, hm2, hk2⟩ := h2
  have HK := Lib.hid hk
  have HK2 := Lib.hid hk2
  clear hk hk2
  by_cases h4 : ¬ ss1.length = ss2.length
  · have z4 : ((ss1.length : Int) != (ss2.length : Int)) = true := by rw [bne_iff_ne]; omega
    have HE := Lib.hid (eqL_no (s := ss1) (t := ss2) (fun e => h4 (by rw [e])))
    go_enter Try.func20, Try.ntmps20
    go_wp2_with fail
    go_ret
    exact ⟨ret_bool HE.out.symm, Below.refl _ _⟩
  have h5 : ss1.length = ss2.length := Classical.not_not.1 h4
  clear h4
  have H5 := Lib.hid h5
  rw [← h5] at hm2 ⊢
  clear h5
  go_enter Try.func20, Try.ntmps20
  go_wp2_with fail
  go_loopw [17] (fun i wr => ∃ (k : Nat), i = .int .i64 k ∧ k ≤ ss1.length ∧ (∀ j (h : j < ss1.length) (h' : j < ss2.length), j < k → ss1[j] = ss2[j]) ∧ Below w.heap.size w wr) (fun i _ => ss1.length - (intOf i).toNat)
  case atStart => exact ⟨0, rfl, by omega, fun j _ _ h => absurd h (by omega), Below.refl _ _⟩
  case round =>
    obtain ⟨k, rfl, hkl, hq, hb⟩ := hrel
    have HQ := Lib.hid hq
    have HB := Lib.hid hb
    clear hq hb
    by_cases hlt : k < ss1.length
    · have hlt2 : k < ss2.length := H5.out ▸ hlt
      obtain ⟨blk, off, ex1, src1, op1, nm1, tx1, num1, a1, n1, c1, rfl, hl, p0, p1, p2, p3, p4, p5, p6, x1, x2, ht⟩ := HK.out k hlt
      obtain ⟨blk2, off2, ex2, src2, op2, nm2, tx2, num2, a3, n2, c3, rfl, hl2, q0, q1, q2, q3, q4, q5, q6, y1, y2, ht2⟩ := HK2.out k hlt2
      have e0 := (HB.out.cell (p := ⟨blk, off + k * 7, none⟩) hl).trans p0
      have e1 := (HB.out.cell (p := ⟨blk, off + k * 7 + 1, none⟩) hl).trans p1
      have e2 := (HB.out.cell (p := ⟨blk, off + k * 7 + 2, none⟩) hl).trans p2
      have e3 := (HB.out.cell (p := ⟨blk, off + k * 7 + 3, none⟩) hl).trans p3
      have e4 := (HB.out.cell (p := ⟨blk, off + k * 7 + 4, none⟩) hl).trans p4
      have e5 := (HB.out.cell (p := ⟨blk, off + k * 7 + 5, none⟩) hl).trans p5
      have e6 := (HB.out.cell (p := ⟨blk, off + k * 7 + 6, none⟩) hl).trans p6
      have f0 := (HB.out.cell (p := ⟨blk2, off2 + k * 7, none⟩) hl2).trans q0
      have f1 := (HB.out.cell (p := ⟨blk2, off2 + k * 7 + 1, none⟩) hl2).trans q1
      have f2 := (HB.out.cell (p := ⟨blk2, off2 + k * 7 + 2, none⟩) hl2).trans q2
      have f3 := (HB.out.cell (p := ⟨blk2, off2 + k * 7 + 3, none⟩) hl2).trans q3
      have f4 := (HB.out.cell (p := ⟨blk2, off2 + k * 7 + 4, none⟩) hl2).trans q4
      have f5 := (HB.out.cell (p := ⟨blk2, off2 + k * 7 + 5, none⟩) hl2).trans q5
      have f6 := (HB.out.cell (p := ⟨blk2, off2 + k * 7 + 6, none⟩) hl2).trans q6
      have hl1' := (Nat.lt_of_lt_of_le hl HB.out.size)
      have hl2' := (Nat.lt_of_lt_of_le hl2 HB.out.size)
      have hne : blk2 ≠ wr.heap.size := Nat.ne_of_lt hl2'
      have i1 : (k : Int) < (ss1.length : Int) := by omega
      have i2 : (0 : Int) ≤ (k : Int) := by omega
      have HT := Lib.hid (show SAt w ss1[k] _ from ⟨_, _, _, _, _, _, _, rfl, ht⟩)
      rw [x1, x2] at HT
      have HT2 := Lib.hid (show SAt w ss2[k] _ from ⟨_, _, _, _, _, _, _, rfl, ht2⟩)
      rw [y1, y2] at HT2
      clear p0 p1 p2 p3 p4 p5 p6 ht q0 q1 q2 q3 q4 q5 q6 ht2 x1 x2 y1 y2
      have HBW : Hid (Below w.heap.size w ((wr.alloc (.cells #[.bool ex1, .string ⟨src1.toArray⟩, .int .i64 op1, .string ⟨nm1.toArray⟩, .string ⟨tx1.toArray⟩, .int .i64 num1, .slice a1 n1 c1] 41)).alloc (.cells #[.bool ex2, .string ⟨src2.toArray⟩, .int .i64 op2, .string ⟨nm2.toArray⟩, .string ⟨tx2.toArray⟩, .int .i64 num2, .slice a3 n2 c3] 41))) := (HB.out.alloc HB.out.size _).alloc (by have := HB.out.size; simp; omega) _
      have HI := Lib.hid (same_stage ss1[k] ss2[k] _ _ _ (SAt.later HBW.out HT.out) (SAt.later HBW.out HT2.out))
      clear HT HT2
      by_cases heq : ss1[k] = ss2[k]
      · have HI2 := Lib.hid (eqS_yes heq ▸ HI.out)
        clear HI
        have HEQ := Lib.hid heq
        clear heq
        go_wp2_with fail
        refine HI2.out.mono ?_
        rintro e w2 ⟨rfl, hb2⟩
        have HB3 := Lib.hid (HBW.out.trans (hb2.mono HBW.out.size))
        clear hb2 hl1' hl2' e0 e1 e2 e3 e4 f0 f1 f2 f3 f4 e5 e6 f5 f6
        go_wp2_with fail
        go_roundw
        case rel =>
          refine ⟨k + 1, by go_num, by omega, fun j h h' hj => ?_, HB3.out⟩
          by_cases hjk : j = k
          · subst hjk
            exact HEQ.out
          · exact HQ.out j h h' (by omega)
        case measure => simp [intOf]; omega
      · have HI2 := Lib.hid (eqS_no heq ▸ HI.out)
        clear HI
        have HE := Lib.hid (eqL_no (s := ss1) (t := ss2) (fun e => heq (by subst e; rfl)))
        clear heq
        go_wp2_with fail
        refine HI2.out.mono ?_
        rintro e w2 ⟨rfl, hb2⟩
        have HB3 := Lib.hid (HBW.out.trans (hb2.mono HBW.out.size))
        clear hb2 hl1' hl2' e0 e1 e2 e3 e4 f0 f1 f2 f3 f4 e5 e6 f5 f6
        go_wp2_with fail
        go_ret
        exact ⟨ret_bool HE.out.symm, HB3.out⟩
    · have HE := Lib.hid (eqL_yes (List.ext_getElem H5.out (fun j h h' => HQ.out j h h' (by omega))))
      go_wp2_with fail
      go_ret
      exact ⟨ret_bool HE.out.symm, HB.out⟩

end Go.Proofs.Ytmcnhphmglmmeaa

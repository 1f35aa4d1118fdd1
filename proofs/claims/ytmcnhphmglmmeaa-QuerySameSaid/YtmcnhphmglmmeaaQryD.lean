/-
  SameTest of the reference: whether two trees are equal.
-/
import Derived.Test.YtmcnhphmglmmeaaQryC
import Derived.Deep.RegionHeld3
namespace Go.Proofs.Ytmcnhphmglmmeaa
open Go.RowKit

noncomputable def eqT (s t : QT) : Bool := @decide (s = t) (Classical.propDecidable _)
theorem eqT_no {s t : QT} (h : s ≠ t) : eqT s t = false := by unfold eqT; exact @decide_eq_false _ (Classical.propDecidable _) h
theorem eqT_yes {s t : QT} (h : s = t) : eqT s t = true := by unfold eqT; exact @decide_eq_true _ (Classical.propDecidable _) h

set_option maxRecDepth 100000 in
set_option maxHeartbeats 4000000 in
theorem same_aux (N : Nat) : ∀ (s t : QT) (u v : Value) (w : World), SizeOf.sizeOf s < N → TAt w s u → TAt w t v →
    Calls Try.prog 24 #[u, v] w fun e w' => e = .returned (.bool (eqT s t)) ∧ Below w.heap.size w w' := by
  induction N with
  | zero => intro s t u v w h _ _; omega
  | succ N ih =>
  intro s t u v w hN hs ht
  obtain ⟨op, nm, tx, num, kids, a, c, rfl, rfl, hml, hk⟩ := hs.open
  obtain ⟨op2, nm2, tx2, num2, kids2, a2, c2, rfl, rfl, hml2, hk2⟩ := ht.open
  have IH := Lib.hid fun (i : Nat) (hi : i < kids.length) (t : QT) (W : World) (x y : Value) (hx : TAt W kids[i] x) (hy : TAt W t y) => ih kids[i] t x y W (by have := kid_lt (op := op) (num := num) (nm := nm) (tx := tx) i hi; omega) hx hy
  have HK := Lib.hid hk
  have HK2 := Lib.hid hk2
  have HB0 : Hid (Below w.heap.size w ((w.alloc (.cells #[.int .i64 op, .string ⟨nm.toArray⟩, .string ⟨tx.toArray⟩, .int .i64 num, .slice a kids.length c] 24)).alloc (.cells #[.int .i64 op2, .string ⟨nm2.toArray⟩, .string ⟨tx2.toArray⟩, .int .i64 num2, .slice a2 kids2.length c2] 24))) :=
    ((Below.refl _ w).alloc (Nat.le_refl _) _).alloc (by simp) _
  clear hk hk2 ih hN hs ht
  by_cases h0 : ¬ op = op2
  · have z0 : (op != op2) = true := by rw [bne_iff_ne]; exact h0
    have HE := Lib.hid (eqT_no (s := .node op nm tx num kids) (t := .node op2 nm2 tx2 num2 kids2) (fun e => h0 (by injection e)))
    go_enter Try.func24, Try.ntmps24
    go_wp2_with fail
    go_ret
    exact ⟨ret_bool HE.out.symm, HB0.out⟩
  obtain rfl := Classical.not_not.1 h0
  clear h0
  by_cases h1 : ¬ nm = nm2
  · have z1 : (!nm == nm2) = true := by simp [h1]
    have HE := Lib.hid (eqT_no (s := .node op nm tx num kids) (t := .node op nm2 tx2 num2 kids2) (fun e => h1 (by injection e)))
    go_enter Try.func24, Try.ntmps24
    go_wp2_with fail
    go_ret
    exact ⟨ret_bool HE.out.symm, HB0.out⟩
  obtain rfl := Classical.not_not.1 h1
  clear h1
  by_cases h2 : ¬ tx = tx2
  · have z2 : (!tx == tx2) = true := by simp [h2]
    have HE := Lib.hid (eqT_no (s := .node op nm tx num kids) (t := .node op nm tx2 num2 kids2) (fun e => h2 (by injection e)))
    go_enter Try.func24, Try.ntmps24
    go_wp2_with fail
    go_ret
    exact ⟨ret_bool HE.out.symm, HB0.out⟩
  obtain rfl := Classical.not_not.1 h2
  clear h2
  by_cases h3 : ¬ num = num2
  · have z3 : (num != num2) = true := by rw [bne_iff_ne]; exact h3
    have HE := Lib.hid (eqT_no (s := .node op nm tx num kids) (t := .node op nm tx num2 kids2) (fun e => h3 (by injection e)))
    go_enter Try.func24, Try.ntmps24
    go_wp2_with fail
    go_ret
    exact ⟨ret_bool HE.out.symm, HB0.out⟩
  obtain rfl := Classical.not_not.1 h3
  clear h3
  by_cases h4 : ¬ kids.length = kids2.length
  · have z4 : ((kids.length : Int) != (kids2.length : Int)) = true := by rw [bne_iff_ne]; omega
    have HE := Lib.hid (eqT_no (s := .node op nm tx num kids) (t := .node op nm tx num kids2) (fun e => h4 (by injection e with _ _ _ _ e; rw [e])))
    go_enter Try.func24, Try.ntmps24
    go_wp2_with fail
    go_ret
    exact ⟨ret_bool HE.out.symm, HB0.out⟩
  have h5 : kids.length = kids2.length := Classical.not_not.1 h4
  clear h4
  have H5 := Lib.hid h5
  rw [← h5] at HB0 hml2 ⊢
  clear h5
  have HBOX := Lib.hid fun W (hb : Below ((w.alloc (.cells #[.int .i64 op, .string ⟨nm.toArray⟩, .string ⟨tx.toArray⟩, .int .i64 num, .slice a kids.length c] 24)).alloc (.cells #[.int .i64 op, .string ⟨nm.toArray⟩, .string ⟨tx.toArray⟩, .int .i64 num, .slice a2 kids.length c2] 24)).heap.size ((w.alloc (.cells #[.int .i64 op, .string ⟨nm.toArray⟩, .string ⟨tx.toArray⟩, .int .i64 num, .slice a kids.length c] 24)).alloc (.cells #[.int .i64 op, .string ⟨nm.toArray⟩, .string ⟨tx.toArray⟩, .int .i64 num, .slice a2 kids.length c2] 24)) W) => (hb.cell (p := ⟨w.heap.size, 4, none⟩) (by simp; omega)).trans (show _ = some (Value.slice a kids.length c) by simp [go_sem])
  have HBOX2 := Lib.hid fun W (hb : Below ((w.alloc (.cells #[.int .i64 op, .string ⟨nm.toArray⟩, .string ⟨tx.toArray⟩, .int .i64 num, .slice a kids.length c] 24)).alloc (.cells #[.int .i64 op, .string ⟨nm.toArray⟩, .string ⟨tx.toArray⟩, .int .i64 num, .slice a2 kids.length c2] 24)).heap.size ((w.alloc (.cells #[.int .i64 op, .string ⟨nm.toArray⟩, .string ⟨tx.toArray⟩, .int .i64 num, .slice a kids.length c] 24)).alloc (.cells #[.int .i64 op, .string ⟨nm.toArray⟩, .string ⟨tx.toArray⟩, .int .i64 num, .slice a2 kids.length c2] 24)) W) => (hb.cell (p := ⟨w.heap.size + 1, 4, none⟩) (by simp)).trans (show _ = some (Value.slice a2 kids.length c2) by simp [go_sem])
  have HSZ := Lib.hid fun W (hb : Below ((w.alloc (.cells #[.int .i64 op, .string ⟨nm.toArray⟩, .string ⟨tx.toArray⟩, .int .i64 num, .slice a kids.length c] 24)).alloc (.cells #[.int .i64 op, .string ⟨nm.toArray⟩, .string ⟨tx.toArray⟩, .int .i64 num, .slice a2 kids.length c2] 24)).heap.size ((w.alloc (.cells #[.int .i64 op, .string ⟨nm.toArray⟩, .string ⟨tx.toArray⟩, .int .i64 num, .slice a kids.length c] 24)).alloc (.cells #[.int .i64 op, .string ⟨nm.toArray⟩, .string ⟨tx.toArray⟩, .int .i64 num, .slice a2 kids.length c2] 24)) W) => (show w.heap.size + 1 < W.heap.size from Nat.lt_of_lt_of_le (by simp) hb.size)
  have HNO := Lib.hid fun k (h : k < kids.length) (h' : k < kids2.length) (hne : kids[k] ≠ kids2[k]) => eqT_no (s := .node op nm tx num kids) (t := .node op nm tx num kids2) (fun e => hne (by injection e with _ _ _ _ e; subst e; rfl))
  have HYES := Lib.hid fun (hal : ∀ j (h : j < kids.length) (h' : j < kids2.length), kids[j] = kids2[j]) => eqT_yes (s := .node op nm tx num kids) (t := .node op nm tx num kids2) (by rw [List.ext_getElem H5.out hal])
  go_enter Try.func24, Try.ntmps24
  go_wp2_with fail
  go_loopw [5] (fun i wr => ∃ (k : Nat), i = .int .i64 k ∧ k ≤ kids.length ∧ (∀ j (h : j < kids.length) (h' : j < kids2.length), j < k → kids[j] = kids2[j]) ∧ Below ((w.alloc (.cells #[.int .i64 op, .string ⟨nm.toArray⟩, .string ⟨tx.toArray⟩, .int .i64 num, .slice a kids.length c] 24)).alloc (.cells #[.int .i64 op, .string ⟨nm.toArray⟩, .string ⟨tx.toArray⟩, .int .i64 num, .slice a2 kids.length c2] 24)).heap.size ((w.alloc (.cells #[.int .i64 op, .string ⟨nm.toArray⟩, .string ⟨tx.toArray⟩, .int .i64 num, .slice a kids.length c] 24)).alloc (.cells #[.int .i64 op, .string ⟨nm.toArray⟩, .string ⟨tx.toArray⟩, .int .i64 num, .slice a2 kids.length c2] 24)) wr) (fun i _ => kids.length - (intOf i).toNat)
  case atStart => exact ⟨0, rfl, by omega, fun j _ _ h => absurd h (by omega), Below.refl _ _⟩
  case round =>
    obtain ⟨k, rfl, hkl, hq, hb⟩ := hrel
    have HQ := Lib.hid hq
    have HB := Lib.hid hb
    have HBW := Lib.hid (HB0.out.trans (hb.mono HB0.out.size))
    have cb1 := HBOX.out wr hb
    have cb2 := HBOX2.out wr hb
    have HS2 := Lib.hid (HSZ.out wr hb)
    have HS1 := Lib.hid (Nat.lt_trans (Nat.lt_succ_self _) HS2.out)
    clear hq hb
    by_cases hlt : k < kids.length
    · have hlt2 : k < kids2.length := H5.out ▸ hlt
      obtain ⟨blk, off, op1, nm1, tx1, num1, a1, n1, c1, rfl, hl, c0, d1, c2', c3', c4, ht⟩ := HK.out k hlt
      obtain ⟨blk2, off2, op2, nm2, tx2, num2, a3, n2, c3, rfl, hl2, q0, q1, q2, q3, q4, ht2⟩ := HK2.out k hlt2
      have e0 := (HBW.out.cell (p := ⟨blk, off + k * 5, none⟩) hl).trans c0
      have e1 := (HBW.out.cell (p := ⟨blk, off + k * 5 + 1, none⟩) hl).trans d1
      have e2 := (HBW.out.cell (p := ⟨blk, off + k * 5 + 2, none⟩) hl).trans c2'
      have e3 := (HBW.out.cell (p := ⟨blk, off + k * 5 + 3, none⟩) hl).trans c3'
      have e4 := (HBW.out.cell (p := ⟨blk, off + k * 5 + 4, none⟩) hl).trans c4
      have f0 := (HBW.out.cell (p := ⟨blk2, off2 + k * 5, none⟩) hl2).trans q0
      have f1 := (HBW.out.cell (p := ⟨blk2, off2 + k * 5 + 1, none⟩) hl2).trans q1
      have f2 := (HBW.out.cell (p := ⟨blk2, off2 + k * 5 + 2, none⟩) hl2).trans q2
      have f3 := (HBW.out.cell (p := ⟨blk2, off2 + k * 5 + 3, none⟩) hl2).trans q3
      have f4 := (HBW.out.cell (p := ⟨blk2, off2 + k * 5 + 4, none⟩) hl2).trans q4
      have HL1 := Lib.hid (Nat.lt_of_lt_of_le hl HBW.out.size)
      have HL2 := Lib.hid (Nat.lt_of_lt_of_le hl2 HBW.out.size)
      have i1 : (k : Int) < (kids.length : Int) := by omega
      have i2 : (0 : Int) ≤ (k : Int) := by omega
      have HI := Lib.hid (IH.out k hlt kids2[k] wr.drew _ _ (TAt.later (HBW.out.drew) _ _ ht) (TAt.later (HBW.out.drew) _ _ ht2))
      clear c0 d1 c2' c3' c4 ht q0 q1 q2 q3 q4 ht2
      by_cases heq : kids[k] = kids2[k]
      · have HI2 := Lib.hid (eqT_yes heq ▸ HI.out)
        clear HI
        have HEQ := Lib.hid heq
        clear heq
        go_wp2_with fail
        go_region_held3 (fun W' => W'.cell? ⟨w.heap.size, 4, none⟩ = some (.slice (some ⟨blk, off, none⟩) kids.length c) ∧ W'.cell? ⟨w.heap.size + 1, 4, none⟩ = some (.slice (some ⟨blk2, off2, none⟩) kids.length c2) ∧ W'.cell? ⟨blk, off + k * 5, none⟩ = some (.int .i64 op1) ∧ W'.cell? ⟨blk, off + k * 5 + 1, none⟩ = some (.string ⟨nm1.toArray⟩) ∧ W'.cell? ⟨blk, off + k * 5 + 2, none⟩ = some (.string ⟨tx1.toArray⟩) ∧ W'.cell? ⟨blk, off + k * 5 + 3, none⟩ = some (.int .i64 num1) ∧ W'.cell? ⟨blk, off + k * 5 + 4, none⟩ = some (.slice a1 n1 c1) ∧ W'.cell? ⟨blk2, off2 + k * 5, none⟩ = some (.int .i64 op2) ∧ W'.cell? ⟨blk2, off2 + k * 5 + 1, none⟩ = some (.string ⟨nm2.toArray⟩) ∧ W'.cell? ⟨blk2, off2 + k * 5 + 2, none⟩ = some (.string ⟨tx2.toArray⟩) ∧ W'.cell? ⟨blk2, off2 + k * 5 + 3, none⟩ = some (.int .i64 num2) ∧ W'.cell? ⟨blk2, off2 + k * 5 + 4, none⟩ = some (.slice a3 n2 c3)) (first | exact ⟨g0, g1, g2, g3, g4, g5, g6, g7, g8, g9, g10, g11⟩ | exact ⟨cb1, cb2, e0, e1, e2, e3, e4, f0, f1, f2, f3, f4⟩ | go_keep) (first
          | (go_at_call 24; refine HI2.out.mono ?_; rintro e w2 ⟨rfl, hb2⟩; have g0 := (hb2.cell (p := ⟨w.heap.size, 4, none⟩) HS1.out).trans cb1; have g1 := (hb2.cell (p := ⟨w.heap.size + 1, 4, none⟩) HS2.out).trans cb2; have g2 := (hb2.cell (p := ⟨blk, off + k * 5, none⟩) HL1.out).trans e0; have g3 := (hb2.cell (p := ⟨blk, off + k * 5 + 1, none⟩) HL1.out).trans e1; have g4 := (hb2.cell (p := ⟨blk, off + k * 5 + 2, none⟩) HL1.out).trans e2; have g5 := (hb2.cell (p := ⟨blk, off + k * 5 + 3, none⟩) HL1.out).trans e3; have g6 := (hb2.cell (p := ⟨blk, off + k * 5 + 4, none⟩) HL1.out).trans e4; have g7 := (hb2.cell (p := ⟨blk2, off2 + k * 5, none⟩) HL2.out).trans f0; have g8 := (hb2.cell (p := ⟨blk2, off2 + k * 5 + 1, none⟩) HL2.out).trans f1; have g9 := (hb2.cell (p := ⟨blk2, off2 + k * 5 + 2, none⟩) HL2.out).trans f2; have g10 := (hb2.cell (p := ⟨blk2, off2 + k * 5 + 3, none⟩) HL2.out).trans f3; have g11 := (hb2.cell (p := ⟨blk2, off2 + k * 5 + 4, none⟩) HL2.out).trans f4; have HB3 := Lib.hid (HB.out.drew.trans (hb2.mono HB.out.size)); clear hb2))
        go_wp2_with fail
        go_roundw
        case rel =>
          refine ⟨k + 1, by go_num, by omega, fun j h h' hj => ?_, HB3.out⟩
          by_cases hjk : j = k
          · subst hjk
            exact HEQ.out
          · exact HQ.out j h h' (by omega)
        case measure => simp [intOf]; omega
      · have HI2 := Lib.hid (eqT_no heq ▸ HI.out)
        clear HI
        have HE := Lib.hid (HNO.out k hlt hlt2 heq)
        clear heq
        go_wp2_with fail
        go_region_held3 (fun W' => W'.cell? ⟨w.heap.size, 4, none⟩ = some (.slice (some ⟨blk, off, none⟩) kids.length c) ∧ W'.cell? ⟨w.heap.size + 1, 4, none⟩ = some (.slice (some ⟨blk2, off2, none⟩) kids.length c2) ∧ W'.cell? ⟨blk, off + k * 5, none⟩ = some (.int .i64 op1) ∧ W'.cell? ⟨blk, off + k * 5 + 1, none⟩ = some (.string ⟨nm1.toArray⟩) ∧ W'.cell? ⟨blk, off + k * 5 + 2, none⟩ = some (.string ⟨tx1.toArray⟩) ∧ W'.cell? ⟨blk, off + k * 5 + 3, none⟩ = some (.int .i64 num1) ∧ W'.cell? ⟨blk, off + k * 5 + 4, none⟩ = some (.slice a1 n1 c1) ∧ W'.cell? ⟨blk2, off2 + k * 5, none⟩ = some (.int .i64 op2) ∧ W'.cell? ⟨blk2, off2 + k * 5 + 1, none⟩ = some (.string ⟨nm2.toArray⟩) ∧ W'.cell? ⟨blk2, off2 + k * 5 + 2, none⟩ = some (.string ⟨tx2.toArray⟩) ∧ W'.cell? ⟨blk2, off2 + k * 5 + 3, none⟩ = some (.int .i64 num2) ∧ W'.cell? ⟨blk2, off2 + k * 5 + 4, none⟩ = some (.slice a3 n2 c3)) (first | exact ⟨g0, g1, g2, g3, g4, g5, g6, g7, g8, g9, g10, g11⟩ | exact ⟨cb1, cb2, e0, e1, e2, e3, e4, f0, f1, f2, f3, f4⟩ | go_keep) (first
          | (go_at_call 24; refine HI2.out.mono ?_; rintro e w2 ⟨rfl, hb2⟩; have g0 := (hb2.cell (p := ⟨w.heap.size, 4, none⟩) HS1.out).trans cb1; have g1 := (hb2.cell (p := ⟨w.heap.size + 1, 4, none⟩) HS2.out).trans cb2; have g2 := (hb2.cell (p := ⟨blk, off + k * 5, none⟩) HL1.out).trans e0; have g3 := (hb2.cell (p := ⟨blk, off + k * 5 + 1, none⟩) HL1.out).trans e1; have g4 := (hb2.cell (p := ⟨blk, off + k * 5 + 2, none⟩) HL1.out).trans e2; have g5 := (hb2.cell (p := ⟨blk, off + k * 5 + 3, none⟩) HL1.out).trans e3; have g6 := (hb2.cell (p := ⟨blk, off + k * 5 + 4, none⟩) HL1.out).trans e4; have g7 := (hb2.cell (p := ⟨blk2, off2 + k * 5, none⟩) HL2.out).trans f0; have g8 := (hb2.cell (p := ⟨blk2, off2 + k * 5 + 1, none⟩) HL2.out).trans f1; have g9 := (hb2.cell (p := ⟨blk2, off2 + k * 5 + 2, none⟩) HL2.out).trans f2; have g10 := (hb2.cell (p := ⟨blk2, off2 + k * 5 + 3, none⟩) HL2.out).trans f3; have g11 := (hb2.cell (p := ⟨blk2, off2 + k * 5 + 4, none⟩) HL2.out).trans f4; have HB3 := Lib.hid (HB.out.drew.trans (hb2.mono HB.out.size)); clear hb2))
        go_wp2_with fail
        go_ret
        exact ⟨ret_bool HE.out.symm, HB0.out.trans (HB3.out.mono HB0.out.size)⟩
    · have HE := Lib.hid (HYES.out (fun j h h' => HQ.out j h h' (by omega)))
      go_wp2_with fail
      go_ret
      exact ⟨ret_bool HE.out.symm, HBW.out⟩

end Go.Proofs.Ytmcnhphmglmmeaa

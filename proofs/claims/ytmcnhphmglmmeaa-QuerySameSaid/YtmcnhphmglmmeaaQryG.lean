/-
  query.sameTest: whether two trees are equal.
-/
import Derived.Test.YtmcnhphmglmmeaaQryF
namespace Go.Proofs.Ytmcnhphmglmmeaa
open Go.RowKit

set_option maxRecDepth 100000 in
set_option maxHeartbeats 4000000 in
theorem qsame_aux (N : Nat) : ∀ (s t : QT) (u v : Value) (w : World), SizeOf.sizeOf s < N → TAt w s u → TAt w t v →
    Calls Try.prog 19 #[u, v] w fun e w' => e = .returned (.bool (eqT s t)) ∧ Below w.heap.size w w' := by
  induction N with
  | zero => intro s t u v w h _ _; omega
  | succ N ih =>
  intro s t u v w hN hs ht
  obtain ⟨op, nm, tx, num, kids, a, c, rfl, rfl, hml, hk⟩ := hs.open
  obtain ⟨op2, nm2, tx2, num2, kids2, a2, c2, rfl, rfl, hml2, hk2⟩ := ht.open
  have IH := Lib.hid fun (i : Nat) (hi : i < kids.length) (t : QT) (W : World) (x y : Value) (hx : TAt W kids[i] x) (hy : TAt W t y) => ih kids[i] t x y W (by have := kid_lt (op := op) (num := num) (nm := nm) (tx := tx) i hi; omega) hx hy
  have HB0 : Hid (Below w.heap.size w ((w.alloc (.cells #[.int .i64 op, .string ⟨nm.toArray⟩, .string ⟨tx.toArray⟩, .int .i64 num, .slice a kids.length c] 24)).alloc (.cells #[.int .i64 op2, .string ⟨nm2.toArray⟩, .string ⟨tx2.toArray⟩, .int .i64 num2, .slice a2 kids2.length c2] 24))) :=
    ((Below.refl _ w).alloc (Nat.le_refl _) _).alloc (by simp) _
  have HK := Lib.hid (KAt.later HB0.out ⟨a, c, rfl, hml, hk⟩)
  have HK2 := Lib.hid (KAt.later HB0.out ⟨a2, c2, rfl, hml2, hk2⟩)
  clear hk hk2 ih hN hs ht
  by_cases h0 : ¬ op = op2
  · have z0 : (op == op2) = false := by rw [beq_eq_false_iff_ne]; exact h0
    have HE := Lib.hid (eqT_no (s := .node op nm tx num kids) (t := .node op2 nm2 tx2 num2 kids2) (fun e => h0 (by injection e)))
    go_enter Try.func19, Try.ntmps19
    go_wp2_with fail
    go_ret
    exact ⟨ret_bool HE.out.symm, HB0.out⟩
  obtain rfl := Classical.not_not.1 h0
  clear h0
  by_cases h1 : ¬ nm = nm2
  · have z1 : (nm == nm2) = false := by simp [h1]
    have HE := Lib.hid (eqT_no (s := .node op nm tx num kids) (t := .node op nm2 tx2 num2 kids2) (fun e => h1 (by injection e)))
    go_enter Try.func19, Try.ntmps19
    go_wp2_with fail
    go_ret
    exact ⟨ret_bool HE.out.symm, HB0.out⟩
  obtain rfl := Classical.not_not.1 h1
  clear h1
  by_cases h2 : ¬ tx = tx2
  · have z2 : (tx == tx2) = false := by simp [h2]
    have HE := Lib.hid (eqT_no (s := .node op nm tx num kids) (t := .node op nm tx2 num2 kids2) (fun e => h2 (by injection e)))
    go_enter Try.func19, Try.ntmps19
    go_wp2_with fail
    go_ret
    exact ⟨ret_bool HE.out.symm, HB0.out⟩
  obtain rfl := Classical.not_not.1 h2
  clear h2
  by_cases h3 : ¬ num = num2
  · have z3 : (num == num2) = false := by rw [beq_eq_false_iff_ne]; exact h3
    have HE := Lib.hid (eqT_no (s := .node op nm tx num kids) (t := .node op nm tx num2 kids2) (fun e => h3 (by injection e)))
    go_enter Try.func19, Try.ntmps19
    go_wp2_with fail
    go_ret
    exact ⟨ret_bool HE.out.symm, HB0.out⟩
  obtain rfl := Classical.not_not.1 h3
  clear h3
  have HE := Lib.hid (show eqT (.node op nm tx num kids) (.node op nm tx num kids2) = eqL kids kids2 by
    by_cases h : kids = kids2
    · rw [eqL_yes h, eqT_yes (by rw [h])]
    · rw [eqL_no h, eqT_no (fun e => h (by injection e))])
  have HC := Lib.hid (equal_kids kids kids2 _ _ _ IH.out HK.out HK2.out)
  go_enter Try.func19, Try.ntmps19
  go_wp2_with (go_at_call 29; refine HC.out.mono ?_; rintro e w2 ⟨rfl, hb2⟩; have HB3 := Lib.hid (HB0.out.trans (hb2.mono HB0.out.size)))
  go_ret
  exact ⟨ret_bool HE.out.symm, HB3.out⟩

end Go.Proofs.Ytmcnhphmglmmeaa

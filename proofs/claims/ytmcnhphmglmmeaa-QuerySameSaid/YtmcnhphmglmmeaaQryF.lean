/-
  slices.EqualFunc at tests, over what the function value computes.
-/
import Derived.Test.YtmcnhphmglmmeaaQryE
namespace Go.Proofs.Ytmcnhphmglmmeaa
open Go.RowKit

/-- Kids as they lie. -/
def KAt (w : World) (ks : List QT) (v : Value) : Prop := ∃ a c, v = .slice a ks.length c ∧ ks.length ≤ 9223372036854775807 ∧
    (∀ i (h : i < ks.length), ∃ blk off op' nm' tx' num' a' n' c', a = some ⟨blk, off, none⟩ ∧ blk < w.heap.size ∧ w.cell? ⟨blk, off + i * 5, none⟩ = some (.int .i64 op') ∧ w.cell? ⟨blk, off + i * 5 + 1, none⟩ = some (.string ⟨(nm' : List UInt8).toArray⟩) ∧
      w.cell? ⟨blk, off + i * 5 + 2, none⟩ = some (.string ⟨(tx' : List UInt8).toArray⟩) ∧ w.cell? ⟨blk, off + i * 5 + 3, none⟩ = some (.int .i64 num') ∧ w.cell? ⟨blk, off + i * 5 + 4, none⟩ = some (.slice a' n' c') ∧
      TAt w ks[i] (.agg #[.int .i64 op', .string ⟨nm'.toArray⟩, .string ⟨tx'.toArray⟩, .int .i64 num', .slice a' n' c']))

theorem KAt.later {w w' : World} (hb : Below w.heap.size w w') {ks : List QT} {v : Value} (h : KAt w ks v) : KAt w' ks v := by
  obtain ⟨a, c, e, hm, hk⟩ := h
  refine ⟨a, c, e, hm, fun i hi => ?_⟩
  obtain ⟨blk, off, op', nm', tx', num', a', n', c', e1, hl, c0, c1, c2, c3, c4, ht⟩ := hk i hi
  exact ⟨blk, off, op', nm', tx', num', a', n', c', e1, Nat.lt_of_lt_of_le hl hb.size, (hb.cell (p := ⟨blk, off + i * 5, none⟩) hl).trans c0, (hb.cell (p := ⟨blk, off + i * 5 + 1, none⟩) hl).trans c1, (hb.cell (p := ⟨blk, off + i * 5 + 2, none⟩) hl).trans c2, (hb.cell (p := ⟨blk, off + i * 5 + 3, none⟩) hl).trans c3, (hb.cell (p := ⟨blk, off + i * 5 + 4, none⟩) hl).trans c4, TAt.later hb _ _ ht⟩

noncomputable def eqL {α : Type} (s t : List α) : Bool := @decide (s = t) (Classical.propDecidable _)
theorem eqL_no {α : Type} {s t : List α} (h : s ≠ t) : eqL s t = false := by unfold eqL; exact @decide_eq_false _ (Classical.propDecidable _) h
theorem eqL_yes {α : Type} {s t : List α} (h : s = t) : eqL s t = true := by unfold eqL; exact @decide_eq_true _ (Classical.propDecidable _) h

set_option maxRecDepth 100000 in
set_option maxHeartbeats 4000000 in
theorem equal_kids (ks1 ks2 : List QT) (u v : Value) (w : World) (hF : ∀ i (hi : i < ks1.length) (t : QT) (W : World) (x y : Value), TAt W ks1[i] x → TAt W t y →
      Calls Try.prog 19 #[x, y] W fun e W' => e = .returned (.bool (eqT ks1[i] t)) ∧ Below W.heap.size W W') (h1 : KAt w ks1 u) (h2 : KAt w ks2 v) :
    Calls Try.prog 29 #[u, v, .func (.func 19) #[] #[]] w fun e w' => e = .returned (.bool (eqL ks1 ks2)) ∧ Below w.heap.size w w' := by
  obtain ⟨a, c, rfl, hm, hk⟩ := h1
  obtain ⟨a2, c2, rfl, hm2, hk2⟩ := h2
  have IH := Lib.hid hF
  have HK := Lib.hid hk
  have HK2 := Lib.hid hk2
  clear hk hk2 hF
  by_cases h4 : ¬ ks1.length = ks2.length
  · have z4 : ((ks1.length : Int) != (ks2.length : Int)) = true := by rw [bne_iff_ne]; omega
    have HE := Lib.hid (eqL_no (s := ks1) (t := ks2) (fun e => h4 (by rw [e])))
    go_enter Try.func29, Try.ntmps29
    go_wp2_with fail
    go_ret
    exact ⟨ret_bool HE.out.symm, Below.refl _ _⟩
  have h5 : ks1.length = ks2.length := Classical.not_not.1 h4
  clear h4
  have H5 := Lib.hid h5
  rw [← h5] at hm2 ⊢
  clear h5
  go_enter Try.func29, Try.ntmps29
  go_wp2_with fail
  go_loopw [17] (fun i wr => ∃ (k : Nat), i = .int .i64 k ∧ k ≤ ks1.length ∧ (∀ j (h : j < ks1.length) (h' : j < ks2.length), j < k → ks1[j] = ks2[j]) ∧ Below w.heap.size w wr) (fun i _ => ks1.length - (intOf i).toNat)
  case atStart => exact ⟨0, rfl, by omega, fun j _ _ h => absurd h (by omega), Below.refl _ _⟩
  case round =>
    obtain ⟨k, rfl, hkl, hq, hb⟩ := hrel
    have HQ := Lib.hid hq
    have HB := Lib.hid hb
    clear hq hb
    by_cases hlt : k < ks1.length
    · have hlt2 : k < ks2.length := H5.out ▸ hlt
      obtain ⟨blk, off, op1, nm1, tx1, num1, a1, n1, c1, rfl, hl, c0, d1, c2', c3', c4, ht⟩ := HK.out k hlt
      obtain ⟨blk2, off2, op2, nm2, tx2, num2, a3, n2, c3, rfl, hl2, q0, q1, q2, q3, q4, ht2⟩ := HK2.out k hlt2
      have e0 := (HB.out.cell (p := ⟨blk, off + k * 5, none⟩) hl).trans c0
      have e1 := (HB.out.cell (p := ⟨blk, off + k * 5 + 1, none⟩) hl).trans d1
      have e2 := (HB.out.cell (p := ⟨blk, off + k * 5 + 2, none⟩) hl).trans c2'
      have e3 := (HB.out.cell (p := ⟨blk, off + k * 5 + 3, none⟩) hl).trans c3'
      have e4 := (HB.out.cell (p := ⟨blk, off + k * 5 + 4, none⟩) hl).trans c4
      have f0 := (HB.out.cell (p := ⟨blk2, off2 + k * 5, none⟩) hl2).trans q0
      have f1 := (HB.out.cell (p := ⟨blk2, off2 + k * 5 + 1, none⟩) hl2).trans q1
      have f2 := (HB.out.cell (p := ⟨blk2, off2 + k * 5 + 2, none⟩) hl2).trans q2
      have f3 := (HB.out.cell (p := ⟨blk2, off2 + k * 5 + 3, none⟩) hl2).trans q3
      have f4 := (HB.out.cell (p := ⟨blk2, off2 + k * 5 + 4, none⟩) hl2).trans q4
      have hl1' := (Nat.lt_of_lt_of_le hl HB.out.size)
      have hl2' := (Nat.lt_of_lt_of_le hl2 HB.out.size)
      have hne : blk2 ≠ wr.heap.size := Nat.ne_of_lt hl2'
      have i1 : (k : Int) < (ks1.length : Int) := by omega
      have i2 : (0 : Int) ≤ (k : Int) := by omega
      have HT := Lib.hid ht
      have HT2 := Lib.hid ht2
      clear c0 d1 c2' c3' c4 ht q0 q1 q2 q3 q4 ht2
      have HBW : Hid (Below w.heap.size w ((wr.alloc (.cells #[.int .i64 op1, .string ⟨nm1.toArray⟩, .string ⟨tx1.toArray⟩, .int .i64 num1, .slice a1 n1 c1] 24)).alloc (.cells #[.int .i64 op2, .string ⟨nm2.toArray⟩, .string ⟨tx2.toArray⟩, .int .i64 num2, .slice a3 n2 c3] 24))) := (HB.out.alloc HB.out.size _).alloc (by have := HB.out.size; simp; omega) _
      have HI := Lib.hid (IH.out k hlt ks2[k] _ _ _ (TAt.later HBW.out _ _ HT.out) (TAt.later HBW.out _ _ HT2.out))
      clear HT HT2
      by_cases heq : ks1[k] = ks2[k]
      · have HI2 := Lib.hid (eqT_yes heq ▸ HI.out)
        clear HI
        have HEQ := Lib.hid heq
        clear heq
        go_wp2_with fail
        refine HI2.out.mono ?_
        rintro e w2 ⟨rfl, hb2⟩
        have HB3 := Lib.hid (HBW.out.trans (hb2.mono HBW.out.size))
        clear hb2 hl1' hl2' e0 e1 e2 e3 e4 f0 f1 f2 f3 f4
        go_wp2_with fail
        go_roundw
        case rel =>
          refine ⟨k + 1, by go_num, by omega, fun j h h' hj => ?_, HB3.out⟩
          by_cases hjk : j = k
          · subst hjk
            exact HEQ.out
          · exact HQ.out j h h' (by omega)
        case measure => simp [intOf]; omega
      · have HI2 := Lib.hid (eqT_no heq ▸ HI.out)
        clear HI
        have HE := Lib.hid (eqL_no (s := ks1) (t := ks2) (fun e => heq (by subst e; rfl)))
        clear heq
        go_wp2_with fail
        refine HI2.out.mono ?_
        rintro e w2 ⟨rfl, hb2⟩
        have HB3 := Lib.hid (HBW.out.trans (hb2.mono HBW.out.size))
        clear hb2 hl1' hl2' e0 e1 e2 e3 e4 f0 f1 f2 f3 f4
        go_wp2_with fail
        go_ret
        exact ⟨ret_bool HE.out.symm, HB3.out⟩
    · have HE := Lib.hid (eqL_yes (List.ext_getElem H5.out (fun j h h' => HQ.out j h h' (by omega))))
      go_wp2_with fail
      go_ret
      exact ⟨ret_bool HE.out.symm, HB.out⟩

end Go.Proofs.Ytmcnhphmglmmeaa

/-
  Size of package query: the number of nodes of a test, up to a limit.
-/
import Derived.Test.YtmcnhphmglmmeaaQryA
import Derived.Outline
namespace Go.Proofs.Ytmcnhphmglmmeaa
open Go.RowKit

/-- A node opened: its kids as they lie. -/
theorem TAt.open {w : World} {t : QT} {v : Value} (h : TAt w t v) : ∃ op nm tx num kids a c, t = .node op nm tx num kids ∧ v = .agg #[.int .i64 op, .string ⟨nm.toArray⟩, .string ⟨tx.toArray⟩, .int .i64 num, .slice a kids.length c] ∧ kids.length ≤ 9223372036854775807 ∧
    (∀ i (h : i < kids.length), ∃ blk off op' nm' tx' num' a' n' c', a = some ⟨blk, off, none⟩ ∧ blk < w.heap.size ∧ w.cell? ⟨blk, off + i * 5, none⟩ = some (.int .i64 op') ∧ w.cell? ⟨blk, off + i * 5 + 1, none⟩ = some (.string ⟨(nm' : List UInt8).toArray⟩) ∧
      w.cell? ⟨blk, off + i * 5 + 2, none⟩ = some (.string ⟨(tx' : List UInt8).toArray⟩) ∧ w.cell? ⟨blk, off + i * 5 + 3, none⟩ = some (.int .i64 num') ∧ w.cell? ⟨blk, off + i * 5 + 4, none⟩ = some (.slice a' n' c') ∧
      TAt w kids[i] (.agg #[.int .i64 op', .string ⟨nm'.toArray⟩, .string ⟨tx'.toArray⟩, .int .i64 num', .slice a' n' c'])) := by
  obtain ⟨op, nm, tx, num, kids⟩ := t
  rw [TAt] at h
  obtain ⟨a, c, e, hm, hk⟩ := h
  refine ⟨op, nm, tx, num, kids, a, c, rfl, e, hm, fun i hi => ?_⟩
  obtain ⟨blk, off, e1, hl, hc⟩ := hk (by omega)
  obtain ⟨u0, u1, u2, u3, u4, c0, c1, c2, c3, c4, ht⟩ := hc i hi
  have ht2 := ht
  generalize kids[i] = t' at ht ht2
  obtain ⟨op', nm', tx', num', kids'⟩ := t'
  rw [TAt] at ht
  obtain ⟨a', c', e2, _, _⟩ := ht
  injection e2 with e2
  simp only [Array.mk.injEq, List.cons.injEq, and_true] at e2
  obtain ⟨rfl, rfl, rfl, rfl, rfl⟩ := e2
  exact ⟨blk, off, op', nm', tx', num', a', _, c', e1, hl, c0, c1, c2, c3, c4, ht2⟩

mutual
def qSz : QT → Nat
  | .node _ _ _ _ ks => min (qSzs 1 ks) 61
def qSzs : Nat → List QT → Nat
  | n, [] => n
  | n, k :: ks => if 60 < n then n else qSzs (n + qSz k) ks
end
theorem qSz_le (t : QT) : qSz t ≤ 61 := by
  obtain ⟨op, nm, tx, num, kids⟩ := t
  rw [qSz]
  omega
theorem qSzs_step {kids : List QT} {k : Nat} (h : k < kids.length) (n : Nat) : qSzs n (kids.drop k) = if 60 < n then n else qSzs (n + qSz kids[k]) (kids.drop (k + 1)) := by
  rw [List.drop_eq_getElem_cons h, qSzs]

theorem kid_lt {op num : Int} {nm tx : List UInt8} {kids : List QT} (i : Nat) (h : i < kids.length) : SizeOf.sizeOf kids[i] < SizeOf.sizeOf (QT.node op nm tx num kids) := by
  have := List.sizeOf_lt_of_mem (List.getElem_mem h)
  simp
  omega
set_option maxRecDepth 100000 in
set_option maxHeartbeats 2000000 in
theorem qsize_aux (N : Nat) : ∀ (t : QT) (v : Value) (w : World), SizeOf.sizeOf t < N → TAt w t v →
    Calls Try.prog 11 #[v] w fun e w' => e = .returned (.int .i64 (qSz t)) ∧ Below w.heap.size w w' := by
  induction N with
  | zero => intro t v w h _; omega
  | succ N ih =>
  intro t v w hN h
  obtain ⟨op, nm, tx, num, kids, a, c, rfl, rfl, hml, hk⟩ := h.open
  have IH := Lib.hid fun (i : Nat) (hi : i < kids.length) (W : World) (u : Value) (hu : TAt W kids[i] u) => ih kids[i] u W (by have := kid_lt (op := op) (num := num) (nm := nm) (tx := tx) i hi; omega) hu
  have HK := Lib.hid hk
  rw [qSz]
  have HB0 := Lib.hid ((Below.refl _ w).alloc (Nat.le_refl _) (.cells #[.int .i64 op, .string ⟨nm.toArray⟩, .string ⟨tx.toArray⟩, .int .i64 num, .slice a kids.length c] 24))
  obtain ⟨R, hR⟩ : ∃ R, qSzs 1 kids = R := ⟨_, rfl⟩
  rw [hR]
  have HR := Lib.hid hR
  clear hk h hR ih hN
  go_enter Try.func11, Try.ntmps11
  go_wp2_with fail
  go_loopw [3, 9] (fun n i wr => ∃ (m k : Nat), n = .int .i64 m ∧ i = .int .i64 k ∧ k ≤ kids.length ∧ m ≤ 121 ∧ qSzs m (kids.drop k) = R ∧ Below w.heap.size w wr) (fun _ i _ => kids.length - (intOf i).toNat)
  case atStart => exact ⟨1, 0, rfl, rfl, by omega, by omega, HR.out, HB0.out⟩
  case round =>
    obtain ⟨m, k, rfl, rfl, hkl, hm, hq, hb⟩ := hrel
    have HQ := Lib.hid hq
    have HB := Lib.hid hb
    clear hq HR HB0
    by_cases hlt : k < kids.length
    · obtain ⟨blk, off, op', nm', tx', num', a', n', c', rfl, hl, c0, c1, c2, c3, c4, ht⟩ := HK.out k hlt
      have e0 := (hb.cell (p := ⟨blk, off + k * 5, none⟩) hl).trans c0
      have e1 := (hb.cell (p := ⟨blk, off + k * 5 + 1, none⟩) hl).trans c1
      have e2 := (hb.cell (p := ⟨blk, off + k * 5 + 2, none⟩) hl).trans c2
      have e3 := (hb.cell (p := ⟨blk, off + k * 5 + 3, none⟩) hl).trans c3
      have e4 := (hb.cell (p := ⟨blk, off + k * 5 + 4, none⟩) hl).trans c4
      have i1 : (k : Int) < (kids.length : Int) := by omega
      have i2 : (0 : Int) ≤ (k : Int) := by omega
      have hs := hb.size
      have HBA := Lib.hid (hb.alloc hs (.cells #[.int .i64 op', .string ⟨nm'.toArray⟩, .string ⟨tx'.toArray⟩, .int .i64 num', .slice a' n' c'] 24))
      have HST := Lib.hid (qSzs_step hlt m)
      have HI := Lib.hid (IH.out k hlt _ _ (TAt.later HBA.out _ _ ht))
      have hqs := qSz_le kids[k]
      obtain ⟨s, hs2⟩ : ∃ s, qSz kids[k] = s := ⟨_, rfl⟩
      rw [hs2] at HI HST hqs
      clear hb c0 c1 c2 c3 c4 ht hs hs2
      by_cases h60 : 60 < m
      · have z1 : decide ((60 : Int) < (m : Int)) = true := decide_eq_true (by omega)
        have HZ := Lib.hid (show m = R by rw [← HQ.out, HST.out, if_pos h60])
        go_wp2_with fail
        all_goals
          go_ret
          refine ⟨ret_int ?_, HBA.out⟩
          have := HZ.out
          omega
      · have z1 : decide ((60 : Int) < (m : Int)) = false := decide_eq_false (by omega)
        have HZ := Lib.hid (show qSzs (m + s) (kids.drop (k + 1)) = R by rw [← HQ.out, HST.out, if_neg h60])
        go_wp2_with fail
        refine HI.out.mono ?_
        rintro e w2 ⟨rfl, hb2⟩
        have HB3 := Lib.hid (HBA.out.trans (hb2.mono HBA.out.size))
        go_wp2_with fail
        go_roundw
        case rel => exact ⟨m + s, k + 1, by go_num, by go_num, by omega, by omega, HZ.out, HB3.out⟩
        case measure => simp [intOf]; omega
    · obtain rfl : k = kids.length := by omega
      have HZ := Lib.hid (show m = R by rw [← HQ.out, List.drop_length, qSzs])
      go_wp2_with fail
      all_goals
        go_ret
        refine ⟨ret_int ?_, HB.out⟩
        have := HZ.out
        omega

end Go.Proofs.Ytmcnhphmglmmeaa

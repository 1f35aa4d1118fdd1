/-
  The law's size of a test; Size of the reference.
-/
import Derived.Test.YtmcnhphmglmmeaaQryD
namespace Go.Proofs.Ytmcnhphmglmmeaa
open Go.RowKit

mutual
def zT : QT → Int
  | .node _ _ _ _ ks => zTs 1 ks
def zTs : Int → List QT → Int
  | n, [] => n
  | n, k :: ks => if n < 300 then zTs (wrap64 (n + zT k)) ks else n
end
theorem zTs_step {kids : List QT} {k : Nat} (h : k < kids.length) (n : Int) : zTs n (kids.drop k) = if n < 300 then zTs (wrap64 (n + zT kids[k])) (kids.drop (k + 1)) else n := by
  rw [List.drop_eq_getElem_cons h, zTs]

set_option maxRecDepth 100000 in
set_option maxHeartbeats 2000000 in
theorem ref_size (t : QT) (v : Value) (w : World) (h : TAt w t v) :
    Calls Try.prog 12 #[v] w fun e w' => e = .returned (.int .i64 (qSz t)) ∧ Below w.heap.size w w' := by
  have hb := (Below.refl _ w).alloc (Nat.le_refl _) (.cells (match v with | .agg a => a | _ => #[]) 24)
  have HC := Lib.hid (count_aux (SizeOf.sizeOf t + 1) t 0 v _ (by omega) (by omega) (TAt.later hb t v h))
  have HZ := Lib.hid (show cT t 0 = qSz t by rw [cT_eq _ t (Nat.lt_succ_self _) 0 (by omega)]; have := qSz_le t; omega)
  have HB := Lib.hid hb
  obtain ⟨op, nm, tx, num, kids, a, c, rfl, rfl, hml, hk⟩ := h.open
  clear hk hb
  go_enter Try.func12, Try.ntmps12
  go_wp2_with fail
  refine HC.out.mono ?_
  rintro e w2 ⟨rfl, hb2⟩
  have HB3 := Lib.hid (HB.out.trans (hb2.mono HB.out.size))
  go_wp2_with fail
  go_ret
  exact ⟨ret_int (by rw [HZ.out]), HB3.out⟩

set_option maxRecDepth 100000 in
set_option maxHeartbeats 2000000 in
theorem lawsize_aux (N : Nat) : ∀ (t : QT) (v : Value) (w : World), SizeOf.sizeOf t < N → TAt w t v →
    Calls Try.prog 13 #[v] w fun e w' => e = .returned (.int .i64 (zT t)) ∧ Below w.heap.size w w' := by
  induction N with
  | zero => intro t v w h _; omega
  | succ N ih =>
  intro t v w hN h
  obtain ⟨op, nm, tx, num, kids, a, c, rfl, rfl, hml, hk⟩ := h.open
  have IH := Lib.hid fun (i : Nat) (hi : i < kids.length) (W : World) (u : Value) (hu : TAt W kids[i] u) => ih kids[i] u W (by have := kid_lt (op := op) (num := num) (nm := nm) (tx := tx) i hi; omega) hu
  have HK := Lib.hid hk
  rw [zT]
  have HB0 := Lib.hid ((Below.refl _ w).alloc (Nat.le_refl _) (.cells #[.int .i64 op, .string ⟨nm.toArray⟩, .string ⟨tx.toArray⟩, .int .i64 num, .slice a kids.length c] 24))
  obtain ⟨R, hR⟩ : ∃ R, zTs 1 kids = R := ⟨_, rfl⟩
  rw [hR]
  have HR := Lib.hid hR
  have HBOX := Lib.hid fun W (hb : Below (w.alloc (.cells #[.int .i64 op, .string ⟨nm.toArray⟩, .string ⟨tx.toArray⟩, .int .i64 num, .slice a kids.length c] 24)).heap.size (w.alloc (.cells #[.int .i64 op, .string ⟨nm.toArray⟩, .string ⟨tx.toArray⟩, .int .i64 num, .slice a kids.length c] 24)) W) => (hb.cell (p := ⟨w.heap.size, 4, none⟩) (by simp)).trans (show _ = some (Value.slice a kids.length c) by simp [go_sem])
  clear hk h hR ih hN
  go_enter Try.func13, Try.ntmps13
  go_wp2_with fail
  go_loopw [3, 4] (fun n i wr => ∃ (m : Int) (k : Nat), n = .int .i64 m ∧ i = .int .i64 k ∧ k ≤ kids.length ∧ zTs m (kids.drop k) = R ∧ Below (w.alloc (.cells #[.int .i64 op, .string ⟨nm.toArray⟩, .string ⟨tx.toArray⟩, .int .i64 num, .slice a kids.length c] 24)).heap.size (w.alloc (.cells #[.int .i64 op, .string ⟨nm.toArray⟩, .string ⟨tx.toArray⟩, .int .i64 num, .slice a kids.length c] 24)) wr) (fun _ i _ => kids.length - (intOf i).toNat)
  case atStart => exact ⟨1, 0, rfl, rfl, by omega, HR.out, Below.refl _ _⟩
  case round =>
    obtain ⟨m, k, rfl, rfl, hkl, hq, hb⟩ := hrel
    have HQ := Lib.hid hq
    have HB := Lib.hid hb
    have HBW := Lib.hid (HB0.out.trans (hb.mono HB0.out.size))
    have cb := HBOX.out wr hb
    clear hq HR hb
    by_cases hlt : k < kids.length
    · have HST := Lib.hid (zTs_step hlt m)
      have i1 : (k : Int) < (kids.length : Int) := by omega
      have i2 : (0 : Int) ≤ (k : Int) := by omega
      by_cases h60 : m < 300
      · obtain ⟨blk, off, op', nm', tx', num', a', n', c', rfl, hl, c0, c1, c2, c3, c4, ht⟩ := HK.out k hlt
        have e0 := (HBW.out.cell (p := ⟨blk, off + k * 5, none⟩) hl).trans c0
        have e1 := (HBW.out.cell (p := ⟨blk, off + k * 5 + 1, none⟩) hl).trans c1
        have e2 := (HBW.out.cell (p := ⟨blk, off + k * 5 + 2, none⟩) hl).trans c2
        have e3 := (HBW.out.cell (p := ⟨blk, off + k * 5 + 3, none⟩) hl).trans c3
        have e4 := (HBW.out.cell (p := ⟨blk, off + k * 5 + 4, none⟩) hl).trans c4
        have HI := Lib.hid (IH.out k hlt _ _ (TAt.later HBW.out _ _ ht))
        have HZ := Lib.hid (show zTs (wrap64 (m + zT kids[k])) (kids.drop (k + 1)) = R by rw [← HQ.out, HST.out, if_pos h60])
        obtain ⟨s, hs2⟩ : ∃ s, zT kids[k] = s := ⟨_, rfl⟩
        rw [hs2] at HI HZ
        clear c0 c1 c2 c3 c4 ht hs2
        have z1 : decide (m < 300) = true := decide_eq_true h60
        go_wp2_with fail
        refine HI.out.mono ?_
        rintro e w2 ⟨rfl, hb2⟩
        have HB3 := Lib.hid (HB.out.trans (hb2.mono HB.out.size))
        go_wp2_with fail
        go_roundw
        case rel => exact ⟨_, k + 1, rfl, by go_num, by omega, HZ.out, HB3.out⟩
        case measure => simp [intOf]; omega
      · have HZ := Lib.hid (show m = R by rw [← HQ.out, HST.out, if_neg h60])
        have z1 : decide (m < 300) = false := decide_eq_false h60
        go_wp2_with fail
        all_goals
          go_ret
          exact ⟨ret_int HZ.out, HBW.out⟩
    · obtain rfl : k = kids.length := by omega
      have HZ := Lib.hid (show m = R by rw [← HQ.out, List.drop_length, zTs])
      go_wp2_with fail
      all_goals
        go_ret
        exact ⟨ret_int HZ.out, HBW.out⟩

end Go.Proofs.Ytmcnhphmglmmeaa

/-
  Size of the reference: the same number of nodes.
-/
import Derived.Test.YtmcnhphmglmmeaaQryB
namespace Go.Proofs.Ytmcnhphmglmmeaa
open Go.RowKit

mutual
def cT : QT → Nat → Nat
  | .node _ _ _ _ ks, n => min (cTs (n + 1) ks) 61
def cTs : Nat → List QT → Nat
  | n, [] => n
  | n, k :: ks => if n ≤ 60 then cTs (cT k n) ks else n
end
theorem cT_le (t : QT) (n : Nat) : cT t n ≤ 61 := by
  obtain ⟨op, nm, tx, num, kids⟩ := t
  rw [cT]
  omega
theorem cTs_step {kids : List QT} {k : Nat} (h : k < kids.length) (n : Nat) : cTs n (kids.drop k) = if n ≤ 60 then cTs (cT kids[k] n) (kids.drop (k + 1)) else n := by
  rw [List.drop_eq_getElem_cons h, cTs]
theorem cTs_big {n : Nat} (h : 60 < n) (ks : List QT) : cTs n ks = n := by
  cases ks with
  | nil => rw [cTs]
  | cons k ks => rw [cTs, if_neg (by omega)]
theorem qSzs_ge (ks : List QT) : ∀ n, n ≤ qSzs n ks := by
  induction ks with
  | nil => intro n; rw [qSzs]; exact Nat.le_refl _
  | cons k ks ih =>
    intro n
    rw [qSzs]
    split
    · exact Nat.le_refl _
    · have := ih (n + qSz k); omega
theorem cT_eq (N : Nat) : ∀ t : QT, SizeOf.sizeOf t < N → ∀ n, n ≤ 60 → cT t n = min (n + qSz t) 61 := by
  induction N with
  | zero => intro t h; omega
  | succ N ih =>
    intro t h n hn
    obtain ⟨op, nm, tx, num, kids⟩ := t
    rw [cT, qSz]
    have key : ∀ ks : List QT, (∀ k ∈ ks, SizeOf.sizeOf k < N) → ∀ m, min (cTs (n + m) ks) 61 = min (n + qSzs m ks) 61 := by
      intro ks
      induction ks with
      | nil => intro _ m; rw [cTs, qSzs]
      | cons k ks ihk =>
        intro hk m
        rw [cTs, qSzs]
        by_cases c1 : n + m ≤ 60
        · rw [if_pos c1, if_neg (by omega), ih k (hk k (by simp)) (n + m) c1]
          by_cases c2 : n + m + qSz k ≤ 61
          · rw [Nat.min_eq_left c2, show n + m + qSz k = n + (m + qSz k) by omega]
            exact ihk (fun x hx => hk x (List.mem_cons_of_mem _ hx)) _
          · have e61 : min (n + m + qSz k) 61 = 61 := by omega
            rw [e61, cTs_big (show 60 < 61 by decide)]
            have := qSzs_ge ks (m + qSz k)
            omega
        · rw [if_neg c1]
          split
          · rfl
          · have := qSzs_ge ks (m + qSz k)
            omega
    have hk : ∀ k ∈ kids, SizeOf.sizeOf k < N := fun k hk => by
      have := List.sizeOf_lt_of_mem hk
      simp at h
      omega
    have := key kids hk 1
    omega

set_option maxRecDepth 100000 in
set_option maxHeartbeats 2000000 in
theorem count_aux (N : Nat) : ∀ (t : QT) (n : Nat) (v : Value) (w : World), SizeOf.sizeOf t < N → n ≤ 60 → TAt w t v →
    Calls Try.prog 25 #[v, .int .i64 n] w fun e w' => e = .returned (.int .i64 (cT t n)) ∧ Below w.heap.size w w' := by
  induction N with
  | zero => intro t n v w h _ _; omega
  | succ N ih =>
  intro t n v w hN hn h
  obtain ⟨op, nm, tx, num, kids, a, c, rfl, rfl, hml, hk⟩ := h.open
  have IH := Lib.hid fun (i : Nat) (hi : i < kids.length) (n : Nat) (W : World) (u : Value) (hn : n ≤ 60) (hu : TAt W kids[i] u) => ih kids[i] n u W (by have := kid_lt (op := op) (num := num) (nm := nm) (tx := tx) i hi; omega) hn hu
  have HK := Lib.hid hk
  rw [cT]
  have HB0 := Lib.hid ((Below.refl _ w).alloc (Nat.le_refl _) (.cells #[.int .i64 op, .string ⟨nm.toArray⟩, .string ⟨tx.toArray⟩, .int .i64 num, .slice a kids.length c] 24))
  obtain ⟨R, hR⟩ : ∃ R, cTs (n + 1) kids = R := ⟨_, rfl⟩
  rw [hR]
  have HR := Lib.hid hR
  have HBOX := Lib.hid fun W (hb : Below (w.alloc (.cells #[.int .i64 op, .string ⟨nm.toArray⟩, .string ⟨tx.toArray⟩, .int .i64 num, .slice a kids.length c] 24)).heap.size (w.alloc (.cells #[.int .i64 op, .string ⟨nm.toArray⟩, .string ⟨tx.toArray⟩, .int .i64 num, .slice a kids.length c] 24)) W) => (hb.cell (p := ⟨w.heap.size, 4, none⟩) (by simp)).trans (show _ = some (Value.slice a kids.length c) by simp [go_sem])
  clear hk h hR ih hN
  go_enter Try.func25, Try.ntmps25
  go_wp2_with fail
  go_loopw [1, 5] (fun n i wr => ∃ (m k : Nat), n = .int .i64 m ∧ i = .int .i64 k ∧ k ≤ kids.length ∧ m ≤ 61 ∧ cTs m (kids.drop k) = R ∧ Below (w.alloc (.cells #[.int .i64 op, .string ⟨nm.toArray⟩, .string ⟨tx.toArray⟩, .int .i64 num, .slice a kids.length c] 24)).heap.size (w.alloc (.cells #[.int .i64 op, .string ⟨nm.toArray⟩, .string ⟨tx.toArray⟩, .int .i64 num, .slice a kids.length c] 24)) wr) (fun _ i _ => kids.length - (intOf i).toNat)
  case atStart => exact ⟨n + 1, 0, by go_num, rfl, by omega, by omega, HR.out, Below.refl _ _⟩
  case round =>
    obtain ⟨m, k, rfl, rfl, hkl, hm, hq, hb⟩ := hrel
    have HQ := Lib.hid hq
    have HB := Lib.hid hb
    have HBW := Lib.hid (HB0.out.trans (hb.mono HB0.out.size))
    have cb := HBOX.out wr hb
    clear hq HR hb
    by_cases hlt : k < kids.length
    · have HST := Lib.hid (cTs_step hlt m)
      by_cases h60 : m ≤ 60
      · obtain ⟨blk, off, op', nm', tx', num', a', n', c', rfl, hl, c0, c1, c2, c3, c4, ht⟩ := HK.out k hlt
        have e0 := (HBW.out.cell (p := ⟨blk, off + k * 5, none⟩) hl).trans c0
        have e1 := (HBW.out.cell (p := ⟨blk, off + k * 5 + 1, none⟩) hl).trans c1
        have e2 := (HBW.out.cell (p := ⟨blk, off + k * 5 + 2, none⟩) hl).trans c2
        have e3 := (HBW.out.cell (p := ⟨blk, off + k * 5 + 3, none⟩) hl).trans c3
        have e4 := (HBW.out.cell (p := ⟨blk, off + k * 5 + 4, none⟩) hl).trans c4
        have i1 : (k : Int) < (kids.length : Int) := by omega
        have i2 : (0 : Int) ≤ (k : Int) := by omega
        have HI := Lib.hid (IH.out k hlt m _ _ h60 (TAt.later HBW.out _ _ ht))
        have hle := cT_le kids[k] m
        have HZ := Lib.hid (show cTs (cT kids[k] m) (kids.drop (k + 1)) = R by rw [← HQ.out, HST.out, if_pos h60])
        obtain ⟨s, hs2⟩ : ∃ s, cT kids[k] m = s := ⟨_, rfl⟩
        rw [hs2] at HI HZ hle
        clear c0 c1 c2 c3 c4 ht hs2
        have z1 : decide ((m : Int) ≤ 60) = true := decide_eq_true (by omega)
        go_wp2_with fail
        refine HI.out.mono ?_
        rintro e w2 ⟨rfl, hb2⟩
        have HB3 := Lib.hid (HB.out.trans (hb2.mono HB.out.size))
        go_wp2_with fail
        go_roundw
        case rel => exact ⟨s, k + 1, rfl, by go_num, by omega, hle, HZ.out, HB3.out⟩
        case measure => simp [intOf]; omega
      · have HZ := Lib.hid (show m = R by rw [← HQ.out, HST.out, if_neg h60])
        have z1 : decide ((m : Int) ≤ 60) = false := decide_eq_false (by omega)
        go_wp2_with fail
        all_goals
          go_ret
          refine ⟨ret_int ?_, HBW.out⟩
          have := HZ.out
          omega
    · obtain rfl : k = kids.length := by omega
      have HZ := Lib.hid (show m = R by rw [← HQ.out, List.drop_length, cTs])
      go_wp2_with fail
      all_goals
        go_ret
        refine ⟨ret_int ?_, HBW.out⟩
        have := HZ.out
        omega

end Go.Proofs.Ytmcnhphmglmmeaa

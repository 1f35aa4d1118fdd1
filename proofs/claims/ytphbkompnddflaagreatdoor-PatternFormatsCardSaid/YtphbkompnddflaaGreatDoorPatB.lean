/-
  Size of the reference.
-/
import Derived.Test.YtphbkompnddflaaGreatDoorPatA
namespace Go.Proofs.YtphbkompnddflaaGreatDoor
open Go.RowKit

mutual
def cN : NT → Nat → Nat
  | .node _ _ _ ks _ _, n => cNs (n + 1) ks
def cNs : Nat → List NT → Nat
  | n, [] => n
  | n, k :: ks => if n ≤ 400 then cNs (cN k n) ks else n
end
theorem cNs_big {n : Nat} (h : 400 < n) (ks : List NT) : cNs n ks = n := by
  cases ks with
  | nil => rw [cNs]
  | cons k ks => rw [cNs, if_neg (by omega)]
theorem cNs_step {kids : List NT} {k : Nat} (h : k < kids.length) (n : Nat) : cNs n (kids.drop k) = if n ≤ 400 then cNs (cN kids[k] n) (kids.drop (k + 1)) else n := by
  rw [List.drop_eq_getElem_cons h, cNs]
theorem nSzs_ge (ks : List NT) : ∀ n, n ≤ nSzs n ks := by
  induction ks with
  | nil => intro n; rw [nSzs]; exact Nat.le_refl _
  | cons k ks ih =>
    intro n
    rw [nSzs]
    split
    · exact Nat.le_refl _
    · have := ih (n + nSz k); omega
theorem cN_eq (N : Nat) : ∀ t : NT, SizeOf.sizeOf t < N → ∀ n, n ≤ 400 → cN t n = min (n + nSz t) 401 := by
  induction N with
  | zero => intro t h; omega
  | succ N ih =>
    intro t h n hn
    obtain ⟨op, rs, nm, kids, mn, mx⟩ := t
    rw [cN, nSz]
    have key : ∀ ks : List NT, (∀ k ∈ ks, SizeOf.sizeOf k < N) → ∀ m, n + m ≤ 401 → cNs (n + m) ks = min (n + nSzs m ks) 401 := by
      intro ks
      induction ks with
      | nil => intro _ m hm; rw [cNs, nSzs]; omega
      | cons k ks ihk =>
        intro hk m hm
        rw [cNs, nSzs]
        by_cases c1 : n + m ≤ 400
        · rw [if_pos c1, if_neg (by omega), ih k (hk k (by simp)) (n + m) c1]
          by_cases c2 : n + m + nSz k ≤ 401
          · rw [Nat.min_eq_left c2, show n + m + nSz k = n + (m + nSz k) by omega]
            exact ihk (fun x hx => hk x (List.mem_cons_of_mem _ hx)) _ (by omega)
          · have e61 : min (n + m + nSz k) 401 = 401 := by omega
            rw [e61, cNs_big (show 400 < 401 by decide)]
            have := nSzs_ge ks (m + nSz k)
            omega
        · rw [if_neg c1]
          split
          · omega
          · have := nSzs_ge ks (m + nSz k)
            omega
    have hk : ∀ k ∈ kids, SizeOf.sizeOf k < N := fun k hk => by
      have := List.sizeOf_lt_of_mem hk
      simp at h
      omega
    have := key kids hk 1 (by omega)
    omega
theorem cN_le (t : NT) {n : Nat} (h : n ≤ 400) : cN t n ≤ 401 := by
  rw [cN_eq _ t (Nat.lt_succ_self _) n h]
  omega

set_option maxRecDepth 100000 in
set_option maxHeartbeats 2000000 in
theorem ncount_aux (N : Nat) : ∀ (t : NT) (n : Nat) (v : Value) (w : World), SizeOf.sizeOf t < N → n ≤ 400 → NAt w t v →
    Calls Tryz.prog 15 #[v, .int .i64 n] w fun e w' => e = .returned (.int .i64 (cN t n)) ∧ Below w.heap.size w w' := by
  induction N with
  | zero => intro t n v w h _ _; omega
  | succ N ih =>
  intro t n v w hN hn h
  obtain ⟨op, rs, nm, kids, mn, mx, ra, rc, a, c, rfl, rfl, hr, ⟨hml, hnm⟩, hk⟩ := h.open
  have IH := Lib.hid fun (i : Nat) (hi : i < kids.length) (n : Nat) (W : World) (u : Value) (hn : n ≤ 400) (hu : NAt W kids[i] u) => ih kids[i] n u W (by have := kid_lt (op := op) (rs := rs) (nm := nm) (mn := mn) (mx := mx) i hi; omega) hn hu
  have HK := Lib.hid hk
  rw [cN]
  have HB0 := Lib.hid ((Below.refl _ w).alloc (Nat.le_refl _) (.cells #[.int .i64 op, .slice ra rs.length rc, .string ⟨nm.toArray⟩, .slice a kids.length c, .int .i64 mn, .int .i64 mx] 25))
  obtain ⟨R, hR⟩ : ∃ R, cNs (n + 1) kids = R := ⟨_, rfl⟩
  rw [hR]
  have HR := Lib.hid hR
  have HBOX := Lib.hid fun W (hb : Below (w.alloc (.cells #[.int .i64 op, .slice ra rs.length rc, .string ⟨nm.toArray⟩, .slice a kids.length c, .int .i64 mn, .int .i64 mx] 25)).heap.size (w.alloc (.cells #[.int .i64 op, .slice ra rs.length rc, .string ⟨nm.toArray⟩, .slice a kids.length c, .int .i64 mn, .int .i64 mx] 25)) W) => (hb.cell (p := ⟨w.heap.size, 3, none⟩) (by simp)).trans (show _ = some (Value.slice a kids.length c) by simp [go_sem])
  have z0 : decide ((400 : Int) < (n : Int)) = false := decide_eq_false (by omega)
  clear hk h hr hR ih hN hnm
  go_enter Tryz.func15, Tryz.ntmps15
  go_wp2_with fail
  go_loopw [1, 5] (fun n i wr => ∃ (m k : Nat), n = .int .i64 m ∧ i = .int .i64 k ∧ k ≤ kids.length ∧ m ≤ 401 ∧ cNs m (kids.drop k) = R ∧ Below (w.alloc (.cells #[.int .i64 op, .slice ra rs.length rc, .string ⟨nm.toArray⟩, .slice a kids.length c, .int .i64 mn, .int .i64 mx] 25)).heap.size (w.alloc (.cells #[.int .i64 op, .slice ra rs.length rc, .string ⟨nm.toArray⟩, .slice a kids.length c, .int .i64 mn, .int .i64 mx] 25)) wr) (fun _ i _ => kids.length - (intOf i).toNat)
  case atStart => exact ⟨n + 1, 0, by go_num, rfl, by omega, by omega, HR.out, Below.refl _ _⟩
  case round =>
    obtain ⟨m, k, rfl, rfl, hkl, hm, hq, hb⟩ := hrel
    have HQ := Lib.hid hq
    have HB := Lib.hid hb
    have HBW := Lib.hid (HB0.out.trans (hb.mono HB0.out.size))
    have cb := HBOX.out wr hb
    clear hq HR hb
    by_cases hlt : k < kids.length
    · have HST := Lib.hid (cNs_step hlt m)
      by_cases h60 : m ≤ 400
      · obtain ⟨blk, off, op', ra', rn', rc', nm', a', n', c', mn', mx', rfl, hl, c0, c1, c2, c3, c4, c5, ht⟩ := HK.out k hlt
        have e0 := (HBW.out.cell (p := ⟨blk, off + k * 6, none⟩) hl).trans c0
        have e1 := (HBW.out.cell (p := ⟨blk, off + k * 6 + 1, none⟩) hl).trans c1
        have e2 := (HBW.out.cell (p := ⟨blk, off + k * 6 + 2, none⟩) hl).trans c2
        have e3 := (HBW.out.cell (p := ⟨blk, off + k * 6 + 3, none⟩) hl).trans c3
        have e4 := (HBW.out.cell (p := ⟨blk, off + k * 6 + 4, none⟩) hl).trans c4
        have e5 := (HBW.out.cell (p := ⟨blk, off + k * 6 + 5, none⟩) hl).trans c5
        have i1 : (k : Int) < (kids.length : Int) := by omega
        have i2 : (0 : Int) ≤ (k : Int) := by omega
        have HI := Lib.hid (IH.out k hlt m _ _ h60 (NAt.later HBW.out _ _ ht))
        have hle := cN_le kids[k] h60
        have HZ := Lib.hid (show cNs (cN kids[k] m) (kids.drop (k + 1)) = R by rw [← HQ.out, HST.out, if_pos h60])
        obtain ⟨s, hs2⟩ : ∃ s, cN kids[k] m = s := ⟨_, rfl⟩
        rw [hs2] at HI HZ hle
        clear c0 c1 c2 c3 c4 c5 ht hs2
        have z1 : decide ((m : Int) ≤ 400) = true := decide_eq_true (by omega)
        go_wp2_with fail
        refine HI.out.mono ?_
        rintro e w2 ⟨rfl, hb2⟩
        have HB3 := Lib.hid (HB.out.trans (hb2.mono HB.out.size))
        go_wp2_with fail
        go_roundw
        case rel => exact ⟨s, k + 1, rfl, by go_num, by omega, hle, HZ.out, HB3.out⟩
        case measure => simp [intOf]; omega
      · have HZ := Lib.hid (show m = R by rw [← HQ.out, HST.out, if_neg h60])
        have z1 : decide ((m : Int) ≤ 400) = false := decide_eq_false (by omega)
        go_wp2_with fail
        all_goals
          go_ret
          refine ⟨ret_int ?_, HBW.out⟩
          have := HZ.out
          omega
    · obtain rfl : k = kids.length := by omega
      have HZ := Lib.hid (show m = R by rw [← HQ.out, List.drop_length, cNs])
      go_wp2_with fail
      all_goals
        go_ret
        refine ⟨ret_int ?_, HBW.out⟩
        have := HZ.out
        omega
set_option maxRecDepth 100000 in
theorem nref_size (t : NT) (v : Value) (w : World) (h : NAt w t v) :
    Calls Tryz.prog 5 #[v] w fun e w' => e = .returned (.int .i64 (nSz t)) ∧ Below w.heap.size w w' := by
  have hb := (Below.refl _ w).alloc (Nat.le_refl _) (.cells (match v with | .agg a => a | _ => #[]) 25)
  have HC := Lib.hid (ncount_aux (SizeOf.sizeOf t + 1) t 0 v _ (by omega) (by omega) (NAt.later hb t v h))
  have HZ := Lib.hid (show cN t 0 = nSz t by rw [cN_eq _ t (Nat.lt_succ_self _) 0 (by omega)]; have := nSz_le t; omega)
  have HB := Lib.hid hb
  obtain ⟨op, rs, nm, kids, mn, mx, ra, rc, a, c, rfl, rfl, hr, ⟨hml, hnm⟩, hk⟩ := h.open
  clear hk hr hb hnm
  go_enter Tryz.func5, Tryz.ntmps5
  go_wp2_with fail
  refine HC.out.mono ?_
  rintro e w2 ⟨rfl, hb2⟩
  have HB3 := Lib.hid (HB.out.trans (hb2.mono HB.out.size))
  go_wp2_with fail
  go_ret
  exact ⟨ret_int (by rw [HZ.out]), HB3.out⟩

end Go.Proofs.YtphbkompnddflaaGreatDoor

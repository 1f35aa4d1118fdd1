/-
  Joined: LbQ, ReM, ReU, ReS, ReN, ReX.
-/
import Derived.Test.YtgcpinnnfoanjaaGreatDoorRfB
import Derived.Test.YtgcpinnnfoanjaaGreatDoorRfU
import Derived.Test.YtgcpinnnfoanjaaGreatDoorRfL
import Derived.BigQuiet
import Derived.Test.YtgcpinnnfoanjaaGreatDoorRfK
import Derived.Lib.QuietBelow
namespace Go.Proofs.YtgcpinnnfoanjaaGreatDoor
open Go.RowKit
theorem Lb.fmtL_take (l : List Lb.Def) {k : Nat} (hk : k < l.length) : Lb.fmtL (l.take (k + 1)) = Lb.fmtL (l.take k) ++ (l[k].1 ++ [32] ++ l[k].2 ++ [10]) := by
  unfold Lb.fmtL
  rw [List.take_succ_eq_append_getElem hk, List.map_append, List.flatten_append]
  simp
theorem Lb.fmtL_len (l : List Lb.Def) (hs : ∀ i (h : i < l.length), l[i].1.length ≤ 1000 ∧ l[i].2.length ≤ 1000) : ∀ k, k ≤ l.length → (Lb.fmtL (l.take k)).length ≤ 2002 * k
  | 0, _ => by simp [Lb.fmtL]
  | k + 1, h => by
    rw [Lb.fmtL_take l (by omega)]
    have ih := Lb.fmtL_len l hs k (by omega)
    obtain ⟨h1, h2⟩ := hs k (by omega)
    simp only [List.length_append, List.length_singleton]
    omega
set_option maxHeartbeats 8000000 in
set_option maxRecDepth 1000000 in
theorem format_any (l : List Lb.Def) (v : Value) (w : World) (hd : DfAt w l v) (hl : l.length ≤ 40) (hs : ∀ i (h : i < l.length), l[i].1.length ≤ 1000 ∧ l[i].2.length ≤ 1000) :
    Calls Tryz.prog 11 #[v] w fun e w' => e = .returned (.string ⟨(Lb.fmtL l).toArray⟩) ∧ Below w.heap.size w w' := by
  have hv := (zero_of_info infoBB2).1
  have HL := Lib.hid (Lb.fmtL_len l hs)
  have HS := Lib.hid hs
  obtain ⟨a, c, rfl, _, hvk⟩ := hd
  have HVK := Lib.hid hvk
  clear hvk hs
  go_enter Tryz.func11, Tryz.ntmps11
  go_wp2_with fail
  go_loopw [8] (fun i wr => ∃ k : Nat, i = .int .i64 k ∧ k ≤ l.length ∧ Hid (BW w.heap.size (Lb.fmtL (l.take k)) wr) ∧ Hid (Below w.heap.size w wr)) (fun i _ => l.length - (intOf i).toNat)
  case atStart => exact ⟨0, rfl, Nat.zero_le _, Lib.hid (BW.new w), Lib.hid (al_belowB w _)⟩
  case round =>
    obtain ⟨k, rfl, hkl, HW, HB⟩ := hrel
    by_cases hlt : k < l.length
    · obtain ⟨blk, off, rfl, hbl, d0, d1⟩ := HVK.out k hlt
      have e0 := (HB.out.cell (p := ⟨blk, off + k * 2, none⟩) hbl).trans d0
      have e1 := (HB.out.cell (p := ⟨blk, off + k * 2 + 1, none⟩) hbl).trans d1
      have i1 : (k : Int) < (l.length : Int) := by omega
      have i2 : (0 : Int) ≤ (k : Int) := by omega
      have lw := Nat.lt_of_lt_of_le hbl HB.out.size
      have hw1 : IntKind.i64.wrap ((k : Int) + 1) = (k : Int) + 1 := IntWalk.i64_in _ (by omega)
      have HF := Lib.hid (Lb.fmtL_take l hlt)
      have hlen := HL.out k hkl
      obtain ⟨h1, h2⟩ := HS.out k hlt
      obtain ⟨n1, hn1⟩ : ∃ n1, l[k].1 = n1 := ⟨_, rfl⟩
      obtain ⟨s1, hs1⟩ : ∃ s1, l[k].2 = s1 := ⟨_, rfl⟩
      rw [hn1] at e0 HF h1
      rw [hs1] at e1 HF h2
      have HWA := Lib.hid (HW.out.on (al_belowB wr (.cells #[.string ⟨n1.toArray⟩, .string ⟨s1.toArray⟩] 47)))
      have HBA := Lib.hid (HB.out.trans ((al_belowB wr (.cells #[.string ⟨n1.toArray⟩, .string ⟨s1.toArray⟩] 47)).mono HB.out.size))
      have x1 : ByteArray.mk n1.toArray ++ ByteArray.mk #[32] = ⟨(n1 ++ [32]).toArray⟩ := ba_app n1 [32]
      have x2 : ∀ W, (Op.stringOp .add ⟨(n1 ++ [32]).toArray⟩ ⟨s1.toArray⟩).run Tryz.prog W = .ok (.string ⟨(n1 ++ [32] ++ s1).toArray⟩) W := fun W => run_string_add_lists W (n1 ++ [32]) s1 (by rw [List.length_append, List.length_singleton]; omega) (by omega)
      have x3 : ∀ W, (Op.stringOp .add ⟨(n1 ++ [32] ++ s1).toArray⟩ ⟨#[10]⟩).run Tryz.prog W = .ok (.string ⟨(n1 ++ [32] ++ s1 ++ [10]).toArray⟩) W := fun W => run_string_add_lists W (n1 ++ [32] ++ s1) [10] (by simp only [List.length_append, List.length_singleton]; omega) (by simp)
      have hol : (n1 ++ [32] ++ s1 ++ [10]).length ≤ 10000000 := by simp only [List.length_append, List.length_singleton]; omega
      have ez : n1 ++ [32] ++ s1 ++ [10] = n1 ++ [32] ++ s1 ++ [10] := rfl
      obtain ⟨z3, hz3⟩ : ∃ z, n1 ++ [32] ++ s1 ++ [10] = z := ⟨_, rfl⟩
      obtain ⟨z2, hz2⟩ : ∃ z, n1 ++ [32] ++ s1 = z := ⟨_, rfl⟩
      obtain ⟨z1, hz1⟩ : ∃ z, n1 ++ [32] = z := ⟨_, rfl⟩
      rw [hz3] at HF hol x3
      rw [hz2] at x2 x3
      rw [hz1] at x1 x2
      clear d0 d1 hn1 hs1 ez hz1 hz2 hz3
      go_wp2_with fail
      refine (bstr_any w.heap.size (Lb.fmtL (l.take k)) z3 _ HWA.out (by omega) hol).mono ?_
      rintro e w2 ⟨rfl, hw2, hf2⟩
      have HW2 : Hid (BW w.heap.size (Lb.fmtL (l.take (k + 1))) w2) := Lib.hid (by rw [HF.out]; exact hw2)
      have HB2 := Lib.hid (HBA.out.trans hf2.bl)
      clear hw2 hf2 HW HB HWA HBA e0 e1
      go_wp2_with fail
      refine ⟨⟨k + 1, by go_num, by omega, HW2, HB2⟩, by simp [intOf]; omega⟩
    · have z1 : decide ((k : Int) < (l.length : Int)) = false := decide_eq_false (by omega)
      have y1 : decide (k < l.length) = false := decide_eq_false hlt
      have ht : l.take k = l := List.take_of_length_le (by omega)
      rw [ht] at HW
      clear ht
      go_wp2_with fail
      refine (bstring_any w.heap.size (Lb.fmtL l) _ HW.out).mono ?_
      rintro e w3 ⟨rfl, hb3⟩
      have HB3 := Lib.hid (HB.out.trans hb3)
      clear hb3
      go_wp2_with fail
      go_ret
      exact ⟨rfl, HB3.out⟩
end Go.Proofs.YtgcpinnnfoanjaaGreatDoor
namespace Go.Proofs.YtgcpinnnfoanjaaGreatDoor
open Go.RowKit
theorem DfAt.take {w : World} {l : List Lb.Def} {a : Option Addr} {n c k : Nat} (h : DfAt w l (.slice a n c)) (hk : k ≤ l.length) : DfAt w (l.take k) (.slice a k c) := by
  obtain ⟨a', c', e, hl, hc⟩ := h
  injection e with e1 e2 e3
  subst e1 e3
  have hkl : (l.take k).length = k := by rw [List.length_take]; omega
  refine ⟨a, c, by rw [hkl], by omega, fun i hi => ?_⟩
  obtain ⟨blk, off, e4, hb, c0, c1⟩ := hc i (by omega)
  refine ⟨blk, off, e4, hb, ?_, ?_⟩
  · rw [List.getElem_take]; exact c0
  · rw [List.getElem_take]; exact c1
theorem Lb.findM_take {l : List Lb.Def} {nm : List UInt8} {j : Nat} (h : Lb.findM l nm = some j) (k : Nat) : Lb.findM (l.take k) nm = if j < k then some j else none := by
  have hj := Lb.findM_lt h
  unfold Lb.findM at h
  rw [List.findIdx?_eq_some_iff_getElem] at h
  obtain ⟨_, h1, h2⟩ := h
  by_cases hjk : j < k
  · rw [if_pos hjk]
    refine Lb.findM_at (by rw [List.length_take]; omega) (by rw [List.getElem_take]; simpa using h1) (fun i hi hij => ?_)
    rw [List.getElem_take]
    have := h2 i hij
    simpa using this
  · rw [if_neg hjk]
    unfold Lb.findM
    rw [List.findIdx?_eq_none_iff]
    intro x hx
    rw [List.mem_take_iff_getElem] at hx
    obtain ⟨i, hi, rfl⟩ := hx
    have := h2 i (by omega)
    simpa using this
set_option maxHeartbeats 8000000 in
set_option maxRecDepth 1000000 in
theorem rlcheck_any (l : List Lb.Def) (v : Value) (hcp : CapOk v l.length) (hf : Fit l) (hnl : ∀ i (h : i < l.length), l[i].1.length ≤ 900000) (w : World) (hd : DfAt w l v) :
    Calls Tryz.prog 10 #[v] w (LCheckP l w) := by
  have HD := Lib.hid hd
  have HF := Lib.hid hf
  have HNL := Lib.hid hnl
  have hl40 := hf.1
  obtain ⟨R, hR⟩ : ∃ R, Lb.ckM l = R := ⟨_, rfl⟩
  have HRR : Hid (Lb.ck1 l (l.drop 0) 0 = R) := Lib.hid hR
  have HEND : Hid (∀ w', Below w.heap.size w w' → LCheckP l w (.returned (.int .i64 (R : Int))) w') := Lib.hid (fun w' h => ⟨by rw [hR], h⟩)
  obtain ⟨a, c, rfl, _, hvk⟩ := hd
  have hcc : l.length ≤ c := by
    obtain ⟨_, _, e, h⟩ := hcp
    injection e with _ _ e
    omega
  have HVK := Lib.hid hvk
  clear hf hvk hnl hR
  go_enter Tryz.func10, Tryz.ntmps10
  go_wp2_with fail
  go_loopw [3] (fun i wr => ∃ k : Nat, i = .int .i64 k ∧ k ≤ l.length ∧ Hid (Lb.ck1 l (l.drop k) k = R) ∧ Hid (Below w.heap.size w wr)) (fun i _ => l.length - (intOf i).toNat)
  case atStart => exact ⟨0, rfl, Nat.zero_le _, HRR, Lib.hid (Below.refl _ _)⟩
  case round =>
    obtain ⟨k, rfl, hkl, HN, HB⟩ := hrel
    by_cases hlt : k < l.length
    · obtain ⟨blk, off, rfl, hbl, d0, d1⟩ := HVK.out k hlt
      have e0 := (HB.out.cell (p := ⟨blk, off + k * 2, none⟩) hbl).trans d0
      have e1 := (HB.out.cell (p := ⟨blk, off + k * 2 + 1, none⟩) hbl).trans d1
      have i1 : (k : Int) < (l.length : Int) := by omega
      have i2 : (0 : Int) ≤ (k : Int) := by omega
      have lw := Nat.lt_of_lt_of_le hbl HB.out.size
      have hw1 : IntKind.i64.wrap ((k : Int) + 1) = (k : Int) + 1 := IntWalk.i64_in _ (by omega)
      have z40 : decide ((40 : Int) ≤ (k : Int)) = false := decide_eq_false (by omega)
      have y40 : decide (40 ≤ k) = false := decide_eq_false (by omega)
      obtain ⟨j, hfm, hjk⟩ := Lb.findM_ex l hlt
      rw [List.drop_eq_getElem_cons hlt, Lb.ck1, hfm, Option.getD_some] at HN
      have hnl := HNL.out k hlt
      obtain ⟨n1, hn1⟩ : ∃ n1, l[k].1 = n1 := ⟨_, rfl⟩
      obtain ⟨s1, hs1⟩ : ∃ s1, l[k].2 = s1 := ⟨_, rfl⟩
      rw [hn1] at e0 hfm HN hnl
      rw [hs1] at e1
      have HD2 := Lib.hid ((HD.out.later HB.out).take hkl)
      have HFI := Lib.hid (fun n => rfind_any (l.take k) n1 _ (wr.drewN n) (HD2.out.later (below_drewN (Below.refl _ _) n)))
      have HNM := Lib.hid (fun W => rname_any n1 W (by omega))
      have i3 : (k : Int) ≤ (c : Int) := by omega
      have hft : Lb.findM (l.take k) n1 = if j < k then some j else none := Lb.findM_take hfm k
      clear d0 d1 hn1 hs1 hfm
      by_cases hj : j < k
      · rw [if_pos hj] at hft HN
        have HFQ : Hid (∀ n, Calls Tryz.prog 29 #[.slice (some ⟨blk, off, none⟩) k c, .string ⟨n1.toArray⟩] (wr.drewN n) fun e w' => e = .returned (.tuple #[.string ⟨(Lb.srcOf (l.take k) j).toArray⟩, .bool true]) ∧ w' = wr.drewN n) := Lib.hid (fun n => (HFI.out n).mono fun e w' h => by
          unfold RfindP at h
          rw [hft] at h
          exact ⟨h.2, h.1.symm⟩)
        clear hft HFI
        go_wp2_with fail
        go_quiet ((go_at_call 29; exact Calls.quiet_of_same (HFQ.out _)))
        have HB2 := Lib.hid (below_drewN HB.out nq)
        cases hnb : nmB n1 with
        | false =>
          rw [hnb] at HNM
          rw [if_pos hnb] at HN
          go_wp2_with fail
          refine (HNM.out _).mono ?_
          rintro e w2 ⟨rfl, rfl⟩
          go_wp2_with fail
          go_ret
          rw [show (6 : Int) = ((6 : Nat) : Int) from rfl, HN.out]
          exact HEND.out _ HB2.out
        | true =>
          rw [hnb] at HNM
          rw [if_neg (by rw [hnb]; decide)] at HN
          go_wp2_with fail
          refine (HNM.out _).mono ?_
          rintro e w2 ⟨rfl, rfl⟩
          go_wp2_with fail
          go_ret
          rw [show (7 : Int) = ((7 : Nat) : Int) from rfl, HN.out]
          exact HEND.out _ HB2.out
      · rw [if_neg hj] at hft HN
        rw [if_neg (show ¬ 40 ≤ k by omega)] at HN
        have HFQ : Hid (∀ n, Calls Tryz.prog 29 #[.slice (some ⟨blk, off, none⟩) k c, .string ⟨n1.toArray⟩] (wr.drewN n) fun e w' => e = .returned (.tuple #[.string ⟨#[]⟩, .bool false]) ∧ w' = wr.drewN n) := Lib.hid (fun n => (HFI.out n).mono fun e w' h => by
          unfold RfindP at h
          rw [hft] at h
          exact ⟨h.2, h.1.symm⟩)
        clear hft HFI
        go_wp2_with fail
        go_quiet ((go_at_call 29; exact Calls.quiet_of_same (HFQ.out _)))
        have HB2 := Lib.hid (below_drewN HB.out nq)
        cases hnb : nmB n1 with
        | false =>
          rw [hnb] at HNM
          rw [if_pos hnb] at HN
          go_wp2_with fail
          refine (HNM.out _).mono ?_
          rintro e w2 ⟨rfl, rfl⟩
          go_wp2_with fail
          go_ret
          rw [show (6 : Int) = ((6 : Nat) : Int) from rfl, HN.out]
          exact HEND.out _ HB2.out
        | true =>
          rw [hnb] at HNM
          rw [if_neg (by rw [hnb]; decide)] at HN
          go_wp2_with fail
          refine (HNM.out _).mono ?_
          rintro e w2 ⟨rfl, rfl⟩
          go_wp2_with fail
          refine ⟨⟨k + 1, by go_num, by omega, HN, HB2⟩, by simp [intOf]; omega⟩
    · have z1 : decide ((k : Int) < (l.length : Int)) = false := decide_eq_false (by omega)
      have y1 : decide (k < l.length) = false := decide_eq_false hlt
      obtain rfl : k = l.length := by omega
      rw [List.drop_length, Lb.ck1] at HN
      have HN0 : Hid (Lb.ck2 l (l.drop 0) = R) := HN
      clear HN
      go_wp2_with fail
      go_loopw [6] (fun i wx => ∃ k : Nat, i = .int .i64 k ∧ k ≤ l.length ∧ Hid (Lb.ck2 l (l.drop k) = R) ∧ Hid (Below w.heap.size w wx)) (fun i _ => l.length - (intOf i).toNat)
      case atStart => exact ⟨0, rfl, Nat.zero_le _, HN0, HB⟩
      case round =>
        obtain ⟨k, rfl, hkl, HCS, HB5⟩ := hrel
        clear z1 y1 hlt HB
        by_cases hlt : k < l.length
        · obtain ⟨blk, off, rfl, hbl, d0, d1⟩ := HVK.out k hlt
          have e0 := (HB5.out.cell (p := ⟨blk, off + k * 2, none⟩) hbl).trans d0
          have e1 := (HB5.out.cell (p := ⟨blk, off + k * 2 + 1, none⟩) hbl).trans d1
          have i1 : (k : Int) < (l.length : Int) := by omega
          have i2 : (0 : Int) ≤ (k : Int) := by omega
          have lw := Nat.lt_of_lt_of_le hbl HB5.out.size
          have hw1 : IntKind.i64.wrap ((k : Int) + 1) = (k : Int) + 1 := IntWalk.i64_in _ (by omega)
          have hsl := HF.out.2 k hlt
          rw [List.drop_eq_getElem_cons hlt, Lb.ck2] at HCS
          obtain ⟨n1, hn1⟩ : ∃ n1, l[k].1 = n1 := ⟨_, rfl⟩
          obtain ⟨s1, hs1⟩ : ∃ s1, l[k].2 = s1 := ⟨_, rfl⟩
          rw [hn1] at e0
          rw [hs1] at e1 hsl HCS
          clear d0 d1 hn1 hs1
          go_wp2_with fail
          refine (rcomp_any l _ HF.out s1 _ (HD.out.later HB5.out) hsl).mono ?_
          rintro e w3 ⟨⟨op, ra, rn, rc, nm, ca, cn, cc, mn, mx, rfl⟩, hb3⟩
          have HB7 := Lib.hid (HB5.out.trans (hb3.mono HB5.out.size))
          clear hb3 e0 e1
          have HB8 := Lib.hid (HB7.out.trans ((al_below w3 (.cells #[.int .i64 op, .slice ra rn rc, .string ⟨nm.toArray⟩, .slice ca cn cc, .int .i64 mn, .int .i64 mx] 38)).mono HB7.out.size))
          obtain ⟨k3, hk3⟩ : ∃ k3, Lb.compM l s1 = k3 := ⟨_, rfl⟩
          rw [hk3] at HCS ⊢
          clear hk3
          rcases Nat.eq_zero_or_pos k3 with e0 | e0
          · subst e0
            rw [if_pos rfl] at HCS
            go_wp2_with fail
            refine ⟨⟨k + 1, by go_num, by omega, HCS, HB8⟩, by simp [intOf]; omega⟩
          · have z1 : ((k3 : Int) == 0) = false := by rw [beq_eq_false_iff_ne]; omega
            rw [if_neg (by omega)] at HCS
            go_wp2_with fail
            go_ret
            rw [HCS.out]
            exact HEND.out _ HB8.out
        · have z1 : decide ((k : Int) < (l.length : Int)) = false := decide_eq_false (by omega)
          have y1 : decide (k < l.length) = false := decide_eq_false hlt
          rw [List.drop_eq_nil_of_le (by omega), Lb.ck2] at HCS
          go_wp2_with fail
          go_ret
          rw [show (0 : Int) = ((0 : Nat) : Int) from rfl, HCS.out]
          exact HEND.out _ HB5.out
end Go.Proofs.YtgcpinnnfoanjaaGreatDoor
namespace Go.Proofs.YtgcpinnnfoanjaaGreatDoor
open Go.RowKit
theorem ssame_any (va vb : Value) (fs : List (List UInt8)) (w : World) (ha : NmAt w fs va) (hb : NmAt w fs vb) :
    Calls Tryz.prog 21 #[va, vb] w fun e w' => e = .returned (.bool true) ∧ Below w.heap.size w w' := by
  obtain ⟨a, ca, rfl, hl, ha⟩ := ha
  obtain ⟨b, cb, rfl, _, hb⟩ := hb
  have HA := Lib.hid ha
  have HB := Lib.hid hb
  clear ha hb
  go_enter Tryz.func21, Tryz.ntmps21
  go_wp2_with fail
  go_loopw [5] (fun i wr => ∃ k q : Nat, k ≤ fs.length ∧ i = .int .i64 k ∧ wr = w.drewN q) (fun i _ => fs.length - (intOf i).toNat)
  case atStart => exact ⟨0, 0, by omega, rfl, rfl⟩
  case round =>
    obtain ⟨k, q, hk, rfl, rfl⟩ := hrel
    by_cases hlt : k < fs.length
    · obtain ⟨g, off, rfl, _, hg⟩ := HA.out k hlt
      obtain ⟨g2, off2, rfl, _, hg2⟩ := HB.out k hlt
      have c1 : (w.drewN q).cell? ⟨g, off + k, none⟩ = some (.string ⟨(fs[k]).toArray⟩) := hg
      have c2 : (w.drewN q).cell? ⟨g2, off2 + k, none⟩ = some (.string ⟨(fs[k]).toArray⟩) := hg2
      have i1 : (k : Int) < (fs.length : Int) := by omega
      have i2 : (0 : Int) ≤ (k : Int) := by omega
      have z1 : decide ((k : Int) < (fs.length : Int)) = true := decide_eq_true (by omega)
      clear hg hg2
      generalize fs[k] = f at *
      generalize hW : w.drewN q = W at *
      go_wp2_with fail
      go_quiet (fail)
      go_wp2_with fail
      go_roundw
      case rel => exact ⟨k + 1, _, by omega, by go_num, by rw [← hW, World.drewN_drewN]⟩
      case measure => simp [intOf]; omega
    · have z1 : decide ((k : Int) < (fs.length : Int)) = false := decide_eq_false (by omega)
      go_wp2_with fail
      go_ret
      exact ⟨rfl, below_drewN (Below.refl _ _) q⟩
set_option maxHeartbeats 8000000 in
set_option maxRecDepth 1000000 in
theorem rformat_any (l : List Lb.Def) (v : Value) (w : World) (hd : DfAt w l v) (hl : l.length ≤ 40) (hs : ∀ i (h : i < l.length), l[i].1.length ≤ 1000 ∧ l[i].2.length ≤ 1000) :
    Calls Tryz.prog 12 #[v] w fun e w' => e = .returned (.string ⟨(Lb.fmtL l).toArray⟩) ∧ Below w.heap.size w w' := by
  have HL := Lib.hid (Lb.fmtL_len l hs)
  have HS := Lib.hid hs
  obtain ⟨a, c, rfl, _, hvk⟩ := hd
  have HVK := Lib.hid hvk
  clear hvk hs
  go_enter Tryz.func12, Tryz.ntmps12
  go_wp2_with fail
  go_loopw [3, 4] (fun s i wr => ∃ k : Nat, s = .string ⟨(Lb.fmtL (l.take k)).toArray⟩ ∧ i = .int .i64 k ∧ k ≤ l.length ∧ Hid (Below w.heap.size w wr)) (fun _ i _ => l.length - (intOf i).toNat)
  case atStart => exact ⟨0, rfl, rfl, Nat.zero_le _, Lib.hid (Below.refl _ _)⟩
  case round =>
    obtain ⟨k, rfl, rfl, hkl, HB⟩ := hrel
    by_cases hlt : k < l.length
    · obtain ⟨blk, off, rfl, hbl, d0, d1⟩ := HVK.out k hlt
      have e0 := (HB.out.cell (p := ⟨blk, off + k * 2, none⟩) hbl).trans d0
      have e1 := (HB.out.cell (p := ⟨blk, off + k * 2 + 1, none⟩) hbl).trans d1
      have i1 : (k : Int) < (l.length : Int) := by omega
      have i2 : (0 : Int) ≤ (k : Int) := by omega
      have lw := Nat.lt_of_lt_of_le hbl HB.out.size
      have hw1 : IntKind.i64.wrap ((k : Int) + 1) = (k : Int) + 1 := IntWalk.i64_in _ (by omega)
      have HF := Lib.hid (Lb.fmtL_take l hlt)
      have hlen := HL.out k hkl
      obtain ⟨h1, h2⟩ := HS.out k hlt
      obtain ⟨n1, hn1⟩ : ∃ n1, l[k].1 = n1 := ⟨_, rfl⟩
      obtain ⟨s1, hs1⟩ : ∃ s1, l[k].2 = s1 := ⟨_, rfl⟩
      rw [hn1] at e0 HF h1
      rw [hs1] at e1 HF h2
      have x1 := ba_app n1 [32]
      have x2 := ba_app (n1 ++ [32]) s1
      have x3 := ba_app (n1 ++ [32] ++ s1) [10]
      obtain ⟨z3, hz3⟩ : ∃ z, n1 ++ [32] ++ s1 ++ [10] = z := ⟨_, rfl⟩
      have hz3l : z3.length ≤ 3000 := by rw [← hz3]; simp only [List.length_append, List.length_singleton]; omega
      rw [hz3] at HF x3
      obtain ⟨z2, hz2⟩ : ∃ z, n1 ++ [32] ++ s1 = z := ⟨_, rfl⟩
      have hz2l : z2.length ≤ 3000 := by rw [← hz2]; simp only [List.length_append, List.length_singleton]; omega
      rw [hz2] at x2 x3
      obtain ⟨z1, hz1⟩ : ∃ z, n1 ++ [32] = z := ⟨_, rfl⟩
      have hz1l : z1.length ≤ 3000 := by rw [← hz1]; simp only [List.length_append, List.length_singleton]; omega
      rw [hz1] at x1 x2
      have x4 := ba_app (Lb.fmtL (l.take k)) z3
      rw [← HF.out] at x4
      obtain ⟨o1, ho1⟩ : ∃ z, Lb.fmtL (l.take (k + 1)) = z := ⟨_, rfl⟩
      obtain ⟨o0, ho0⟩ : ∃ z, Lb.fmtL (l.take k) = z := ⟨_, rfl⟩
      have HO1 := Lib.hid ho1
      rw [ho1] at x4
      rw [ho0] at x4 hlen ⊢
      clear d0 d1 hn1 hs1 hz1 hz2 hz3 HF ho0 ho1
      go_wp2_with fail
      go_quiet (fail)
      have HB2 := Lib.hid (below_drewN HB.out nq)
      go_wp2_with fail
      refine ⟨⟨k + 1, by rw [HO1.out], by go_num, by omega, HB2⟩, by simp [intOf]; omega⟩
    · have z1 : decide ((k : Int) < (l.length : Int)) = false := decide_eq_false (by omega)
      have y1 : decide (k < l.length) = false := decide_eq_false hlt
      rw [show l.take k = l from List.take_of_length_le (by omega)]
      go_wp2_with fail
      go_ret
      exact ⟨rfl, HB.out⟩
end Go.Proofs.YtgcpinnnfoanjaaGreatDoor
namespace Go.Proofs.YtgcpinnnfoanjaaGreatDoor
open Go.RowKit Go.Sort
set_option maxRecDepth 1000000 in
set_option maxHeartbeats 4000000 in
theorem same_aux (N : Nat) : ∀ (t : NT) (v x : Value) (w : World), SizeOf.sizeOf t < N → NAt w t v → NAt w t x →
    Calls Tryz.prog 20 #[v, x] w fun e w' => e = .returned (.bool true) ∧ Below w.heap.size w w' := by
  induction N with
  | zero => intro t v x w h _ _; omega
  | succ N ih =>
  intro t v x w hN h h2
  obtain ⟨op, rs, nm, kids, mn, mx, ra, rc, a, c, rfl, rfl, hr, ⟨hml, hnm⟩, hk⟩ := h.open
  obtain ⟨op', rs', nm', kids', mn', mx', ra', rc', a', c', ht, rfl, hr', _, hk'⟩ := h2.open
  injection ht with e1 e2 e3 e4 e5 e6
  subst e1 e2 e3 e4 e5 e6
  have IH := Lib.hid fun (i : Nat) (hi : i < kids.length) (W : World) (u y : Value) (hu : NAt W kids[i] u) (hy : NAt W kids[i] y) => ih kids[i] u y W (by have := kid_lt (op := op) (rs := rs) (nm := nm) (mn := mn) (mx := mx) i hi; omega) hu hy
  have HK := Lib.hid hk
  have HK' := Lib.hid hk'
  obtain ⟨_, _, er, hrl, hrk⟩ := hr
  injection er with er1 er2 er3
  subst er1 er3
  obtain ⟨_, _, er, _, hrk'⟩ := hr'
  injection er with er1 er2 er3
  subst er1 er3
  have HR := Lib.hid hrk
  have HR' := Lib.hid hrk'
  have hb1 := al_below w (.cells #[.int .i64 op, .slice ra rs.length rc, .string ⟨nm.toArray⟩, .slice a kids.length c, .int .i64 mn, .int .i64 mx] 38)
  have HBK1 := Lib.hid ((nE_new w op ra rs.length rc nm a kids.length c mn mx).on (al_below _ (.cells #[.int .i64 op, .slice ra' rs.length rc', .string ⟨nm.toArray⟩, .slice a' kids.length c', .int .i64 mn, .int .i64 mx] 38)) (by simp))
  have HBK2 := Lib.hid (nE_new (w.alloc (.cells #[.int .i64 op, .slice ra rs.length rc, .string ⟨nm.toArray⟩, .slice a kids.length c, .int .i64 mn, .int .i64 mx] 38)) op ra' rs.length rc' nm a' kids.length c' mn mx)
  have HB0 := Lib.hid (hb1.alloc hb1.size (.cells #[.int .i64 op, .slice ra' rs.length rc', .string ⟨nm.toArray⟩, .slice a' kids.length c', .int .i64 mn, .int .i64 mx] 38))
  have hs1 : (w.alloc (.cells #[.int .i64 op, .slice ra rs.length rc, .string ⟨nm.toArray⟩, .slice a kids.length c, .int .i64 mn, .int .i64 mx] 38)).heap.size = w.heap.size + 1 := by simp
  rw [hs1] at HBK2
  obtain ⟨W0, hW0⟩ : ∃ W0, (w.alloc (.cells #[.int .i64 op, .slice ra rs.length rc, .string ⟨nm.toArray⟩, .slice a kids.length c, .int .i64 mn, .int .i64 mx] 38)).alloc (.cells #[.int .i64 op, .slice ra' rs.length rc', .string ⟨nm.toArray⟩, .slice a' kids.length c', .int .i64 mn, .int .i64 mx] 38) = W0 := ⟨_, rfl⟩
  rw [hW0] at HBK1 HBK2 HB0
  obtain ⟨p0, p1, p2, p3, p4, p5⟩ := bkn HBK1.out
  obtain ⟨q0, q1, q2, q3, q4, q5⟩ := bkn HBK2.out
  clear hk hk' h h2 hrk hrk' ih hN hnm hb1
  go_enter Tryz.func20, Tryz.ntmps20
  go_wp2_with fail
  clear hW0
  go_loopw [5] (fun i wr => ∃ k : Nat, i = .int .i64 k ∧ k ≤ rs.length ∧ Hid (Below W0.heap.size W0 wr)) (fun i _ => rs.length - (intOf i).toNat)
  case atStart => exact ⟨0, rfl, by omega, Lib.hid (Below.refl _ _)⟩
  case round =>
    obtain ⟨k, rfl, hkl, HB⟩ := hrel
    clear p0 p1 p2 p3 p4 p5 q0 q1 q2 q3 q4 q5
    obtain ⟨p0, p1, p2, p3, p4, p5⟩ := bkn (HBK1.out.on HB.out HBK1.out.lt)
    obtain ⟨q0, q1, q2, q3, q4, q5⟩ := bkn (HBK2.out.on HB.out HBK2.out.lt)
    have HBW := Lib.hid (HB0.out.trans (HB.out.mono HB0.out.size))
    by_cases hlt : k < rs.length
    · obtain ⟨blk, off, rfl, hl, c0, c1⟩ := HR.out k hlt
      obtain ⟨blk', off', rfl, hl', d0, d1⟩ := HR'.out k hlt
      have e0 := (HBW.out.cell (p := ⟨blk, off + k * 2, none⟩) hl).trans c0
      have e1 := (HBW.out.cell (p := ⟨blk, off + k * 2 + 1, none⟩) hl).trans c1
      have g0 := (HBW.out.cell (p := ⟨blk', off' + k * 2, none⟩) hl').trans d0
      have g1 := (HBW.out.cell (p := ⟨blk', off' + k * 2 + 1, none⟩) hl').trans d1
      have i1 : (k : Int) < (rs.length : Int) := by omega
      have i2 : (0 : Int) ≤ (k : Int) := by omega
      have hw1 : IntKind.i64.wrap ((k : Int) + 1) = (k : Int) + 1 := IntWalk.i64_in _ (by omega)
      obtain ⟨lo, hlo⟩ : ∃ lo, rs[k].1.toNat = lo := ⟨_, rfl⟩
      obtain ⟨hi, hhi⟩ : ∃ hi, rs[k].2.toNat = hi := ⟨_, rfl⟩
      rw [hlo] at e0 g0
      rw [hhi] at e1 g1
      clear c0 c1 d0 d1 hlo hhi
      go_wp2_with fail
      go_quiet (fail)
      go_wp2_with fail
      go_roundw
      case rel => exact ⟨k + 1, by go_num, by omega, Lib.hid (below_drewN HB.out _)⟩
      case measure => simp [intOf]; omega
    · obtain rfl : k = rs.length := by omega
      go_wp2_with fail
      go_loopw [6] (fun i wr => ∃ k : Nat, i = .int .i64 k ∧ k ≤ kids.length ∧ Hid (Below W0.heap.size W0 wr)) (fun i _ => kids.length - (intOf i).toNat)
      case atStart => exact ⟨0, rfl, by omega, HB⟩
      case round =>
        clear p0 p1 p2 p3 p4 p5 q0 q1 q2 q3 q4 q5 HB HBW
        obtain ⟨k, rfl, hkl, HB⟩ := hrel
        obtain ⟨p0, p1, p2, p3, p4, p5⟩ := bkn (HBK1.out.on HB.out HBK1.out.lt)
        obtain ⟨q0, q1, q2, q3, q4, q5⟩ := bkn (HBK2.out.on HB.out HBK2.out.lt)
        have HBW := Lib.hid (HB0.out.trans (HB.out.mono HB0.out.size))
        by_cases hlt : k < kids.length
        · obtain ⟨blk, off, op1, ra1, rn1, rc1, nm1, a1, n1, c1, mn1, mx1, rfl, hl, c0, c1, c2, c3, c4, c5, ht⟩ := HK.out k hlt
          obtain ⟨blk', off', op2, ra2, rn2, rc2, nm2, a2, n2, c2', mn2, mx2, rfl, hl', d0, d1, d2, d3, d4, d5, ht'⟩ := HK'.out k hlt
          have x0 := cell_regrown ((HBW.out.cell (p := ⟨blk, off + k * 6, none⟩) hl).trans c0)
          have x1 := cell_regrown ((HBW.out.cell (p := ⟨blk, off + k * 6 + 1, none⟩) hl).trans c1)
          have x2 := cell_regrown ((HBW.out.cell (p := ⟨blk, off + k * 6 + 2, none⟩) hl).trans c2)
          have x3 := cell_regrown ((HBW.out.cell (p := ⟨blk, off + k * 6 + 3, none⟩) hl).trans c3)
          have x4 := cell_regrown ((HBW.out.cell (p := ⟨blk, off + k * 6 + 4, none⟩) hl).trans c4)
          have x5 := cell_regrown ((HBW.out.cell (p := ⟨blk, off + k * 6 + 5, none⟩) hl).trans c5)
          have y0 := cell_regrown ((HBW.out.cell (p := ⟨blk', off' + k * 6, none⟩) hl').trans d0)
          have y1 := cell_regrown ((HBW.out.cell (p := ⟨blk', off' + k * 6 + 1, none⟩) hl').trans d1)
          have y2 := cell_regrown ((HBW.out.cell (p := ⟨blk', off' + k * 6 + 2, none⟩) hl').trans d2)
          have y3 := cell_regrown ((HBW.out.cell (p := ⟨blk', off' + k * 6 + 3, none⟩) hl').trans d3)
          have y4 := cell_regrown ((HBW.out.cell (p := ⟨blk', off' + k * 6 + 4, none⟩) hl').trans d4)
          have y5 := cell_regrown ((HBW.out.cell (p := ⟨blk', off' + k * 6 + 5, none⟩) hl').trans d5)
          have k3 := cell_regrown p3
          have m3 := cell_regrown q3
          have i1 : (k : Int) < (kids.length : Int) := by omega
          have i2 : (0 : Int) ≤ (k : Int) := by omega
          have hw1 : IntKind.i64.wrap ((k : Int) + 1) = (k : Int) + 1 := IntWalk.i64_in _ (by omega)
          have HI := Lib.hid fun d os => IH.out k hlt (grow (redrawn wr d) os) _ _ (NAt.later ((below_regrown wr d os).mono HBW.out.size |> HBW.out.trans) _ _ ht) (NAt.later ((below_regrown wr d os).mono HBW.out.size |> HBW.out.trans) _ _ ht')
          clear c0 c1 c2 c3 c4 c5 d0 d1 d2 d3 d4 d5 ht ht'
          go_wp2_with fail
          clear p0 p1 p2 p3 p4 p5 q0 q1 q2 q3 q4 q5
          refine wp_region_quiet_below (by kernel_rfl) (by kernel_rfl) ?_
          repeat (first | go_big_quiet_step ((go_at_call 20; exact Calls.regrown_of (HI.out _ _))) | quiet_step ((go_at_call 20; exact Calls.regrown_of (HI.out _ _))))
          refine wpQuiet_nil ?_
          clear x0 x1 x2 x3 x4 x5 y0 y1 y2 y3 y4 y5 k3 m3
          rintro _ ⟨⟨dq, osq⟩, rfl⟩
          obtain ⟨w3, hw3⟩ : ∃ W, grow (redrawn wr dq) osq = W := ⟨_, rfl⟩
          have HQ3 : Hid (Below W0.heap.size W0 w3) := Lib.hid (hw3 ▸ HB.out.trans ((below_regrown wr dq osq).mono HB.out.size))
          dsimp only
          rw [hw3]
          clear hw3
          go_wp2_with fail
          go_roundw
          case rel => exact ⟨k + 1, by go_num, by omega, HQ3⟩
          case measure => simp [intOf]; omega
        · obtain rfl : k = kids.length := by omega
          go_wp2_with fail
          go_ret
          exact ⟨rfl, HBW.out⟩
theorem same_self (t : NT) (v x : Value) (w : World) (h : NAt w t v) (h2 : NAt w t x) :
    Calls Tryz.prog 20 #[v, x] w fun e w' => e = .returned (.bool true) ∧ Below w.heap.size w w' := same_aux _ t v x w (Nat.lt_succ_self _) h h2
end Go.Proofs.YtgcpinnnfoanjaaGreatDoor
namespace Go.Proofs.YtgcpinnnfoanjaaGreatDoor
open Go.RowKit
def nmsV (s : List UInt8) : List (List UInt8) × Nat := match Lb.refsM s with
  | none => ([], 1)
  | some L => (L.map (·.nm), 0)
theorem NmsP.v {s : List UInt8} {w : World} {e : Ending} {w' : World} (h : NmsP s w e w') : ∃ a c, e = .returned (.tuple #[.slice a (nmsV s).1.length c, .int .i64 ((nmsV s).2 : Int)]) ∧ NmAt w' (nmsV s).1 (.slice a (nmsV s).1.length c) ∧ Below w.heap.size w w' := by
  obtain ⟨hb, h⟩ := h
  unfold nmsV
  cases hr : Lb.refsM s with
  | none =>
    rw [hr] at h
    exact ⟨none, 0, h, ⟨none, 0, rfl, by simp, fun i hi => by simp at hi⟩, hb⟩
  | some L =>
    rw [hr] at h
    obtain ⟨v, h, ho⟩ := h
    have hn := NmAt.of_rw (ho.rw (F := fun _ => True) (fun _ _ => trivial)) ho.size
    obtain ⟨a, c, rfl, _⟩ := id hn
    exact ⟨a, c, h, hn, hb⟩
def NGA (w : World) (T : NT) (v : Value) : Prop := NG (fun _ => True) w T v
theorem NGA.of {F : Nat → Prop} {w : World} {T : NT} {v : Value} (h : NG F w T v) : NGA w T v := NG.go ⟨Nat.le_refl _, fun _ _ _ => ⟨trivial, rfl⟩⟩ _ _ h
theorem NGA.later {w w' : World} {T : NT} {v : Value} (h : NGA w T v) (hb : Below w.heap.size w w') : NGA w' T v := NG.go (stay_all hb) _ _ h
theorem CompY.open {K : Nat} {T : NT} {w : World} {e : Ending} {w' : World} (h : CompY K T w e w') : ∃ (op : Int) (ra : Option Addr) (rn rc : Nat) (nm : List UInt8) (ca : Option Addr) (cn cc : Nat) (mn mx : Int), e = .returned (.tuple #[.agg #[.int .i64 op, .slice ra rn rc, .string ⟨nm.toArray⟩, .slice ca cn cc, .int .i64 mn, .int .i64 mx], .int .i64 (K : Int)]) ∧ NGA w' T (.agg #[.int .i64 op, .slice ra rn rc, .string ⟨nm.toArray⟩, .slice ca cn cc, .int .i64 mn, .int .i64 mx]) ∧ Below w.heap.size w w' := by
  obtain ⟨v, rfl, hng, hb⟩ := h
  have hn := NGA.of hng
  obtain ⟨op, rs, nm, kk, mn, mx, ra, rc, ca, cc, _, rfl, _⟩ := hng.open
  exact ⟨op, ra, _, rc, nm, ca, _, cc, mn, mx, rfl, hn, hb⟩
theorem expV_two (R : Lb.Res) : ∃ (t : List UInt8) (k : Nat), expV R = .tuple #[.string ⟨t.toArray⟩, .int .i64 (k : Int)] := by
  cases R with
  | ok t => exact ⟨t, 0, rfl⟩
  | error k => exact ⟨[], k, rfl⟩
theorem GenD.nms {l : List Lb.Def} (h : GenD l) : ∀ i (h : i < l.length), l[i].1.length ≤ 1000 ∧ l[i].2.length ≤ 1000 := fun i hi => by
  obtain ⟨h1, h2⟩ := h.2 i hi
  have := h2.1
  exact ⟨by omega, by omega⟩
end Go.Proofs.YtgcpinnnfoanjaaGreatDoor
namespace Go.Proofs.YtgcpinnnfoanjaaGreatDoor
open Go.RowKit
set_option maxHeartbeats 16000000 in
set_option maxRecDepth 1000000 in
theorem expands_any (v : Value) (cs s0 : List UInt8) (w : World) (hk : KM w) (hb : BS w v cs) : Calls Tryz.prog 3 #[v, .string ⟨s0.toArray⟩] w fun e w' => e = .returned (.bool true) ∧ Below w.heap.size w w' := by
  have HAW := Lib.hid (lawake_any w hk)
  have HK := Lib.hid hk
  have HBS := Lib.hid hb
  obtain ⟨va, vc, rfl, _⟩ := hb
  clear hk
  go_enter Tryz.func3, Tryz.ntmps3
  go_wp2_with fail
  refine HAW.out.mono ?_
  rintro e w1 ⟨rfl, hb1⟩
  have HB1 := Lib.hid hb1
  have HBS1 := Lib.hid (BS.below HBS.out hb1)
  clear hb1 HAW HBS
  go_wp2_with fail
  refine (new_any _ cs 140 w1 HBS1.out (by omega)).mono ?_
  rintro e w2 ⟨rfl, hca, hb2⟩
  have HC2 := Lib.hid hca
  have HB2 := Lib.hid (HB1.out.trans (hb2.mono HB1.out.size))
  have HGW : Hid (w.heap.size ≤ w1.heap.size) := Lib.hid HB1.out.size
  obtain ⟨g, hg⟩ : ∃ g, w1.heap.size = g := ⟨_, rfl⟩
  rw [hg] at HC2 HGW ⊢
  have HGL : Hid (g < w2.heap.size) := Lib.hid HC2.out.1
  clear hca hb2 hg HBS1 HB1
  go_wp2_with fail
  refine (draw_full g w2 HC2.out).mono ?_
  rintro e w3 ⟨l, lv, hgd, hrw, rfl, hca, hap, hcp⟩
  have HGD := Lib.hid hgd
  have HR3 := Lib.hid hrw
  have HB3 := Lib.hid (Apart.below HB2.out hap HGW.out)
  have HC3 := Lib.hid hca
  have HCP := Lib.hid hcp
  have hll := hgd.1
  obtain ⟨B, hB⟩ : ∃ B, w2.heap.size = B := ⟨_, rfl⟩
  rw [hB] at HR3 HGL
  clear hca hgd hap hrw hcp hB HC2 HB2
  obtain ⟨la, lc, rfl, _⟩ := id HR3.out
  go_wp2_with fail
  refine (lcheck_any l _ HGD.out.fit HGD.out.nm w3 (HK.out.below HB3.out) (DfAt.rw HR3.out (by omega))).mono ?_
  rintro e w4 ⟨rfl, hb⟩
  have HB4 := Lib.hid (HB3.out.trans (hb.mono HB3.out.size))
  have HR4 := Lib.hid (HR3.out.go (stay_below hb) (fun _ _ h => h))
  have HC4 := Lib.hid (HC3.out.below hb)
  clear hb HB3 HR3 HC3
  go_wp2_with fail
  refine (rlcheck_any l _ HCP.out HGD.out.fit HGD.out.nm w4 (DfAt.rw HR4.out (by omega))).mono ?_
  rintro e w5 ⟨rfl, hb⟩
  have HB5 := Lib.hid (HB4.out.trans (hb.mono HB4.out.size))
  have HR5 := Lib.hid (HR4.out.go (stay_below hb) (fun _ _ h => h))
  have HC5 := Lib.hid (HC4.out.below hb)
  clear hb HB4 HR4 HC4
  obtain ⟨k, hkk⟩ : ∃ k, Lb.ckM l = k := ⟨_, rfl⟩
  rw [hkk]
  clear hkk
  go_wp2_with fail
  refine (format_any l _ w5 (DfAt.rw HR5.out (by omega)) (by omega) HGD.out.nms).mono ?_
  rintro e w6 ⟨rfl, hb⟩
  have HB6 := Lib.hid (HB5.out.trans (hb.mono HB5.out.size))
  have HR6 := Lib.hid (HR5.out.go (stay_below hb) (fun _ _ h => h))
  have HC6 := Lib.hid (HC5.out.below hb)
  clear hb HB5 HR5 HC5
  go_wp2_with fail
  refine (rformat_any l _ w6 (DfAt.rw HR6.out (by omega)) (by omega) HGD.out.nms).mono ?_
  rintro e w7 ⟨rfl, hb⟩
  have HB7 := Lib.hid (HB6.out.trans (hb.mono HB6.out.size))
  have HR7 := Lib.hid (HR6.out.go (stay_below hb) (fun _ _ h => h))
  have HC7 := Lib.hid (HC6.out.below hb)
  clear hb HB6 HR6 HC6
  obtain ⟨fm, hfm⟩ : ∃ fm, Lb.fmtL l = fm := ⟨_, rfl⟩
  rw [hfm]
  clear hfm
  go_wp2_with fail
  refine (source_any g w7 HC7.out).mono ?_
  rintro e w8 ⟨x1, hx, rfl, hca, hap⟩
  have HB8 := Lib.hid (Apart.below HB7.out hap HGW.out)
  have HR8 := Lib.hid (HR7.out.go (stay_apart hap HGL.out) (fun _ _ h => h))
  have HC8 := Lib.hid hca
  have hlx1 := hx.1
  clear hca hap hx HB7 HR7 HC7
  go_wp2_with fail
  refine (source_any g w8 HC8.out).mono ?_
  rintro e w9 ⟨x2, hx, rfl, hca, hap⟩
  have HB9 := Lib.hid (Apart.below HB8.out hap HGW.out)
  have HR9 := Lib.hid (HR8.out.go (stay_apart hap HGL.out) (fun _ _ h => h))
  have HC9 := Lib.hid hca
  have hlx2 := hx.1
  clear hca hap hx HB8 HR8 HC8
  go_wp2_with fail
  refine (source_any g w9 HC9.out).mono ?_
  rintro e w10 ⟨x3, hx, rfl, hca, hap⟩
  have HB10 := Lib.hid (Apart.below HB9.out hap HGW.out)
  have HR10 := Lib.hid (HR9.out.go (stay_apart hap HGL.out) (fun _ _ h => h))
  have HC10 := Lib.hid hca
  have hlx3 := hx.1
  clear hca hap hx HB9 HR9 HC9
  have xx := ba_app x2 x3
  have hlx : (x2 ++ x3).length ≤ 500 := by rw [List.length_append]; omega
  obtain ⟨x4, hx4⟩ : ∃ x4, x2 ++ x3 = x4 := ⟨_, rfl⟩
  rw [hx4] at xx hlx
  clear hx4
  obtain ⟨rows, hrows⟩ : ∃ rows : List (List UInt8), rows = [s0, x1, x4] := ⟨_, rfl⟩
  have hr3 : rows.length = 3 := by rw [hrows]; rfl
  have hbW := al_below w10 (.cells #[.string ⟨s0.toArray⟩, .string ⟨x1.toArray⟩, .string ⟨x4.toArray⟩] 9)
  have HBW := Lib.hid (HB10.out.trans (hbW.mono HB10.out.size))
  have HRW := Lib.hid (HR10.out.go (stay_below hbW) (fun _ _ h => h))
  have HCW : Hid (∀ i (h : i < rows.length), (w10.alloc (.cells #[.string ⟨s0.toArray⟩, .string ⟨x1.toArray⟩, .string ⟨x4.toArray⟩] 9)).cell? ⟨w10.heap.size, i, none⟩ = some (.string ⟨(rows[i]).toArray⟩)) := Lib.hid (by
    subst hrows
    intro i hi
    rw [Lib.cell_of_heap (heap_alloc_new w10 _)]
    match i, hi with
    | 0, _ => rfl
    | 1, _ => rfl
    | 2, _ => rfl)
  have HLT : Hid (w10.heap.size < (w10.alloc (.cells #[.string ⟨s0.toArray⟩, .string ⟨x1.toArray⟩, .string ⟨x4.toArray⟩] 9)).heap.size) := Lib.hid (by simp)
  clear hbW HB10 HR10 HC10 hrows
  go_wp2_with fail
  obtain ⟨W0, hW0⟩ : ∃ W0, w10.alloc (.cells #[.string ⟨s0.toArray⟩, .string ⟨x1.toArray⟩, .string ⟨x4.toArray⟩] 9) = W0 := ⟨_, rfl⟩
  rw [hW0] at HBW HRW HCW HLT ⊢
  clear hW0 xx hlx hlx1 hlx2 hlx3
  go_loopw [49] (fun i wr => ∃ k : Nat, i = .int .i64 k ∧ k ≤ 3 ∧ Hid (Below W0.heap.size W0 wr)) (fun i _ => 3 - (intOf i).toNat)
  case atStart => exact ⟨0, rfl, Nat.zero_le _, Lib.hid (Below.refl _ _)⟩
  case round =>
    obtain ⟨k, rfl, hkl, HB⟩ := hrel
    have HBr := Lib.hid (HBW.out.trans (HB.out.mono HBW.out.size))
    have HRr := Lib.hid (HRW.out.go (stay_below HB.out) (fun _ _ h => h))
    by_cases hlt : k < 3
    · have i1 : (k : Int) < 3 := by omega
      have i2 : (0 : Int) ≤ (k : Int) := by omega
      have hw1 : IntKind.i64.wrap ((k : Int) + 1) = (k : Int) + 1 := IntWalk.i64_in _ (by omega)
      have c0 := (HB.out.cell (p := ⟨w10.heap.size, k, none⟩) HLT.out).trans (HCW.out k (by omega))
      obtain ⟨s, hs⟩ : ∃ s, rows[k]'(by omega) = s := ⟨_, rfl⟩
      rw [hs] at c0
      clear hs
      by_cases h5 : 500 < s.length
      · have z1 : decide ((500 : Int) < (s.length : Int)) = true := decide_eq_true (by omega)
        have y1 : decide (500 < s.length) = true := decide_eq_true h5
        go_wp2_with fail
        refine ⟨⟨k + 1, by go_num, by omega, HB⟩, by simp [intOf]; omega⟩
      · have z1 : decide ((500 : Int) < (s.length : Int)) = false := decide_eq_false (by omega)
        have y1 : decide (500 < s.length) = false := decide_eq_false h5
        obtain ⟨t, e1, ht⟩ := expV_two (Lb.runM l s)
        have HE1 := Lib.hid (exp_any l _ HGD.out.fit s wr (HK.out.below HBr.out) (DfAt.rw HRr.out (by omega)) (by omega))
        rw [ht] at HE1
        go_wp2_with fail
        refine HE1.out.mono ?_
        rintro e w1 ⟨rfl, hb⟩
        have HX1 := Lib.hid (HB.out.trans (hb.mono HB.out.size))
        have HR1 := Lib.hid (HRr.out.go (stay_below hb) (fun _ _ h => h))
        clear hb HE1 c0 z1 y1
        have HE2 := Lib.hid (rexp_any l _ HGD.out.fit s w1 (DfAt.rw HR1.out (by omega)) (by omega))
        rw [ht] at HE2
        clear ht
        go_wp2_with fail
        refine HE2.out.mono ?_
        rintro e w2 ⟨rfl, hb⟩
        have HX2 := Lib.hid (HX1.out.trans (hb.mono HX1.out.size))
        have HR2 := Lib.hid (HR1.out.go (stay_below hb) (fun _ _ h => h))
        have HQ2 := Lib.hid (HBW.out.trans (HX2.out.mono HBW.out.size))
        clear hb HE2 HX1 HR1
        obtain ⟨K, hK⟩ : ∃ K, Lb.compM l s = K := ⟨_, rfl⟩
        obtain ⟨T, hT⟩ : ∃ T, Lb.compT l s = T := ⟨_, rfl⟩
        have HE3 := Lib.hid (comp_full l _ HGD.out.fit s w2 (HK.out.below HQ2.out) (DfAt.rw HR2.out (by omega)) (by omega))
        rw [hK, hT] at HE3
        go_wp2_with fail
        refine HE3.out.mono ?_
        intro e w3 hcm
        obtain ⟨op, ra, rn, rc, nm, ca, cn, cc, mn, mx, rfl, hng, hb⟩ := hcm.open
        have HX3 := Lib.hid (HX2.out.trans (hb.mono HX2.out.size))
        have HR3 := Lib.hid (HR2.out.go (stay_below hb) (fun _ _ h => h))
        have HN3 := Lib.hid hng
        clear hb hcm hng HE3 HX2 HR2 HQ2
        have hal := al_below w3 (.cells #[.int .i64 op, .slice ra rn rc, .string ⟨nm.toArray⟩, .slice ca cn cc, .int .i64 mn, .int .i64 mx] 38)
        have HX4 := Lib.hid (HX3.out.trans (hal.mono HX3.out.size))
        have HR4 := Lib.hid (HR3.out.go (stay_below hal) (fun _ _ h => h))
        have HN4 := Lib.hid (HN3.out.later hal)
        have HP4 := Lib.hid (nE_new w3 op ra rn rc nm ca cn cc mn mx)
        obtain ⟨w4, hw4⟩ : ∃ w4, w3.alloc (.cells #[.int .i64 op, .slice ra rn rc, .string ⟨nm.toArray⟩, .slice ca cn cc, .int .i64 mn, .int .i64 mx] 38) = w4 := ⟨_, rfl⟩
        rw [hw4] at HX4 HR4 HN4 HP4
        clear hal HX3 HR3 HN3
        have HE4 := Lib.hid (rcomp_full l _ HGD.out.fit s w4 (DfAt.rw HR4.out (by omega)) (by omega))
        rw [hK, hT] at HE4
        clear hK hT
        go_wp2_with fail
        try rw [hw4]
        obtain ⟨q3, hq3⟩ : ∃ q, w3.heap.size = q := ⟨_, rfl⟩
        rw [hq3] at HP4 ⊢
        clear hw4 hq3
        refine HE4.out.mono ?_
        intro e w5 hcm
        obtain ⟨op', ra', rn', rc', nm', ca', cn', cc', mn', mx', rfl, hng, hb⟩ := hcm.open
        have HX5 := Lib.hid (HX4.out.trans (hb.mono HX4.out.size))
        have HN5 := Lib.hid (HN4.out.later hb)
        have HP5 := Lib.hid (HP4.out.on hb HP4.out.lt)
        have HM5 := Lib.hid hng
        clear hb hcm hng HE4 HX4 HR4 HN4 HP4
        have hal := al_below w5 (.cells #[.int .i64 op', .slice ra' rn' rc', .string ⟨nm'.toArray⟩, .slice ca' cn' cc', .int .i64 mn', .int .i64 mx'] 38)
        have HX6 := Lib.hid (HX5.out.trans (hal.mono HX5.out.size))
        have HN6 := Lib.hid (HN5.out.later hal)
        have HP6 := Lib.hid (HP5.out.on hal HP5.out.lt)
        have HM6 := Lib.hid (HM5.out.later hal)
        have HS6 := Lib.hid (nE_new w5 op' ra' rn' rc' nm' ca' cn' cc' mn' mx')
        have HQ6 := Lib.hid (HBW.out.trans (HX6.out.mono HBW.out.size))
        obtain ⟨w6, hw6⟩ : ∃ w6, w5.alloc (.cells #[.int .i64 op', .slice ra' rn' rc', .string ⟨nm'.toArray⟩, .slice ca' cn' cc', .int .i64 mn', .int .i64 mx'] 38) = w6 := ⟨_, rfl⟩
        rw [hw6] at HX6 HN6 HP6 HM6 HS6 HQ6
        clear hal HX5 HN5 HP5 HM5
        have HE5 := Lib.hid (names_full s w6 (HK.out.below HQ6.out) (by omega))
        obtain ⟨fs, hfs⟩ : ∃ fs, (nmsV s).1 = fs := ⟨_, rfl⟩
        obtain ⟨fe, hfe⟩ : ∃ fe, (nmsV s).2 = fe := ⟨_, rfl⟩
        go_wp2_with fail
        try rw [hw6]
        obtain ⟨q5, hq5⟩ : ∃ q, w5.heap.size = q := ⟨_, rfl⟩
        rw [hq5] at HS6 ⊢
        clear hw6 hq5
        refine HE5.out.mono ?_
        intro e w7 hnm
        obtain ⟨na, nc, rfl, hn, hb⟩ := hnm.v
        have HX7 := Lib.hid (HX6.out.trans (hb.mono HX6.out.size))
        have HN7 := Lib.hid (HN6.out.later hb)
        have HP7 := Lib.hid (HP6.out.on hb HP6.out.lt)
        have HM7 := Lib.hid (HM6.out.later hb)
        have HS7 := Lib.hid (HS6.out.on hb HS6.out.lt)
        have HA7 := Lib.hid hn
        clear hb hn hnm HE5 HX6 HN6 HP6 HM6 HS6 HQ6
        have HE6 := Lib.hid (rnames_full s w7 (by omega))
        go_wp2_with fail
        refine HE6.out.mono ?_
        intro e w8 hnm
        obtain ⟨na', nc', rfl, hn, hb⟩ := hnm.v
        have HX8 := Lib.hid (HX7.out.trans (hb.mono HX7.out.size))
        have HN8 := Lib.hid (HN7.out.later hb)
        have HP8 := Lib.hid (HP7.out.on hb HP7.out.lt)
        have HM8 := Lib.hid (HM7.out.later hb)
        have HS8 := Lib.hid (HS7.out.on hb HS7.out.lt)
        have HA8 := Lib.hid (HA7.out.later hb)
        have HZ8 := Lib.hid hn
        clear hb hn hnm HE6 HX7 HN7 HP7 HM7 HS7 HA7
        rw [hfs] at HA8 HZ8
        try rw [hfs]
        try rw [hfe]
        clear hfs hfe
        obtain ⟨p0, p1, p2, p3, p4, p5⟩ := bkn HP8.out
        obtain ⟨r0, r1, r2, r3, r4, r5⟩ := bkn HS8.out
        have HSA := Lib.hid (same_self T _ _ w8 HN8.out.at HM8.out.at)
        go_wp2_with fail
        refine HSA.out.mono ?_
        rintro e w9 ⟨rfl, hb⟩
        have HX9 := Lib.hid (HX8.out.trans (hb.mono HX8.out.size))
        have HA9 := Lib.hid (HA8.out.later hb)
        have HZ9 := Lib.hid (HZ8.out.later hb)
        clear hb HSA HX8 HA8 HZ8 p0 p1 p2 p3 p4 p5 r0 r1 r2 r3 r4 r5 HP8 HS8 HN8 HM8
        have HSS := Lib.hid (ssame_any _ _ fs w9 HA9.out HZ9.out)
        go_wp2_with fail
        refine HSS.out.mono ?_
        rintro e w10' ⟨rfl, hb⟩
        have HX10 := Lib.hid (HX9.out.trans (hb.mono HX9.out.size))
        clear hb HSS HX9 HA9 HZ9
        go_wp2_with fail
        refine ⟨⟨k + 1, by go_num, by omega, HX10⟩, by simp [intOf]; omega⟩
    · obtain rfl : k = 3 := by omega
      go_wp2_with fail
      go_ret
      exact ⟨rfl, HBr.out⟩
end Go.Proofs.YtgcpinnnfoanjaaGreatDoor

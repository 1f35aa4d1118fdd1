/-
 Joined: LbQ, ReM, ReU, ReS, ReN.
-/
import Derived.Test.YtgcpinnnfoanjaaGreatDoorRdB
import Derived.Test.YtgcpinnnfoanjaaGreatDoorRdU
import Derived.Test.YtgcpinnnfoanjaaGreatDoorRdL
import Derived.BigQuiet
import Derived.Test.YtgcpinnnfoanjaaGreatDoorRdK
import Derived.Lib.QuietBelow
namespace Go.Proofs.YtgcpinnnfoanjaaGreatDoor
open Go.RowKit
end Go.Proofs.YtgcpinnnfoanjaaGreatDoor
namespace Go.Proofs.YtgcpinnnfoanjaaGreatDoor
open Go.RowKit
theorem DfAt.take {w : World} {l : List Lb.Def} {a : Option Addr} {n c k : Nat} (h : DfAt w l (.slice a n c)) (hk : k ≤ l.length) : DfAt w (l.take k) (.slice a k c) := by
 obtain ⟨a', c', e, hl, hc⟩ := h
 injection e with e1 e2 e3
 subst e1 e3
 have hkl : (l.take k).length = k := by rw [List.length_take]; omega
 refine ⟨a, c, by rw [hkl], by omega, fun i hi => ?_⟩
 obtain ⟨blk, off, e4, hb, c0, c1⟩ := hc i (by omega)
 refine ⟨blk, off, e4, hb, ?_, ?_⟩
 ·rw [List.getElem_take]; exact c0
 ·rw [List.getElem_take]; exact c1
theorem Lb.findM_take {l : List Lb.Def} {nm : List UInt8} {j : Nat} (h : Lb.findM l nm = some j) (k : Nat) : Lb.findM (l.take k) nm = if j < k then some j else none := by
 have hj := Lb.findM_lt h
 unfold Lb.findM at h
 rw [List.findIdx?_eq_some_iff_getElem] at h
 obtain ⟨_, h1, h2⟩ := h
 by_cases hjk : j < k
 ·rw [if_pos hjk]
  refine Lb.findM_at (by rw [List.length_take]; omega) (by rw [List.getElem_take]; simpa using h1) (fun i hi hij => ?_)
  rw [List.getElem_take]
  have := h2 i hij
  simpa using this
 ·rw [if_neg hjk]
  unfold Lb.findM
  rw [List.findIdx?_eq_none_iff]
  intro x hx
  rw [List.mem_take_iff_getElem] at hx
  obtain ⟨i, hi, rfl⟩ := hx
  have := h2 i (by omega)
  simpa using this
set_option maxHeartbeats 8000000 in
set_option maxRecDepth 1000000 in
theorem rlcheck_any (l : List Lb.Def) (v : Value) (hcp : CapOk v l.length) (hf : Fit l) (hnl : ∀ i (h : i < l.length), l[i].1.length ≤ 900000) (w : World) (hd : DfAt w l v) :
  Calls Tryz.prog 10 #[v] w (LCheckP l w) := by
 have HD := Lib.hid hd
 have HF := Lib.hid hf
 have HNL := Lib.hid hnl
 have hl40 := hf.1
 obtain ⟨R, hR⟩ : ∃ R, Lb.ckM l = R := ⟨_, rfl⟩
 have HRR : Hid (Lb.ck1 l (l.drop 0) 0 = R) := Lib.hid hR
 have HEND : Hid (∀ w', Below w.heap.size w w' → LCheckP l w (.returned (.int .i64 (R : Int))) w') := Lib.hid (fun w' h => ⟨by rw [hR], h⟩)
 obtain ⟨a, c, rfl, _, hvk⟩ := hd
 have hcc : l.length ≤ c := by
  obtain ⟨_, _, e, h⟩ := hcp
  injection e with _ _ e
  omega
 have HVK := Lib.hid hvk
 clear hf hvk hnl hR
 go_enter Tryz.func10, Tryz.ntmps10
 go_wp2_with fail
 go_loopw [3] (fun i wr => ∃ k : Nat, i = .int .i64 k ∧ k ≤ l.length ∧ Hid (Lb.ck1 l (l.drop k) k = R) ∧ Hid (Below w.heap.size w wr)) (fun i _ => l.length - (intOf i).toNat)
 case atStart => exact ⟨0, rfl, Nat.zero_le _, HRR, Lib.hid (Below.refl _ _)⟩
 case round =>
  obtain ⟨k, rfl, hkl, HN, HB⟩ := hrel
  by_cases hlt : k < l.length
  ·obtain ⟨blk, off, rfl, hbl, d0, d1⟩ := HVK.out k hlt
   have e0 := (HB.out.cell (p := ⟨blk, off + k * 2, none⟩) hbl).trans d0
   have e1 := (HB.out.cell (p := ⟨blk, off + k * 2 + 1, none⟩) hbl).trans d1
   have i1 : (k : Int) < (l.length : Int) := by omega
   have i2 : (0 : Int) ≤ (k : Int) := by omega
   have lw := Nat.lt_of_lt_of_le hbl HB.out.size
   have hw1 : IntKind.i64.wrap ((k : Int) + 1) = (k : Int) + 1 := IntWalk.i64_in _ (by omega)
   have z40 : decide ((40 : Int) ≤ (k : Int)) = false := decide_eq_false (by omega)
   have y40 : decide (40 ≤ k) = false := decide_eq_false (by omega)
   obtain ⟨j, hfm, hjk⟩ := Lb.findM_ex l hlt
   rw [List.drop_eq_getElem_cons hlt, Lb.ck1, hfm, Option.getD_some] at HN
   have hnl := HNL.out k hlt
   obtain ⟨n1, hn1⟩ : ∃ n1, l[k].1 = n1 := ⟨_, rfl⟩
   obtain ⟨s1, hs1⟩ : ∃ s1, l[k].2 = s1 := ⟨_, rfl⟩
   rw [hn1] at e0 hfm HN hnl
   rw [hs1] at e1
   have HD2 := Lib.hid ((HD.out.later HB.out).take hkl)
   have HFI := Lib.hid (fun n => rfind_any (l.take k) n1 _ (wr.drewN n) (HD2.out.later (below_drewN (Below.refl _ _) n)))
   have HNM := Lib.hid (fun W => rname_any n1 W (by omega))
   have i3 : (k : Int) ≤ (c : Int) := by omega
   have hft : Lb.findM (l.take k) n1 = if j < k then some j else none := Lb.findM_take hfm k
   clear d0 d1 hn1 hs1 hfm
   by_cases hj : j < k
   ·rw [if_pos hj] at hft HN
    have HFQ : Hid (∀ n, Calls Tryz.prog 29 #[.slice (some ⟨blk, off, none⟩) k c, .string ⟨n1.toArray⟩] (wr.drewN n) fun e w' => e = .returned (.tuple #[.string ⟨(Lb.srcOf (l.take k) j).toArray⟩, .bool true]) ∧ w' = wr.drewN n) := Lib.hid (fun n => (HFI.out n).mono fun e w' h => by
     unfold RfindP at h
     rw [hft] at h
     exact ⟨h.2, h.1.symm⟩)
    clear hft HFI
    go_wp2_with fail
    go_quiet ((go_at_call 29; exact Calls.quiet_of_same (HFQ.out _)))
    have HB2 := Lib.hid (below_drewN HB.out nq)
    cases hnb : nmB n1 with
    | false =>
     rw [hnb] at HNM
     rw [if_pos hnb] at HN
     go_wp2_with fail
     refine (HNM.out _).mono ?_
     rintro e w2 ⟨rfl, rfl⟩
     go_wp2_with fail
     go_ret
     rw [show (6 : Int) = ((6 : Nat) : Int) from rfl, HN.out]
     exact HEND.out _ HB2.out
    | true =>
     rw [hnb] at HNM
     rw [if_neg (by rw [hnb]; decide)] at HN
     go_wp2_with fail
     refine (HNM.out _).mono ?_
     rintro e w2 ⟨rfl, rfl⟩
     go_wp2_with fail
     go_ret
     rw [show (7 : Int) = ((7 : Nat) : Int) from rfl, HN.out]
     exact HEND.out _ HB2.out
   ·rw [if_neg hj] at hft HN
    rw [if_neg (show ¬ 40 ≤ k by omega)] at HN
    have HFQ : Hid (∀ n, Calls Tryz.prog 29 #[.slice (some ⟨blk, off, none⟩) k c, .string ⟨n1.toArray⟩] (wr.drewN n) fun e w' => e = .returned (.tuple #[.string ⟨#[]⟩, .bool false]) ∧ w' = wr.drewN n) := Lib.hid (fun n => (HFI.out n).mono fun e w' h => by
     unfold RfindP at h
     rw [hft] at h
     exact ⟨h.2, h.1.symm⟩)
    clear hft HFI
    go_wp2_with fail
    go_quiet ((go_at_call 29; exact Calls.quiet_of_same (HFQ.out _)))
    have HB2 := Lib.hid (below_drewN HB.out nq)
    cases hnb : nmB n1 with
    | false =>
     rw [hnb] at HNM
     rw [if_pos hnb] at HN
     go_wp2_with fail
     refine (HNM.out _).mono ?_
     rintro e w2 ⟨rfl, rfl⟩
     go_wp2_with fail
     go_ret
     rw [show (6 : Int) = ((6 : Nat) : Int) from rfl, HN.out]
     exact HEND.out _ HB2.out
    | true =>
     rw [hnb] at HNM
     rw [if_neg (by rw [hnb]; decide)] at HN
     go_wp2_with fail
     refine (HNM.out _).mono ?_
     rintro e w2 ⟨rfl, rfl⟩
     go_wp2_with fail
     refine ⟨⟨k + 1, by go_num, by omega, HN, HB2⟩, by simp [intOf]; omega⟩
  ·have z1 : decide ((k : Int) < (l.length : Int)) = false := decide_eq_false (by omega)
   have y1 : decide (k < l.length) = false := decide_eq_false hlt
   obtain rfl : k = l.length := by omega
   rw [List.drop_length, Lb.ck1] at HN
   have HN0 : Hid (Lb.ck2 l (l.drop 0) = R) := HN
   clear HN
   go_wp2_with fail
   go_loopw [6] (fun i wx => ∃ k : Nat, i = .int .i64 k ∧ k ≤ l.length ∧ Hid (Lb.ck2 l (l.drop k) = R) ∧ Hid (Below w.heap.size w wx)) (fun i _ => l.length - (intOf i).toNat)
   case atStart => exact ⟨0, rfl, Nat.zero_le _, HN0, HB⟩
   case round =>
    obtain ⟨k, rfl, hkl, HCS, HB5⟩ := hrel
    clear z1 y1 hlt HB
    by_cases hlt : k < l.length
    ·obtain ⟨blk, off, rfl, hbl, d0, d1⟩ := HVK.out k hlt
     have e0 := (HB5.out.cell (p := ⟨blk, off + k * 2, none⟩) hbl).trans d0
     have e1 := (HB5.out.cell (p := ⟨blk, off + k * 2 + 1, none⟩) hbl).trans d1
     have i1 : (k : Int) < (l.length : Int) := by omega
     have i2 : (0 : Int) ≤ (k : Int) := by omega
     have lw := Nat.lt_of_lt_of_le hbl HB5.out.size
     have hw1 : IntKind.i64.wrap ((k : Int) + 1) = (k : Int) + 1 := IntWalk.i64_in _ (by omega)
     have hsl := HF.out.2 k hlt
     rw [List.drop_eq_getElem_cons hlt, Lb.ck2] at HCS
     obtain ⟨n1, hn1⟩ : ∃ n1, l[k].1 = n1 := ⟨_, rfl⟩
     obtain ⟨s1, hs1⟩ : ∃ s1, l[k].2 = s1 := ⟨_, rfl⟩
     rw [hn1] at e0
     rw [hs1] at e1 hsl HCS
     clear d0 d1 hn1 hs1
     go_wp2_with fail
     refine (rcomp_any l _ HF.out s1 _ (HD.out.later HB5.out) hsl).mono ?_
     rintro e w3 ⟨⟨op, ra, rn, rc, nm, ca, cn, cc, mn, mx, rfl⟩, hb3⟩
     have HB7 := Lib.hid (HB5.out.trans (hb3.mono HB5.out.size))
     clear hb3 e0 e1
     have HB8 := Lib.hid (HB7.out.trans ((al_below w3 (.cells #[.int .i64 op, .slice ra rn rc, .string ⟨nm.toArray⟩, .slice ca cn cc, .int .i64 mn, .int .i64 mx] 38)).mono HB7.out.size))
     obtain ⟨k3, hk3⟩ : ∃ k3, Lb.compM l s1 = k3 := ⟨_, rfl⟩
     rw [hk3] at HCS ⊢
     clear hk3
     rcases Nat.eq_zero_or_pos k3 with e0 | e0
     ·subst e0
      rw [if_pos rfl] at HCS
      go_wp2_with fail
      refine ⟨⟨k + 1, by go_num, by omega, HCS, HB8⟩, by simp [intOf]; omega⟩
     ·have z1 : ((k3 : Int) == 0) = false := by rw [beq_eq_false_iff_ne]; omega
      rw [if_neg (by omega)] at HCS
      go_wp2_with fail
      go_ret
      rw [HCS.out]
      exact HEND.out _ HB8.out
    ·have z1 : decide ((k : Int) < (l.length : Int)) = false := decide_eq_false (by omega)
     have y1 : decide (k < l.length) = false := decide_eq_false hlt
     rw [List.drop_eq_nil_of_le (by omega), Lb.ck2] at HCS
     go_wp2_with fail
     go_ret
     rw [show (0 : Int) = ((0 : Nat) : Int) from rfl, HCS.out]
     exact HEND.out _ HB5.out
end Go.Proofs.YtgcpinnnfoanjaaGreatDoor
namespace Go.Proofs.YtgcpinnnfoanjaaGreatDoor
open Go.RowKit
end Go.Proofs.YtgcpinnnfoanjaaGreatDoor
namespace Go.Proofs.YtgcpinnnfoanjaaGreatDoor
open Go.RowKit Go.Sort
end Go.Proofs.YtgcpinnnfoanjaaGreatDoor
namespace Go.Proofs.YtgcpinnnfoanjaaGreatDoor
open Go.RowKit
def nmsV (s : List UInt8) : List (List UInt8) × Nat := match Lb.refsM s with
 | none => ([], 1)
 | some L => (L.map (·.nm), 0)
theorem NmsP.v {s : List UInt8} {w : World} {e : Ending} {w' : World} (h : NmsP s w e w') : ∃ a c, e = .returned (.tuple #[.slice a (nmsV s).1.length c, .int .i64 ((nmsV s).2 : Int)]) ∧ NmAt w' (nmsV s).1 (.slice a (nmsV s).1.length c) ∧ Below w.heap.size w w' := by
 obtain ⟨hb, h⟩ := h
 unfold nmsV
 cases hr : Lb.refsM s with
 | none =>
  rw [hr] at h
  exact ⟨none, 0, h, ⟨none, 0, rfl, by simp, fun i hi => by simp at hi⟩, hb⟩
 | some L =>
  rw [hr] at h
  obtain ⟨v, h, ho⟩ := h
  have hn := NmAt.of_rw (ho.rw (F := fun _ => True) (fun _ _ => trivial)) ho.size
  obtain ⟨a, c, rfl, _⟩ := id hn
  exact ⟨a, c, h, hn, hb⟩
def NGA (w : World) (T : NT) (v : Value) : Prop := NG (fun _ => True) w T v
theorem NGA.of {F : Nat → Prop} {w : World} {T : NT} {v : Value} (h : NG F w T v) : NGA w T v := NG.go ⟨Nat.le_refl _, fun _ _ _ => ⟨trivial, rfl⟩⟩ _ _ h
theorem NGA.later {w w' : World} {T : NT} {v : Value} (h : NGA w T v) (hb : Below w.heap.size w w') : NGA w' T v := NG.go (stay_all hb) _ _ h
theorem CompY.open {K : Nat} {T : NT} {w : World} {e : Ending} {w' : World} (h : CompY K T w e w') : ∃ (op : Int) (ra : Option Addr) (rn rc : Nat) (nm : List UInt8) (ca : Option Addr) (cn cc : Nat) (mn mx : Int), e = .returned (.tuple #[.agg #[.int .i64 op, .slice ra rn rc, .string ⟨nm.toArray⟩, .slice ca cn cc, .int .i64 mn, .int .i64 mx], .int .i64 (K : Int)]) ∧ NGA w' T (.agg #[.int .i64 op, .slice ra rn rc, .string ⟨nm.toArray⟩, .slice ca cn cc, .int .i64 mn, .int .i64 mx]) ∧ Below w.heap.size w w' := by
 obtain ⟨v, rfl, hng, hb⟩ := h
 have hn := NGA.of hng
 obtain ⟨op, rs, nm, kk, mn, mx, ra, rc, ca, cc, _, rfl, _⟩ := hng.open
 exact ⟨op, ra, _, rc, nm, ca, _, cc, mn, mx, rfl, hn, hb⟩
end Go.Proofs.YtgcpinnnfoanjaaGreatDoor

/-
 Joined: PzI, PzJ, PzK, EvH.
-/
import Derived.Test.YtmpbjaodgajnfaaGreatDoorEhT
import Derived.Test.YtmpbjaodgajnfaaGreatDoorEhL
namespace Go.Proofs.YtmpbjaodgajnfaaGreatDoor
open Go.RowKit
theorem capN_le (l : List UInt8) (n : Nat) (h : capN l = n) (h0 : 0 < n) : n + 1 ≤ l.length ∧ n = nlen l := by
 unfold capN at h
 split at h
 ·rename_i hc
  have := Asc.at_lt (l := l) (i := nlen l) (by omega)
  omega
 ·omega
set_option maxHeartbeats 8000000 in
set_option maxRecDepth 1000000 in
theorem grpz_named (b : Nat) (l : List UInt8) (i n : Nat) (hn : capN (l.drop i) = n) (hn0 : 0 < n) (r : Out NT) (hg : RdZ 51 b l (i + n + 1) r) (s0 : UInt8) (sg : List UInt8) (hsg : Asc.seg l i (i + n) = s0 :: sg) (R : Out NT)
  (hR : ∀ t j e, fits r t j e → (nxN l j e = 41 → fits R (.node 5 [] (s0 :: sg) [t] 0 0) (j + 1) 0) ∧ (nxN l j e ≠ 41 → fits R (.node 5 [] (s0 :: sg) [t] 0 0) j (if e = 0 then 1 else e))) : RdZ 147 b l i R := by
 intro w h
 have hn1 : i + n + 1 ≤ l.length := by
  have := (capN_le _ _ hn hn0).1
  rw [List.length_drop] at this
  omega
 have HCP := Lib.hid fun W (hW : ZS b l i 0 W) => (capt_any (l.drop i) W hW.kd (by have := hW.len; rw [List.length_drop]; omega)).mono fun _ w' h => (⟨h.1, h.2.symm⟩ : _ ∧ w' = W)
 rw [hn] at HCP
 have HG := Lib.hid hg
 have HRR := Lib.hid hR
 have HXY := Lib.hid fun (k : Nat) (hk : Asc.at_ l k = 41) W (hW : ZS b l k 0 W) => zexpect_yes b l k W hW 41 hk (by decide)
 have HXN := Lib.hid fun (k e : Nat) (hk : nxN l k e ≠ 41) W (hW : ZS b l k e W) => zexpect_no b l k e W hW 41 hk
 have hl2 := h.len
 have hile := h.le
 have HS := Lib.hid (ZR.start h)
 have c0 := HS.out.ps.c0
 have c1 := HS.out.ps.c1
 have c2 : (w.alloc (.cells #[.int .i64 0, .slice none 0 0, .string ⟨#[]⟩, .slice none 0 0, .int .i64 0, .int .i64 0] 33)).cell? ⟨b, 2, none⟩ = some (.int .i64 0) := HS.out.ps.c2
 have f1 := HS.out.ps.f1
 have i0 : (0 : Int) ≤ (i : Int) := by omega
 have i1 : (i : Int) ≤ (l.length : Int) := by omega
 have i2 : ((i : Int) + (n : Int)) ≤ (l.length : Int) := by omega
 have i3 : (i : Int) ≤ (i : Int) + (n : Int) := by omega
 have w1 : IntKind.i64.wrap ((i : Int) + (n : Int)) = (i : Int) + (n : Int) := IntWalk.i64_in _ (by omega)
 have w2 : IntKind.i64.wrap ((n : Int) + 1) = (n : Int) + 1 := IntWalk.i64_in _ (by omega)
 have w3 : IntKind.i64.wrap ((i : Int) + ((n : Int) + 1)) = (i : Int) + ((n : Int) + 1) := IntWalk.i64_in _ (by omega)
 have z0 : decide ((0 : Int) < (n : Int)) = true := decide_eq_true (by omega)
 have y0 : decide (0 < n) = true := decide_eq_true hn0
 have HNM := Lib.hid (show (s0 :: sg).length ≤ 1000 by rw [← hsg, Asc.seg_length l (by omega)]; omega)
 have HSG := Lib.hid hsg
 clear h hg hn hsg hR
 go_enter Tryz.func147, Tryz.ntmps147
 go_wp2_with fail
 go_quiet (first | (go_at_call 165; simp only [ext_drop]; refine Calls.quiet_of_same (HCP.out _ (HS.out.ps.drewN _).ps)))
 have HS1 := Lib.hid (HS.out.go (HS.out.ps.drewN nq))
 go_wp2_with fail
 go_quiet (fail)
 have HS2 := Lib.hid (HS1.out.go (HS1.out.ps.drewN nq))
 have HS3 := Lib.hid (HS2.out.go (HS2.out.ps.to (i + n + 1) hn1))
 clear HS HS1 HS2
 go_wp2_with fail
 rw [← World.drewN_drewN, show ((i : Int) + ((n : Int) + 1)) = ((i + n + 1 : Nat) : Int) by omega]
 refine (HG.out _ HS3.out.ps).mono ?_
 rintro e wc ⟨v, t, j, e2, rfl, hT, hq, hr⟩
 have HS4 := Lib.hid (HS3.out.go hq)
 have HT4 := Lib.hid (hT.up HS3.out.sz)
 have HR4 := Lib.hid (HRR.out _ _ _ hr)
 obtain ⟨op, rs, nm, kids, mn, mx, ra, rc, a, cc, ht, rfl, _⟩ := hT.open
 have HP := Lib.hid (ZA.start HS4.out HT4.out)
 clear hT hq ht HS3 HS4 HT4 hr c0 c1 c2 f1
 by_cases h41 : nxN l j e2 = 41
 ·obtain rfl : e2 = 0 := Decidable.byContradiction fun hne => by rw [nxN_err hne] at h41; cases h41
  have H41 := Lib.hid h41
  clear h41
  go_wp2_with fail
  refine (HXY.out _ H41.out _ HP.out.pr.ps).mono ?_
  rintro e w5 ⟨rfl, hq⟩
  have HP5 := Lib.hid (HP.out.go hq)
  clear hq HP
  rw [Asc.extract_seg, HSG.out]
  obtain ⟨q0, q1, q2, q3, q4, q5⟩ := bkn HP5.out.bk
  obtain ⟨q, hq⟩ : ∃ q, wc.heap.size = q := ⟨_, rfl⟩
  rw [hq] at q0 q1 q2 q3 q4 q5 ⊢
  have hqw : q ≠ w.heap.size := by have := HP5.out.hq; omega
  have HR5 := Lib.hid (HP5.out.pr.on (al_below w5 (.cells #[.int .i64 op, .slice ra rs.length rc, .string ⟨nm.toArray⟩, .slice a kids.length cc, .int .i64 mn, .int .i64 mx] 33)))
  have HK : Hid (RW (fun k => w.heap.size < k) 6 (KR (fun k => w.heap.size < k) (w5.alloc (.cells #[.int .i64 op, .slice ra rs.length rc, .string ⟨nm.toArray⟩, .slice a kids.length cc, .int .i64 mn, .int .i64 mx] 33))) (w5.alloc (.cells #[.int .i64 op, .slice ra rs.length rc, .string ⟨nm.toArray⟩, .slice a kids.length cc, .int .i64 mn, .int .i64 mx] 33)) [t] (.slice (some ⟨w5.heap.size, 0, none⟩) 1 1)) :=
   Lib.hid ((OR.lit (B := w.heap.size + 1) w5 t [.int .i64 op, .slice ra rs.length rc, .string ⟨nm.toArray⟩, .slice a kids.length cc, .int .i64 mn, .int .i64 mx] HP5.out.pr.sz rfl (HP5.out.ng.low (al_below w5 _))).rw (fun _ hb => hb))
  obtain ⟨k0, k1, k2, k3, k4, k5, f0, f1, f2, f3, f4, f5⟩ := bk6 HR5.out.bk
  go_wp2_with fail
  rw [nest6]
  exact node_retz (P := 2) rfl HR5.out _ _ rfl (by rfl) (NG.node (rs := []) (kids := [t]) RW.nil HK.out 5 (s0 :: sg) 0 0 HNM.out) (HR4.out.1 H41.out)
 ·have H41 := Lib.hid h41
  clear h41
  go_wp2_with fail
  refine (HXN.out _ _ H41.out _ HP.out.pr.ps).mono ?_
  rintro e w5 ⟨rfl, hq⟩
  have HP5 := Lib.hid (HP.out.go hq)
  clear hq HP
  rw [Asc.extract_seg, HSG.out]
  obtain ⟨q0, q1, q2, q3, q4, q5⟩ := bkn HP5.out.bk
  obtain ⟨q, hq⟩ : ∃ q, wc.heap.size = q := ⟨_, rfl⟩
  rw [hq] at q0 q1 q2 q3 q4 q5 ⊢
  have hqw : q ≠ w.heap.size := by have := HP5.out.hq; omega
  have HR5 := Lib.hid (HP5.out.pr.on (al_below w5 (.cells #[.int .i64 op, .slice ra rs.length rc, .string ⟨nm.toArray⟩, .slice a kids.length cc, .int .i64 mn, .int .i64 mx] 33)))
  have HK : Hid (RW (fun k => w.heap.size < k) 6 (KR (fun k => w.heap.size < k) (w5.alloc (.cells #[.int .i64 op, .slice ra rs.length rc, .string ⟨nm.toArray⟩, .slice a kids.length cc, .int .i64 mn, .int .i64 mx] 33))) (w5.alloc (.cells #[.int .i64 op, .slice ra rs.length rc, .string ⟨nm.toArray⟩, .slice a kids.length cc, .int .i64 mn, .int .i64 mx] 33)) [t] (.slice (some ⟨w5.heap.size, 0, none⟩) 1 1)) :=
   Lib.hid ((OR.lit (B := w.heap.size + 1) w5 t [.int .i64 op, .slice ra rs.length rc, .string ⟨nm.toArray⟩, .slice a kids.length cc, .int .i64 mn, .int .i64 mx] HP5.out.pr.sz rfl (HP5.out.ng.low (al_below w5 _))).rw (fun _ hb => hb))
  obtain ⟨k0, k1, k2, k3, k4, k5, f0, f1, f2, f3, f4, f5⟩ := bk6 HR5.out.bk
  go_wp2_with fail
  rw [nest6]
  exact node_retz (P := 2) rfl HR5.out _ _ rfl (by rfl) (NG.node (rs := []) (kids := [t]) RW.nil HK.out 5 (s0 :: sg) 0 0 HNM.out) (HR4.out.2 H41.out)
set_option maxHeartbeats 8000000 in
set_option maxRecDepth 1000000 in
theorem grpz_bare (b : Nat) (l : List UInt8) (i : Nat) (hn : capN (l.drop i) = 0) (r : Out NT) (hg : RdZ 51 b l i r) (R : Out NT)
  (hR : ∀ t j e, fits r t j e → (nxN l j e = 41 → fits R t (j + 1) 0) ∧ (nxN l j e ≠ 41 → fits R t j (if e = 0 then 1 else e))) : RdZ 147 b l i R := by
 intro w h
 have HCP := Lib.hid fun W (hW : ZS b l i 0 W) => (capt_any (l.drop i) W hW.kd (by have := hW.len; rw [List.length_drop]; omega)).mono fun _ w' h => (⟨h.1, h.2.symm⟩ : _ ∧ w' = W)
 rw [hn] at HCP
 have HG := Lib.hid hg
 have HRR := Lib.hid hR
 have HXY := Lib.hid fun (k : Nat) (hk : Asc.at_ l k = 41) W (hW : ZS b l k 0 W) => zexpect_yes b l k W hW 41 hk (by decide)
 have HXN := Lib.hid fun (k e : Nat) (hk : nxN l k e ≠ 41) W (hW : ZS b l k e W) => zexpect_no b l k e W hW 41 hk
 have hile := h.le
 have HS := Lib.hid (ZR.start h)
 have c0 := HS.out.ps.c0
 have c1 := HS.out.ps.c1
 have c2 : (w.alloc (.cells #[.int .i64 0, .slice none 0 0, .string ⟨#[]⟩, .slice none 0 0, .int .i64 0, .int .i64 0] 33)).cell? ⟨b, 2, none⟩ = some (.int .i64 0) := HS.out.ps.c2
 have i0 : (0 : Int) ≤ (i : Int) := by omega
 have i1 : (i : Int) ≤ (l.length : Int) := by omega
 clear h hg hn hR
 go_enter Tryz.func147, Tryz.ntmps147
 go_wp2_with fail
 go_quiet (first | (go_at_call 165; simp only [ext_drop]; refine Calls.quiet_of_same (HCP.out _ (HS.out.ps.drewN _).ps)))
 have HS3 := Lib.hid (HS.out.go (HS.out.ps.drewN nq))
 clear HS
 go_wp2_with fail
 refine (HG.out _ HS3.out.ps).mono ?_
 rintro e wc ⟨v, t, j, e2, rfl, hT, hq, hr⟩
 have HS4 := Lib.hid (HS3.out.go hq)
 have HT4 := Lib.hid (hT.up HS3.out.sz)
 have HR4 := Lib.hid (HRR.out _ _ _ hr)
 obtain ⟨op, rs, nm, kids, mn, mx, ra, rc, a, cc, ht, rfl, _⟩ := hT.open
 have HP := Lib.hid (ZA.start HS4.out HT4.out)
 clear hT hq ht HS3 HS4 HT4 hr c0 c1 c2
 by_cases h41 : nxN l j e2 = 41
 ·obtain rfl : e2 = 0 := Decidable.byContradiction fun hne => by rw [nxN_err hne] at h41; cases h41
  have H41 := Lib.hid h41
  clear h41
  go_wp2_with fail
  refine (HXY.out _ H41.out _ HP.out.pr.ps).mono ?_
  rintro e w5 ⟨rfl, hq⟩
  have HP5 := Lib.hid (HP.out.go hq)
  clear hq HP
  obtain ⟨q0, q1, q2, q3, q4, q5⟩ := bkn HP5.out.bk
  obtain ⟨q, hq⟩ : ∃ q, wc.heap.size = q := ⟨_, rfl⟩
  rw [hq] at q0 q1 q2 q3 q4 q5 ⊢
  have hqw : q ≠ w.heap.size := by have := HP5.out.hq; omega
  obtain ⟨k0, k1, k2, k3, k4, k5, f0, f1, f2, f3, f4, f5⟩ := bk6 HP5.out.pr.bk
  go_wp2_with fail
  rw [nest6 w5]
  exact node_retz (P := 2) rfl HP5.out.pr _ _ rfl (by rfl) HP5.out.ng (HR4.out.1 H41.out)
 ·have H41 := Lib.hid h41
  clear h41
  go_wp2_with fail
  refine (HXN.out _ _ H41.out _ HP.out.pr.ps).mono ?_
  rintro e w5 ⟨rfl, hq⟩
  have HP5 := Lib.hid (HP.out.go hq)
  clear hq HP
  obtain ⟨q0, q1, q2, q3, q4, q5⟩ := bkn HP5.out.bk
  obtain ⟨q, hq⟩ : ∃ q, wc.heap.size = q := ⟨_, rfl⟩
  rw [hq] at q0 q1 q2 q3 q4 q5 ⊢
  have hqw : q ≠ w.heap.size := by have := HP5.out.hq; omega
  obtain ⟨k0, k1, k2, k3, k4, k5, f0, f1, f2, f3, f4, f5⟩ := bk6 HP5.out.pr.bk
  go_wp2_with fail
  rw [nest6 w5]
  exact node_retz (P := 2) rfl HP5.out.pr _ _ rfl (by rfl) HP5.out.ng (HR4.out.2 H41.out)
theorem grp_fits (l : List UInt8) (r : Out NT) (f : NT → NT) (t : NT) (j e : Nat) (h : fits r t j e) : (nxN l j e = 41 → fits (match r with
  | .error x => .error x
  | .ok (t, j) => if Asc.at_ l j = 41 then .ok (f t, j + 1) else .error (j, 1)) (f t) (j + 1) 0) ∧ (nxN l j e ≠ 41 → fits (match r with
  | .error x => .error x
  | .ok (t, j) => if Asc.at_ l j = 41 then .ok (f t, j + 1) else .error (j, 1)) (f t) j (if e = 0 then 1 else e)) := by
 rcases fits_cases h with ⟨rfl, rfl⟩ | ⟨rfl, he⟩
 ·rw [nxN_ok]
  refine ⟨fun h41 => ?_, fun h41 => ?_⟩
  ·simp only [if_pos h41]
   exact fits_ok
  ·simp only [if_neg h41]
   exact fits_err (by decide)
 ·rw [nxN_err he]
  refine ⟨fun h41 => (by cases h41), fun _ => ?_⟩
  rw [if_neg he]
  exact fits_err he
theorem grp_any (b : Nat) (l : List UInt8) (ch : Nat → Out NT) (i : Nat) (hg : RdZ 51 b l (grpI l i) (ch (grpI l i))) : RdZ 147 b l i (grpM ch l i) := by
 unfold grpM
 obtain ⟨n, hn⟩ : ∃ n, capN (l.drop i) = n := ⟨_, rfl⟩
 rcases Nat.eq_zero_or_pos n with rfl | hpos
 ·have hi : grpI l i = i := by unfold grpI; rw [hn]; rfl
  rw [hi] at hg ⊢
  rw [hn]
  refine grpz_bare b l i hn _ hg _ fun t j e hf => ?_
  have := grp_fits l _ (fun t => t) t j e hf
  simp only [Nat.lt_irrefl, if_false]
  exact this
 ·have hi : grpI l i = i + n + 1 := by unfold grpI; rw [hn, if_pos hpos]
  have hle := (capN_le _ _ hn hpos).1
  rw [List.length_drop] at hle
  rw [hi] at hg ⊢
  rw [hn]
  obtain ⟨s0, sg, hsg⟩ : ∃ s0 sg, Asc.seg l i (i + n) = s0 :: sg := by
   have := Asc.seg_length l (a := i) (b := i + n) (by omega)
   cases hh : Asc.seg l i (i + n) with
   | nil => rw [hh] at this; simp at this; omega
   | cons x y => exact ⟨x, y, rfl⟩
  refine grpz_named b l i n hn hpos _ hg s0 sg hsg _ fun t j e hf => ?_
  have := grp_fits l _ (fun t => .node 5 [] (s0 :: sg) [t] 0 0) t j e hf
  rw [hsg]
  simp only [if_pos hpos]
  exact this
def repK (l : List UInt8) (t : NT) (j : Nat) : Out NT :=
 if Asc.at_ l j = 42 then .ok (.node 4 [] [] [t] 0 (-1), j + 1)
 else if Asc.at_ l j = 43 then .ok (.node 4 [] [] [t] 1 (-1), j + 1)
 else if Asc.at_ l j = 63 then .ok (.node 4 [] [] [t] 0 1, j + 1)
 else if Asc.at_ l j = 123 then (match boundsM l (j + 1) with
  | .error x => .error x
  | .ok ((lo, hi), k) => .ok (.node 4 [] [] [t] lo hi, k))
 else .ok (t, j)
theorem repM_eq (ch : Nat → Out NT) (l : List UInt8) (i : Nat) : repM ch l i = match atomM ch l i with
 | .error x => .error x
 | .ok (t, j) => repK l t j := rfl
set_option maxHeartbeats 8000000 in
set_option maxRecDepth 1000000 in
theorem rep_any (b : Nat) (l : List UInt8) (i : Nat) (r : Out NT) (ha : RdZ 129 b l i r) (R : Out NT) (hRe : ∀ j e, e ≠ 0 → r = .error (j, e) → R = .error (j, e)) (hRo : ∀ t j, r = .ok (t, j) → R = repK l t j) : RdZ 102 b l i R := by
 intro w h
 have HTN := Lib.hid fun (d : Nat) (k e : Nat) (hk : nxN l k e ≠ d) W (hW : ZS b l k e W) => ztakes_no b l k e W hW d hk
 have HTY := Lib.hid fun (d : Nat) (hd : d < 256) (k : Nat) (hk : Asc.at_ l k = d) W (hW : ZS b l k 0 W) => ztakes_yes b l k W hW d hk hd
 have HBD := Lib.hid fun (k : Nat) W (hW : ZS b l k 0 W) => bounds_any b l k W hW
 have HA := Lib.hid ha
 have HRE := Lib.hid hRe
 have HRO := Lib.hid hRo
 have HS := Lib.hid (ZR.start h)
 clear h ha hRe hRo
 go_enter Tryz.func102, Tryz.ntmps102
 go_wp2_with fail
 refine (HA.out _ HS.out.ps).mono ?_
 rintro e wc ⟨v, t, j, e2, rfl, hT, hq, hr⟩
 have HS1 := Lib.hid (HS.out.go hq)
 have HT1 := Lib.hid (hT.up HS.out.sz)
 have HF := Lib.hid hr
 obtain ⟨op, rs, nm, kids, mn, mx, ra, rc, a, cc, ht, rfl, _⟩ := hT.open
 have HP := Lib.hid (ZA.start HS1.out HT1.out)
 clear hT hq ht HS HS1 HT1 hr
 by_cases h42 : nxN l j e2 = 42
 ·obtain rfl : e2 = 0 := Decidable.byContradiction fun hne => by rw [nxN_err hne] at h42; cases h42
  have HD := Lib.hid h42
  have HRK : Hid (R = repK l t j) := Lib.hid (by rcases fits_cases HF.out with ⟨hm, _⟩ | ⟨_, he⟩; (exact HRO.out _ _ hm); (exact absurd rfl he))
  clear h42
  go_wp2_with fail
  refine (HTY.out 42 (by decide) _ (HD.out) _ HP.out.pr.ps).mono ?_
  rintro e w1 ⟨rfl, hq⟩
  have HP1 := Lib.hid (HP.out.go hq)
  clear hq HP
  obtain ⟨q0, q1, q2, q3, q4, q5⟩ := bkn HP1.out.bk
  obtain ⟨q, hq⟩ : ∃ q, wc.heap.size = q := ⟨_, rfl⟩
  rw [hq] at q0 q1 q2 q3 q4 q5 ⊢
  have hqw : q ≠ w.heap.size := by have := HP1.out.hq; omega
  have HR5 := Lib.hid (HP1.out.pr.on (al_below w1 (.cells #[.int .i64 op, .slice ra rs.length rc, .string ⟨nm.toArray⟩, .slice a kids.length cc, .int .i64 mn, .int .i64 mx] 33)))
  have HK : Hid (RW (fun k => w.heap.size < k) 6 (KR (fun k => w.heap.size < k) (w1.alloc (.cells #[.int .i64 op, .slice ra rs.length rc, .string ⟨nm.toArray⟩, .slice a kids.length cc, .int .i64 mn, .int .i64 mx] 33))) (w1.alloc (.cells #[.int .i64 op, .slice ra rs.length rc, .string ⟨nm.toArray⟩, .slice a kids.length cc, .int .i64 mn, .int .i64 mx] 33)) [t] (.slice (some ⟨w1.heap.size, 0, none⟩) 1 1)) :=
   Lib.hid ((OR.lit (B := w.heap.size + 1) w1 t [.int .i64 op, .slice ra rs.length rc, .string ⟨nm.toArray⟩, .slice a kids.length cc, .int .i64 mn, .int .i64 mx] HP1.out.pr.sz rfl (HP1.out.ng.low (al_below w1 _))).rw (fun _ hb => hb))
  obtain ⟨k0, k1, k2, k3, k4, k5, f0, f1, f2, f3, f4, f5⟩ := bk6 HR5.out.bk
  go_wp2_with fail
  rw [nest6]
  exact node_retz (P := 2) rfl HR5.out _ _ rfl (by rfl) (NG.node (rs := []) (kids := [t]) RW.nil HK.out 4 [] 0 (-1) (by simp)) (by rw [HRK.out]; unfold repK; have hd : Asc.at_ l j = 42 := HD.out; rw [if_pos hd]; exact fits_ok)
 by_cases h43 : nxN l j e2 = 43
 ·obtain rfl : e2 = 0 := Decidable.byContradiction fun hne => by rw [nxN_err hne] at h43; cases h43
  have HD := Lib.hid h43
  have HRK : Hid (R = repK l t j) := Lib.hid (by rcases fits_cases HF.out with ⟨hm, _⟩ | ⟨_, he⟩; (exact HRO.out _ _ hm); (exact absurd rfl he))
  clear h43
  go_wp2_with fail
  refine (HTN.out 42 _ _ (by rw [HD.out]; decide) _ HP.out.pr.ps).mono ?_
  rintro e w1 ⟨rfl, hq⟩
  have HP1 := Lib.hid (HP.out.go hq)
  clear hq HP
  go_wp2_with fail
  refine (HTY.out 43 (by decide) _ (HD.out) _ HP1.out.pr.ps).mono ?_
  rintro e w2 ⟨rfl, hq⟩
  have HP2 := Lib.hid (HP1.out.go hq)
  clear hq HP1
  obtain ⟨q0, q1, q2, q3, q4, q5⟩ := bkn HP2.out.bk
  obtain ⟨q, hq⟩ : ∃ q, wc.heap.size = q := ⟨_, rfl⟩
  rw [hq] at q0 q1 q2 q3 q4 q5 ⊢
  have hqw : q ≠ w.heap.size := by have := HP2.out.hq; omega
  have HR5 := Lib.hid (HP2.out.pr.on (al_below w2 (.cells #[.int .i64 op, .slice ra rs.length rc, .string ⟨nm.toArray⟩, .slice a kids.length cc, .int .i64 mn, .int .i64 mx] 33)))
  have HK : Hid (RW (fun k => w.heap.size < k) 6 (KR (fun k => w.heap.size < k) (w2.alloc (.cells #[.int .i64 op, .slice ra rs.length rc, .string ⟨nm.toArray⟩, .slice a kids.length cc, .int .i64 mn, .int .i64 mx] 33))) (w2.alloc (.cells #[.int .i64 op, .slice ra rs.length rc, .string ⟨nm.toArray⟩, .slice a kids.length cc, .int .i64 mn, .int .i64 mx] 33)) [t] (.slice (some ⟨w2.heap.size, 0, none⟩) 1 1)) :=
   Lib.hid ((OR.lit (B := w.heap.size + 1) w2 t [.int .i64 op, .slice ra rs.length rc, .string ⟨nm.toArray⟩, .slice a kids.length cc, .int .i64 mn, .int .i64 mx] HP2.out.pr.sz rfl (HP2.out.ng.low (al_below w2 _))).rw (fun _ hb => hb))
  obtain ⟨k0, k1, k2, k3, k4, k5, f0, f1, f2, f3, f4, f5⟩ := bk6 HR5.out.bk
  go_wp2_with fail
  rw [nest6]
  exact node_retz (P := 2) rfl HR5.out _ _ rfl (by rfl) (NG.node (rs := []) (kids := [t]) RW.nil HK.out 4 [] 1 (-1) (by simp)) (by rw [HRK.out]; unfold repK; have hd : Asc.at_ l j = 43 := HD.out; rw [if_neg (by rw [hd]; decide)]; rw [if_pos hd]; exact fits_ok)
 by_cases h63 : nxN l j e2 = 63
 ·obtain rfl : e2 = 0 := Decidable.byContradiction fun hne => by rw [nxN_err hne] at h63; cases h63
  have HD := Lib.hid h63
  have HRK : Hid (R = repK l t j) := Lib.hid (by rcases fits_cases HF.out with ⟨hm, _⟩ | ⟨_, he⟩; (exact HRO.out _ _ hm); (exact absurd rfl he))
  clear h63
  go_wp2_with fail
  refine (HTN.out 42 _ _ (by rw [HD.out]; decide) _ HP.out.pr.ps).mono ?_
  rintro e w1 ⟨rfl, hq⟩
  have HP1 := Lib.hid (HP.out.go hq)
  clear hq HP
  go_wp2_with fail
  refine (HTN.out 43 _ _ (by rw [HD.out]; decide) _ HP1.out.pr.ps).mono ?_
  rintro e w2 ⟨rfl, hq⟩
  have HP2 := Lib.hid (HP1.out.go hq)
  clear hq HP1
  go_wp2_with fail
  refine (HTY.out 63 (by decide) _ (HD.out) _ HP2.out.pr.ps).mono ?_
  rintro e w3 ⟨rfl, hq⟩
  have HP3 := Lib.hid (HP2.out.go hq)
  clear hq HP2
  obtain ⟨q0, q1, q2, q3, q4, q5⟩ := bkn HP3.out.bk
  obtain ⟨q, hq⟩ : ∃ q, wc.heap.size = q := ⟨_, rfl⟩
  rw [hq] at q0 q1 q2 q3 q4 q5 ⊢
  have hqw : q ≠ w.heap.size := by have := HP3.out.hq; omega
  have HR5 := Lib.hid (HP3.out.pr.on (al_below w3 (.cells #[.int .i64 op, .slice ra rs.length rc, .string ⟨nm.toArray⟩, .slice a kids.length cc, .int .i64 mn, .int .i64 mx] 33)))
  have HK : Hid (RW (fun k => w.heap.size < k) 6 (KR (fun k => w.heap.size < k) (w3.alloc (.cells #[.int .i64 op, .slice ra rs.length rc, .string ⟨nm.toArray⟩, .slice a kids.length cc, .int .i64 mn, .int .i64 mx] 33))) (w3.alloc (.cells #[.int .i64 op, .slice ra rs.length rc, .string ⟨nm.toArray⟩, .slice a kids.length cc, .int .i64 mn, .int .i64 mx] 33)) [t] (.slice (some ⟨w3.heap.size, 0, none⟩) 1 1)) :=
   Lib.hid ((OR.lit (B := w.heap.size + 1) w3 t [.int .i64 op, .slice ra rs.length rc, .string ⟨nm.toArray⟩, .slice a kids.length cc, .int .i64 mn, .int .i64 mx] HP3.out.pr.sz rfl (HP3.out.ng.low (al_below w3 _))).rw (fun _ hb => hb))
  obtain ⟨k0, k1, k2, k3, k4, k5, f0, f1, f2, f3, f4, f5⟩ := bk6 HR5.out.bk
  go_wp2_with fail
  rw [nest6]
  exact node_retz (P := 2) rfl HR5.out _ _ rfl (by rfl) (NG.node (rs := []) (kids := [t]) RW.nil HK.out 4 [] 0 1 (by simp)) (by rw [HRK.out]; unfold repK; have hd : Asc.at_ l j = 63 := HD.out; rw [if_neg (by rw [hd]; decide)]; rw [if_neg (by rw [hd]; decide)]; rw [if_pos hd]; exact fits_ok)
 by_cases h123 : nxN l j e2 = 123
 ·obtain rfl : e2 = 0 := Decidable.byContradiction fun hne => by rw [nxN_err hne] at h123; cases h123
  have HD := Lib.hid h123
  have HRK : Hid (R = repK l t j) := Lib.hid (by rcases fits_cases HF.out with ⟨hm, _⟩ | ⟨_, he⟩; (exact HRO.out _ _ hm); (exact absurd rfl he))
  clear h123
  go_wp2_with fail
  refine (HTN.out 42 _ _ (by rw [HD.out]; decide) _ HP.out.pr.ps).mono ?_
  rintro e w1 ⟨rfl, hq⟩
  have HP1 := Lib.hid (HP.out.go hq)
  clear hq HP
  go_wp2_with fail
  refine (HTN.out 43 _ _ (by rw [HD.out]; decide) _ HP1.out.pr.ps).mono ?_
  rintro e w2 ⟨rfl, hq⟩
  have HP2 := Lib.hid (HP1.out.go hq)
  clear hq HP1
  go_wp2_with fail
  refine (HTN.out 63 _ _ (by rw [HD.out]; decide) _ HP2.out.pr.ps).mono ?_
  rintro e w3 ⟨rfl, hq⟩
  have HP3 := Lib.hid (HP2.out.go hq)
  clear hq HP2
  go_wp2_with fail
  refine (HTY.out 123 (by decide) _ (HD.out) _ HP3.out.pr.ps).mono ?_
  rintro e w4 ⟨rfl, hq⟩
  have HP4 := Lib.hid (HP3.out.go hq)
  clear hq HP3
  go_wp2_with fail
  refine (HBD.out _ _ HP4.out.pr.ps).mono ?_
  rintro e w6 ⟨lo, hi, k, e3, rfl, hq, hr3⟩
  have HP6 := Lib.hid (HP4.out.go hq)
  have HR3 := Lib.hid (fits_cases hr3)
  clear hq hr3 HP4
  obtain ⟨q0, q1, q2, q3, q4, q5⟩ := bkn HP6.out.bk
  obtain ⟨q, hq⟩ : ∃ q, wc.heap.size = q := ⟨_, rfl⟩
  rw [hq] at q0 q1 q2 q3 q4 q5 ⊢
  have hqw : q ≠ w.heap.size := by have := HP6.out.hq; omega
  have HR5 := Lib.hid (HP6.out.pr.on (al_below w6 (.cells #[.int .i64 op, .slice ra rs.length rc, .string ⟨nm.toArray⟩, .slice a kids.length cc, .int .i64 mn, .int .i64 mx] 33)))
  have HK : Hid (RW (fun k => w.heap.size < k) 6 (KR (fun k => w.heap.size < k) (w6.alloc (.cells #[.int .i64 op, .slice ra rs.length rc, .string ⟨nm.toArray⟩, .slice a kids.length cc, .int .i64 mn, .int .i64 mx] 33))) (w6.alloc (.cells #[.int .i64 op, .slice ra rs.length rc, .string ⟨nm.toArray⟩, .slice a kids.length cc, .int .i64 mn, .int .i64 mx] 33)) [t] (.slice (some ⟨w6.heap.size, 0, none⟩) 1 1)) :=
   Lib.hid ((OR.lit (B := w.heap.size + 1) w6 t [.int .i64 op, .slice ra rs.length rc, .string ⟨nm.toArray⟩, .slice a kids.length cc, .int .i64 mn, .int .i64 mx] HP6.out.pr.sz rfl (HP6.out.ng.low (al_below w6 _))).rw (fun _ hb => hb))
  obtain ⟨k0, k1, k2, k3, k4, k5, f0, f1, f2, f3, f4, f5⟩ := bk6 HR5.out.bk
  go_wp2_with fail
  rw [nest6]
  exact node_retz (P := 2) rfl HR5.out _ _ rfl (by rfl) (NG.node (rs := []) (kids := [t]) RW.nil HK.out 4 [] lo hi (by simp)) (by rw [HRK.out]; unfold repK; have hd : Asc.at_ l j = 123 := HD.out; rw [if_neg (by rw [hd]; decide)]; rw [if_neg (by rw [hd]; decide)]; rw [if_neg (by rw [hd]; decide)]; rw [if_pos hd]; rcases HR3.out with ⟨hm, rfl⟩ | ⟨hm, he⟩; (rw [hm]; exact fits_ok); (rw [hm]; exact fits_err he))
 have H42 := Lib.hid h42
 have H43 := Lib.hid h43
 have H63 := Lib.hid h63
 have H123 := Lib.hid h123
 clear h42 h43 h63 h123
 go_wp2_with fail
 refine (HTN.out 42 _ _ (H42.out) _ HP.out.pr.ps).mono ?_
 rintro e w1 ⟨rfl, hq⟩
 have HP1 := Lib.hid (HP.out.go hq)
 clear hq HP
 go_wp2_with fail
 refine (HTN.out 43 _ _ (H43.out) _ HP1.out.pr.ps).mono ?_
 rintro e w2 ⟨rfl, hq⟩
 have HP2 := Lib.hid (HP1.out.go hq)
 clear hq HP1
 go_wp2_with fail
 refine (HTN.out 63 _ _ (H63.out) _ HP2.out.pr.ps).mono ?_
 rintro e w3 ⟨rfl, hq⟩
 have HP3 := Lib.hid (HP2.out.go hq)
 clear hq HP2
 go_wp2_with fail
 refine (HTN.out 123 _ _ (H123.out) _ HP3.out.pr.ps).mono ?_
 rintro e w5 ⟨rfl, hq⟩
 have HP5 := Lib.hid (HP3.out.go hq)
 clear hq HP3
 obtain ⟨q0, q1, q2, q3, q4, q5⟩ := bkn HP5.out.bk
 obtain ⟨q, hq⟩ : ∃ q, wc.heap.size = q := ⟨_, rfl⟩
 rw [hq] at q0 q1 q2 q3 q4 q5 ⊢
 have hqw : q ≠ w.heap.size := by have := HP5.out.hq; omega
 obtain ⟨k0, k1, k2, k3, k4, k5, f0, f1, f2, f3, f4, f5⟩ := bk6 HP5.out.pr.bk
 go_wp2_with fail
 rw [nest6 w5]
 exact node_retz (P := 2) rfl HP5.out.pr _ _ rfl (by rfl) HP5.out.ng (by
  rcases fits_cases HF.out with ⟨hm, rfl⟩ | ⟨hm, he⟩
  ·rw [HRO.out _ _ hm]
   unfold repK
   have a42 : ¬ Asc.at_ l j = 42 := H42.out
   have a43 : ¬ Asc.at_ l j = 43 := H43.out
   have a63 : ¬ Asc.at_ l j = 63 := H63.out
   have a123 : ¬ Asc.at_ l j = 123 := H123.out
   rw [if_neg a42, if_neg a43, if_neg a63, if_neg a123]
   exact fits_ok
  ·rw [HRE.out _ _ he hm]
   exact fits_err he)
end Go.Proofs.YtmpbjaodgajnfaaGreatDoor
namespace Go.Proofs.YtmpbjaodgajnfaaGreatDoor
open Go.RowKit
theorem braL_le (l : List UInt8) (n : Nat) : ∀ first i f g j, braL l n first i f = .ok (g, j) → i ≤ j := by
 induction n with
 | zero => intro first i f g j h; cases h
 | succ n ih =>
  intro first i f g j h
  rw [braL] at h
  split at h
  ·injection h with h
   injection h with _ h
   omega
  ·split at h
   ·cases h
   ·rename_i s lo one k hm
    have h1 := itemM_lt hm
    split at h
    ·split at h
     ·cases h
     ·rename_i s2 hi o2 k2 hm2
      have h2 := itemM_lt hm2
      split at h
      ·cases h
      ·have := ih _ _ _ _ _ h
       omega
    ·have := ih _ _ _ _ _ h
     omega
theorem braM_lt {l : List UInt8} {i : Nat} {t : NT} {j : Nat} (h : braM l i = .ok (t, j)) : i < j := by
 unfold braM at h
 split at h
 ·cases h
 ·rename_i f k hm
  injection h with h
  injection h with _ h
  have := braL_le _ _ _ _ _ _ _ hm
  split at this <;> omega
theorem boundM_lt {l : List UInt8} {i v j : Nat} (h : boundM l i = .ok (v, j)) : i < j := by
 unfold boundM at h
 repeat' split at h
 all_goals first
  | cases h; done
  | (injection h with h; injection h with _ h; omega)
theorem boundsM_lt {l : List UInt8} {i : Nat} {x : Int × Int} {j : Nat} (h : boundsM l i = .ok (x, j)) : i < j := by
 unfold boundsM at h
 split at h
 ·cases h
 ·rename_i lo k hm
  have h1 := boundM_lt hm
  split at h
  ·split at h
   ·injection h with h
    injection h with _ h
    omega
   ·split at h
    ·cases h
    ·rename_i hi k2 hm2
     have h2 := boundM_lt hm2
     repeat' split at h
     all_goals first
      | cases h; done
      | (injection h with h; injection h with _ h; omega)
  ·split at h
   ·injection h with h
    injection h with _ h
    omega
   ·cases h
theorem grpI_le (l : List UInt8) (i : Nat) : i ≤ grpI l i := by unfold grpI; split <;> omega
def Goes (ch : Nat → Out NT) : Prop := ∀ i t j, ch i = .ok (t, j) → i ≤ j
theorem atomM_lt {ch : Nat → Out NT} (hc : Goes ch) {l : List UInt8} {i : Nat} {t : NT} {j : Nat} (h : atomM ch l i = .ok (t, j)) : i < j := by
 unfold atomM at h
 split at h
 ·unfold grpM at h
  split at h
  ·cases h
  ·rename_i t2 k hm
   have := hc _ _ _ hm
   have := grpI_le l (i + 1)
   split at h
   ·injection h with h
    injection h with _ h
    omega
   ·cases h
 split at h
 ·have := braM_lt h
  omega
 split at h
 ·injection h with h
  injection h with _ h
  omega
 split at h
 ·injection h with h
  injection h with _ h
  omega
 split at h
 ·injection h with h
  injection h with _ h
  omega
 split at h
 ·split at h
  ·cases h
  ·rename_i s c one k hm
   have := escM_lt hm
   injection h with h
   injection h with _ h
   omega
 split at h
 ·injection h with h
  injection h with _ h
  omega
 ·cases h
theorem repK_le {l : List UInt8} {t t2 : NT} {i j : Nat} (h : repK l t i = .ok (t2, j)) : i ≤ j := by
 unfold repK at h
 split at h
 ·injection h with h
  injection h with _ h
  omega
 split at h
 ·injection h with h
  injection h with _ h
  omega
 split at h
 ·injection h with h
  injection h with _ h
  omega
 split at h
 ·split at h
  ·cases h
  ·rename_i lo hi k hm
   have := boundsM_lt hm
   injection h with h
   injection h with _ h
   omega
 ·injection h with h
  injection h with _ h
  omega
theorem repM_lt {ch : Nat → Out NT} (hc : Goes ch) {l : List UInt8} {i : Nat} {t : NT} {j : Nat} (h : repM ch l i = .ok (t, j)) : i < j := by
 rw [repM_eq] at h
 split at h
 ·cases h
 ·rename_i t2 k hm
  have := atomM_lt hc hm
  have := repK_le h
  omega
theorem catL_le {ch : Nat → Out NT} (hc : Goes ch) (l : List UInt8) (n : Nat) : ∀ i ts t j, catL ch l n i ts = .ok (t, j) → i ≤ j := by
 induction n with
 | zero => intro i ts t j h; cases h
 | succ n ih =>
  intro i ts t j h
  rw [catL] at h
  split at h
  ·injection h with h
   injection h with _ h
   omega
  ·split at h
   ·cases h
   ·rename_i t2 k hm
    have := repM_lt hc hm
    have := ih _ _ _ _ h
    omega
theorem catM_le {ch : Nat → Out NT} (hc : Goes ch) {l : List UInt8} {i : Nat} {t : NT} {j : Nat} (h : catM ch l i = .ok (t, j)) : i ≤ j := catL_le hc l _ _ _ _ _ h
theorem altL_le {ch : Nat → Out NT} (hc : Goes ch) (l : List UInt8) (n : Nat) : ∀ i ts t j, altL ch l n i ts = .ok (t, j) → i ≤ j := by
 induction n with
 | zero => intro i ts t j h; cases h
 | succ n ih =>
  intro i ts t j h
  rw [altL] at h
  split at h
  ·split at h
   ·cases h
   ·rename_i t2 k hm
    have := catM_le hc hm
    have := ih _ _ _ _ h
    omega
  ·injection h with h
   injection h with _ h
   omega
theorem choB_goes {ch : Nat → Out NT} (hc : Goes ch) (l : List UInt8) : Goes (choB ch l) := by
 intro i t j h
 unfold choB at h
 split at h
 ·cases h
 ·rename_i t2 k hm
  have := catM_le hc hm
  have := altL_le hc _ _ _ _ _ _ h
  omega
theorem choM_goes (l : List UInt8) (d : Nat) : Goes (choM l d) := by
 induction d with
 | zero => intro i t j h; cases h
 | succ d ih => exact choB_goes ih l
def CatI (ch : Nat → Out NT) (l : List UInt8) (R : Out NT) (k e : Nat) (ts : List NT) : Prop := (e = 0 ∧ ∃ n, l.length < k + n ∧ catL ch l n k ts = R) ∨ (e ≠ 0 ∧ R = .error (k, e))
theorem CatI.stop {ch : Nat → Out NT} {l : List UInt8} {R : Out NT} {k e : Nat} {ts : List NT} (h : CatI ch l R k e ts) (hk : k ≤ l.length) (hs : nxN l k e = 999 ∨ nxN l k e = 124 ∨ nxN l k e = 41) : fits R (joinT 2 ts) k e := by
 rcases h with ⟨rfl, n, hn, hr⟩ | ⟨he, hr⟩
 ·cases n with
  | zero => omega
  | succ n =>
   rw [nxN_ok] at hs
   rw [catL, if_pos hs] at hr
   rw [← hr]
   exact fits_ok
 ·rw [hr]
  exact fits_err he
theorem CatI.next {ch : Nat → Out NT} {l : List UInt8} {R : Out NT} {k : Nat} {ts : List NT} (h : CatI ch l R k 0 ts) (hc : Goes ch) (hk : k ≤ l.length) (hs : ¬ (Asc.at_ l k = 999 ∨ Asc.at_ l k = 124 ∨ Asc.at_ l k = 41)) {t : NT} {j e : Nat} (hf : fits (repM ch l k) t j e) : CatI ch l R j e (ts ++ [t]) ∧ (e = 0 → k < j) := by
 rcases h with ⟨_, n, hn, hr⟩ | ⟨he, hr⟩
 ·cases n with
  | zero => omega
  | succ n =>
   rw [catL, if_neg hs] at hr
   rcases fits_cases hf with ⟨hm, rfl⟩ | ⟨hm, he⟩
   ·have := repM_lt hc hm
    rw [hm] at hr
    exact ⟨.inl ⟨rfl, n, by omega, hr⟩, fun _ => this⟩
   ·rw [hm] at hr
    exact ⟨.inr ⟨he, hr.symm⟩, fun h => absurd h he⟩
 ·exact absurd rfl he
set_option maxHeartbeats 8000000 in
set_option maxRecDepth 1000000 in
theorem cat_any (b : Nat) (l : List UInt8) (ch : Nat → Out NT) (hc : Goes ch) (i : Nat) (hrep : ∀ k, i ≤ k → RdZ 102 b l k (repM ch l k)) : RdZ 73 b l i (catM ch l i) := by
 intro w h
 have HRP := Lib.hid hrep
 have HGO := Lib.hid hc
 have HS := Lib.hid (ZL.start (ZR.start h))
 have hile := h.le
 obtain ⟨R, hR⟩ : ∃ R, catM ch l i = R := ⟨_, rfl⟩
 rw [hR]
 have HI0 : Hid (CatI ch l R i 0 []) := Lib.hid (.inl ⟨rfl, l.length + 1, by omega, hR⟩)
 have HNX := Lib.hid fun (k v : Nat) (hv : Asc.at_ l k = v) (hv2 : v < 256) W (hW : ZS b l k 0 W) => znext_ok b l k W hW v hv hv2
 have HNE := Lib.hid fun (k e : Nat) (hv : nxN l k e = 999) W (hW : ZS b l k e W) => znext_no b l k e W hW hv
 clear h hrep hR hc
 obtain ⟨i0, hi, hz0, hz1, hz2⟩ := info_parts infoN
 go_enter Tryz.func73, Tryz.ntmps73
 go_wp2_with fail
 go_loopw [3, 4, 5] (fun v _ _ wr => ∃ (k e : Nat) (kids : List NT), Hid (CatI ch l R k e kids) ∧ (e = 0 → i ≤ k) ∧ kids.length ≤ 1001 ∧ (e = 0 → kids.length ≤ k) ∧ Hid (ZL b l k e w kids v wr)) (fun _ _ _ wr => leftAt b wr)
 case atStart => exact ⟨i, 0, [], HI0, fun _ => Nat.le_refl _, by simp, by simp, HS⟩
 case round =>
  obtain ⟨k, e, kids, HI, hik, hlen, hlk, HL⟩ := hrel
  clear HS HI0
  have HIK := Lib.hid hik
  have HLK := Lib.hid hlk
  have hrow := HL.out.rows
  obtain ⟨ra, rc, rfl, _⟩ := hrow
  have hkl := HL.out.pr.ps.le
  have hl2 := HL.out.pr.ps.len
  clear hik hlk
  by_cases hs : nxN l k e = 999 ∨ nxN l k e = 124 ∨ nxN l k e = 41
  ·have HF := Lib.hid (HI.out.stop hkl hs)
   rcases hs with hs | hs | hs
   ·have HN := Lib.hid (HNE.out k e hs)
    clear hs
    go_wp2_with fail
    refine (HN.out _ HL.out.pr.ps).mono ?_
    rintro e9 w1 ⟨rfl, hq⟩
    have HS1 := Lib.hid (HL.out.go hq)
    clear hq HL
    go_wp2_with fail
    refine (join_any 2 kids _ _ (w.heap.size + 1) HS1.out.rows).mono ?_
    rintro e9 w3 ⟨x, rfl, hT, hb⟩
    have HS3 := Lib.hid (HS1.out.pr.on hb)
    have HT3 := Lib.hid hT
    obtain ⟨op, rs, nm, kk, mn, mx, ra2, rc2, a, cc, ht, rfl, _⟩ := hT.open
    clear hT hb ht HS1
    obtain ⟨k0, k1, k2, k3, k4, k5, f0, f1, f2, f3, f4, f5⟩ := bk6 HS3.out.bk
    go_wp2_with fail
    rw [nest6 w3]
    exact node_retz (P := 2) rfl HS3.out _ _ rfl (by rfl) HT3.out HF.out
   ·obtain rfl : e = 0 := Decidable.byContradiction fun hne => by rw [nxN_err hne] at hs; cases hs
    have HN := Lib.hid (HNX.out k 124 hs (by decide))
    clear hs
    go_wp2_with fail
    refine (HN.out _ HL.out.pr.ps).mono ?_
    rintro e9 w1 ⟨rfl, hq⟩
    have HS1 := Lib.hid (HL.out.go hq)
    clear hq HL
    go_wp2_with fail
    refine (join_any 2 kids _ _ (w.heap.size + 1) HS1.out.rows).mono ?_
    rintro e9 w3 ⟨x, rfl, hT, hb⟩
    have HS3 := Lib.hid (HS1.out.pr.on hb)
    have HT3 := Lib.hid hT
    obtain ⟨op, rs, nm, kk, mn, mx, ra2, rc2, a, cc, ht, rfl, _⟩ := hT.open
    clear hT hb ht HS1
    obtain ⟨k0, k1, k2, k3, k4, k5, f0, f1, f2, f3, f4, f5⟩ := bk6 HS3.out.bk
    go_wp2_with fail
    rw [nest6 w3]
    exact node_retz (P := 2) rfl HS3.out _ _ rfl (by rfl) HT3.out HF.out
   ·obtain rfl : e = 0 := Decidable.byContradiction fun hne => by rw [nxN_err hne] at hs; cases hs
    have HN := Lib.hid (HNX.out k 41 hs (by decide))
    clear hs
    go_wp2_with fail
    refine (HN.out _ HL.out.pr.ps).mono ?_
    rintro e9 w1 ⟨rfl, hq⟩
    have HS1 := Lib.hid (HL.out.go hq)
    clear hq HL
    go_wp2_with fail
    refine (join_any 2 kids _ _ (w.heap.size + 1) HS1.out.rows).mono ?_
    rintro e9 w3 ⟨x, rfl, hT, hb⟩
    have HS3 := Lib.hid (HS1.out.pr.on hb)
    have HT3 := Lib.hid hT
    obtain ⟨op, rs, nm, kk, mn, mx, ra2, rc2, a, cc, ht, rfl, _⟩ := hT.open
    clear hT hb ht HS1
    obtain ⟨k0, k1, k2, k3, k4, k5, f0, f1, f2, f3, f4, f5⟩ := bk6 HS3.out.bk
    go_wp2_with fail
    rw [nest6 w3]
    exact node_retz (P := 2) rfl HS3.out _ _ rfl (by rfl) HT3.out HF.out
  ·obtain rfl : e = 0 := Decidable.byContradiction fun hne => hs (.inl (nxN_err hne))
   rw [nxN_ok] at hs
   have HST := Lib.hid hs
   obtain ⟨vv, hv⟩ : ∃ v, Asc.at_ l k = v := ⟨_, rfl⟩
   have h1 : vv < 256 := by
    rcases at_two l k with h9 | h9
    ·omega
    ·exact absurd (.inl h9) hs
   have HN := Lib.hid (HNX.out k vv hv h1)
   rw [hv] at hs
   have z1 : ((vv : Int) == 124) = false := by rw [beq_eq_false_iff_ne]; omega
   have z2 : ((vv : Int) == 41) = false := by rw [beq_eq_false_iff_ne]; omega
   have HR := Lib.hid (HRP.out k (HIK.out rfl))
   clear hs hv
   go_wp2_with fail
   refine (HN.out _ HL.out.pr.ps).mono ?_
   rintro e9 w1 ⟨rfl, hq⟩
   have HS1 := Lib.hid (HL.out.go hq)
   clear hq
   go_wp2_with fail
   refine (HR.out _ HS1.out.pr.ps).mono ?_
   rintro e9 w2 ⟨x, t, j, e2, rfl, hT, hq, hf⟩
   have HS2 := Lib.hid (HS1.out.go hq)
   have HT2 := Lib.hid (HS1.out.new hT)
   have HI2 := Lib.hid (HI.out.next HGO.out hkl HST.out hf)
   obtain ⟨op, rs, nm, kk, mn, mx, ra2, rc2, a, cc, ht, rfl, _⟩ := hT.open
   clear hq hT ht HS1 hf
   obtain ⟨cs, hown, hpush⟩ := HS2.out.row.cells
   have HPU := Lib.hid hpush
   have HSZ := Lib.hid HS2.out.pr.sz
   have hlk := HLK.out (by first | rfl | trivial)
   clear hpush
   go_wp2_with (at_builtin; refine wpList_append_lies _ rfl _ _ 31 rfl (w.heap.size + 1) 33 i0 (.agg #[.int .i64 0, .slice none 0 0, .string ⟨#[]⟩, .slice none 0 0, .int .i64 0, .int .i64 0]) 6 88 Tryz.underlying31 hi hz0 hz1 hz2 rfl (by decide) _ kids.length cs rfl (hown.alloc _) ⟨w2.heap.size, 0, none⟩ 1 1 [.int .i64 op, .slice ra2 rs.length rc2, .string ⟨nm.toArray⟩, .slice a kk.length cc, .int .i64 mn, .int .i64 mx] rfl rfl (World.news_of_block (heap_alloc_new w2 _)) (node_one _ _ _ _ _ _ _ _ _ _) (by omega) (by unfold maxLen; omega) (by omega) (Nat.le_trans HSZ.out (by simp)) _ rfl ?_; intro g6 cap6 w6 hown6 hgr6 hat6 hlt6; have HS6 := Lib.hid (HS2.out.push cs hown HPU.out hgr6 hat6 rfl _ rfl HT2.out (by omega) hown6); clear hown6 hgr6 hat6 hlt6 hown)
   refine ⟨⟨j, e2, kids ++ [t], Lib.hid HI2.out.1, fun he => ?_, by simp; omega, fun he => ?_, HS6⟩, ?_⟩
   ·have := HI2.out.2 he
    have := HIK.out (by first | rfl | trivial)
    omega
   ·have := HI2.out.2 he
    simp
    omega
   ·rw [HS6.out.pr.ps.left, HL.out.pr.ps.left, if_pos rfl]
    by_cases he : e2 = 0
    ·have := HI2.out.2 he
     rw [if_pos he]
     omega
    ·rw [if_neg he]
     omega
def AltI (ch : Nat → Out NT) (l : List UInt8) (R : Out NT) (k e : Nat) (ts : List NT) : Prop := (e = 0 ∧ ∃ n, l.length < k + n ∧ altL ch l n k ts = R) ∨ (e ≠ 0 ∧ R = .error (k, e))
theorem AltI.stop {ch : Nat → Out NT} {l : List UInt8} {R : Out NT} {k e : Nat} {ts : List NT} (h : AltI ch l R k e ts) (hk : k ≤ l.length) (hs : nxN l k e ≠ 124) : fits R (joinT 3 ts) k e := by
 rcases h with ⟨rfl, n, hn, hr⟩ | ⟨he, hr⟩
 ·cases n with
  | zero => omega
  | succ n =>
   rw [nxN_ok] at hs
   rw [altL, if_neg hs] at hr
   rw [← hr]
   exact fits_ok
 ·rw [hr]
  exact fits_err he
theorem AltI.next {ch : Nat → Out NT} {l : List UInt8} {R : Out NT} {k : Nat} {ts : List NT} (h : AltI ch l R k 0 ts) (hc : Goes ch) (hk : k ≤ l.length) (hs : Asc.at_ l k = 124) {t : NT} {j e : Nat} (hf : fits (catM ch l (k + 1)) t j e) : AltI ch l R j e (ts ++ [t]) ∧ (e = 0 → k < j) := by
 rcases h with ⟨_, n, hn, hr⟩ | ⟨he, hr⟩
 ·cases n with
  | zero => omega
  | succ n =>
   rw [altL, if_pos hs] at hr
   rcases fits_cases hf with ⟨hm, rfl⟩ | ⟨hm, he⟩
   ·have := catM_le hc hm
    rw [hm] at hr
    exact ⟨.inl ⟨rfl, n, by omega, hr⟩, fun _ => by omega⟩
   ·rw [hm] at hr
    exact ⟨.inr ⟨he, hr.symm⟩, fun h => absurd h he⟩
 ·exact absurd rfl he
theorem AltI.start {ch : Nat → Out NT} {l : List UInt8} {i : Nat} {t : NT} {j e : Nat} (hf : fits (catM ch l i) t j e) : AltI ch l (choB ch l i) j e [t] := by
 unfold choB
 rcases fits_cases hf with ⟨hm, rfl⟩ | ⟨hm, he⟩
 ·rw [hm]
  exact .inl ⟨rfl, l.length + 1, by omega, rfl⟩
 ·rw [hm]
  exact .inr ⟨he, rfl⟩
set_option maxHeartbeats 8000000 in
set_option maxRecDepth 1000000 in
theorem cho_any (b : Nat) (l : List UInt8) (ch : Nat → Out NT) (hc : Goes ch) (i : Nat) (hcat : ∀ k, i ≤ k → RdZ 73 b l k (catM ch l k)) : RdZ 51 b l i (choB ch l i) := by
 intro w h
 have HCT := Lib.hid hcat
 have HGO := Lib.hid hc
 have HS := Lib.hid (ZR.start h)
 have HTY := Lib.hid fun (k : Nat) (hk : Asc.at_ l k = 124) W (hW : ZS b l k 0 W) => ztakes_yes b l k W hW 124 hk (by decide)
 have HTN := Lib.hid fun (k e : Nat) (hk : nxN l k e ≠ 124) W (hW : ZS b l k e W) => ztakes_no b l k e W hW 124 hk
 have hl2 := h.len
 have H0 := Lib.hid (hcat i (Nat.le_refl _))
 have HST := Lib.hid (fun t j e => AltI.start (ch := ch) (l := l) (i := i) (t := t) (j := j) (e := e))
 obtain ⟨R, hR⟩ : ∃ R, choB ch l i = R := ⟨_, rfl⟩
 rw [hR] at HST ⊢
 have HMI := Lib.hid (fun t j (hm : catM ch l i = .ok (t, j)) => catM_le hc hm)
 clear h hcat hR hc
 obtain ⟨i0, hi, hz0, hz1, hz2⟩ := info_parts infoN
 go_enter Tryz.func51, Tryz.ntmps51
 go_wp2_with fail
 refine (H0.out _ HS.out.ps).mono ?_
 rintro e9 w0 ⟨x, t0, j0, e0, rfl, hT, hq, hf⟩
 have HS0 := Lib.hid (HS.out.go hq)
 have HT0 := Lib.hid (hT.up HS.out.sz)
 have HI0 := Lib.hid (HST.out t0 j0 e0 hf)
 have HIJ : Hid (e0 = 0 → i ≤ j0) := Lib.hid (fun he => by
  rcases fits_cases hf with ⟨hm, _⟩ | ⟨_, hne⟩
  ·exact HMI.out _ _ hm
  ·exact absurd he hne)
 obtain ⟨op, rs, nm, kk, mn, mx, ra2, rc2, a, cc, ht, rfl, _⟩ := hT.open
 have HL0 := Lib.hid (ZL.lit HS0.out [.int .i64 op, .slice ra2 rs.length rc2, .string ⟨nm.toArray⟩, .slice a kk.length cc, .int .i64 mn, .int .i64 mx] rfl HT0.out)
 clear hq hT ht HS HS0 HT0 hf
 go_wp2_with fail
 go_loopw [3] (fun v wr => ∃ (k e : Nat) (kids : List NT), Hid (AltI ch l R k e kids) ∧ Hid (e = 0 → i ≤ k) ∧ kids.length ≤ 1002 ∧ Hid (e = 0 → kids.length ≤ k + 1) ∧ Hid (ZL b l k e w kids v wr)) (fun _ wr => leftAt b wr)
 case atStart => exact ⟨j0, e0, [t0], HI0, HIJ, by simp, Lib.hid (fun _ => by simp), HL0⟩
 case round =>
  obtain ⟨k, e, kids, HI, HIK, hlen, HLK, HL⟩ := hrel
  clear HL0 HI0 HIJ
  have hrow := HL.out.rows
  obtain ⟨ra, rc, rfl, _⟩ := hrow
  have hkl := HL.out.pr.ps.le
  by_cases hs : nxN l k e = 124
  ·obtain rfl : e = 0 := Decidable.byContradiction fun hne => by rw [nxN_err hne] at hs; cases hs
   have HSK := Lib.hid (show Asc.at_ l k = 124 from hs)
   have HR := Lib.hid (HCT.out (k + 1) (Nat.le_succ_of_le (HIK.out rfl)))
   clear hs
   go_wp2_with fail
   refine (HTY.out _ HSK.out _ HL.out.pr.ps).mono ?_
   rintro e9 w1 ⟨rfl, hq⟩
   have HS1 := Lib.hid (HL.out.go hq)
   clear hq
   go_wp2_with fail
   refine (HR.out _ HS1.out.pr.ps).mono ?_
   rintro e9 w2 ⟨x, t, j, e2, rfl, hT, hq, hf⟩
   have HS2 := Lib.hid (HS1.out.go hq)
   have HT2 := Lib.hid (HS1.out.new hT)
   have HI2 := Lib.hid (HI.out.next HGO.out hkl HSK.out hf)
   obtain ⟨op, rs, nm, kk, mn, mx, ra2, rc2, a, cc, ht, rfl, _⟩ := hT.open
   clear hq hT ht HS1 hf
   obtain ⟨cs, hown, hpush⟩ := HS2.out.row.cells
   have HPU := Lib.hid hpush
   have HSZ := Lib.hid HS2.out.pr.sz
   have hlk := HLK.out (by first | rfl | trivial)
   clear hpush
   go_wp2_with (at_builtin; refine wpList_append_lies _ rfl _ _ 31 rfl (w.heap.size + 1) 33 i0 (.agg #[.int .i64 0, .slice none 0 0, .string ⟨#[]⟩, .slice none 0 0, .int .i64 0, .int .i64 0]) 6 88 Tryz.underlying31 hi hz0 hz1 hz2 rfl (by decide) _ kids.length cs rfl (hown.alloc _) ⟨w2.heap.size, 0, none⟩ 1 1 [.int .i64 op, .slice ra2 rs.length rc2, .string ⟨nm.toArray⟩, .slice a kk.length cc, .int .i64 mn, .int .i64 mx] rfl rfl (World.news_of_block (heap_alloc_new w2 _)) (node_one _ _ _ _ _ _ _ _ _ _) (by omega) (by unfold maxLen; omega) (by omega) (Nat.le_trans HSZ.out (by simp)) _ rfl ?_; intro g6 cap6 w6 hown6 hgr6 hat6 hlt6; have HS6 := Lib.hid (HS2.out.push cs hown HPU.out hgr6 hat6 rfl _ rfl HT2.out (by omega) hown6); clear hown6 hgr6 hat6 hlt6 hown)
   refine ⟨⟨j, e2, kids ++ [t], Lib.hid HI2.out.1, Lib.hid (fun he => ?_), by simp; omega, Lib.hid (fun he => ?_), HS6⟩, ?_⟩
   ·have := HI2.out.2 he
    have := HIK.out (by first | rfl | trivial)
    omega
   ·have := HI2.out.2 he
    simp
    omega
   ·rw [HS6.out.pr.ps.left, HL.out.pr.ps.left, if_pos rfl]
    by_cases he : e2 = 0
    ·have := HI2.out.2 he
     rw [if_pos he]
     omega
    ·rw [if_neg he]
     omega
  ·have HF := Lib.hid (HI.out.stop hkl hs)
   have HN := Lib.hid (HTN.out k e hs)
   clear hs
   go_wp2_with fail
   refine (HN.out _ HL.out.pr.ps).mono ?_
   rintro e9 w1 ⟨rfl, hq⟩
   have HS1 := Lib.hid (HL.out.go hq)
   clear hq HL
   go_wp2_with fail
   refine (join_any 3 kids _ _ (w.heap.size + 1) HS1.out.rows).mono ?_
   rintro e9 w3 ⟨x, rfl, hT, hb⟩
   have HS3 := Lib.hid (HS1.out.pr.on hb)
   have HT3 := Lib.hid hT
   obtain ⟨op, rs, nm, kk, mn, mx, ra2, rc2, a, cc, ht, rfl, _⟩ := hT.open
   clear hT hb ht HS1
   obtain ⟨k0, k1, k2, k3, k4, k5, f0, f1, f2, f3, f4, f5⟩ := bk6 HS3.out.bk
   go_wp2_with fail
   rw [nest6 w3]
   exact node_retz (P := 2) rfl HS3.out _ _ rfl (by rfl) HT3.out HF.out
theorem choice_full (b : Nat) (l : List UInt8) (d : Nat) : ∀ i, l.length < i + d → RdZ 51 b l i (choM l d i) := by
 induction d with
 | zero =>
  intro i hi W hW
  have := hW.le
  omega
 | succ d ih =>
  intro i hi
  have hgo := choM_goes l d
  refine cho_any b l (choM l d) hgo i fun k hk => cat_any b l (choM l d) hgo k fun k2 hk2 => ?_
  refine rep_any b l k2 _ (atom_any b l (choM l d) k2 fun _ => grp_any b l (choM l d) (k2 + 1) (ih _ ?_)) _ (fun j e _ hm => ?_) (fun t j hm => ?_)
  ·have := grpI_le l (k2 + 1)
   omega
  ·rw [repM_eq, hm]
  ·rw [repM_eq, hm]
end Go.Proofs.YtmpbjaodgajnfaaGreatDoor
namespace Go.Proofs.YtmpbjaodgajnfaaGreatDoor
open Go.RowKit
noncomputable def parM (l : List UInt8) : Option NT × Nat × Nat :=
 if 400 < l.length then (none, 0, 3)
 else match choM l (l.length + 1) 0 with
  | .error (j, e) => (none, j, e)
  | .ok (t, j) => if j < l.length then (none, j, 1) else if ckE t = 0 then (some t, l.length, 0) else (none, l.length, ckE t)
def zeroT : NT := .node 0 [] [] [] 0 0
def ParZ (l : List UInt8) (w : World) (en : Ending) (w' : World) : Prop := ∃ v t, en = .returned (.tuple #[v, .int .i64 ((parM l).2.1 : Int), .int .i64 ((parM l).2.2 : Int)]) ∧ NG (fun k => w.heap.size ≤ k) w' t v ∧ Below w.heap.size w w' ∧ ((parM l).2.2 = 0 → (parM l).1 = some t)
def ParY (l : List UInt8) (w : World) (en : Ending) (w' : World) : Prop := ∃ v t, en = .returned (.tuple #[v, .int .i64 ((parM l).2.1 : Int), .int .i64 ((parM l).2.2 : Int)]) ∧ NG (fun k => w.heap.size ≤ k) w' t v ∧ Below w.heap.size w w' ∧ ((parM l).2.2 = 0 → (parM l).1 = some t) ∧ ((parM l).2.2 ≠ 0 → t = zeroT)
theorem ParY.z {l : List UInt8} {w : World} {en : Ending} {w' : World} (h : ParY l w en w') : ParZ l w en w' := by
 obtain ⟨v, t, h1, h2, h3, h4, _⟩ := h
 exact ⟨v, t, h1, h2, h3, h4⟩
theorem par_ret {fn : Func} {P t u : Tmp} (hfn : fn.results = #[.cell P 33, .tmp t, .tmp u]) {w W : World} {E : Nat → Value} (hS : BK w.heap.size 6 E W) {tmps : Array Value} (hp : tmps.getD P undef = .pointer (some ⟨w.heap.size, 0, none⟩)) {v0 v1 v2 v3 v4 v5 : Value} {l : List UInt8} {T : NT}
  (h1 : tmps.getD t undef = .int .i64 ((parM l).2.1 : Int)) (h2 : tmps.getD u undef = .int .i64 ((parM l).2.2 : Int)) (hT : NG (fun k => w.heap.size < k) W T (.agg #[v0, v1, v2, v3, v4, v5])) (hb : Below w.heap.size w W) (hr : ((parM l).2.2 = 0 → (parM l).1 = some T) ∧ ((parM l).2.2 ≠ 0 → T = zeroT)) :
  bodyPost Tryz.prog fn (ParY l w) Exit.ret { tmps := tmps, defers := [] } (setL W w.heap.size [v0, v1, v2, v3, v4, v5] 0) := by
 have hbl := setL_below (B := w.heap.size) (b := w.heap.size) (Nat.le_refl _) [v0, v1, v2, v3, v4, v5] W 0
 exact item_ret3 hfn hS rfl hp ⟨_, T, by rw [h1, h2], NG.go ⟨hbl.size, fun j hj _ => ⟨Nat.le_of_lt hj, setL_heap _ (Nat.ne_of_gt hj) _ _⟩⟩ _ _ hT, hb.trans hbl, hr⟩
theorem zero_ng {B : Nat} {W : World} : NG (fun k => B < k) W zeroT (.agg #[.int .i64 0, .slice none 0 0, .string ⟨#[]⟩, .slice none 0 0, .int .i64 0, .int .i64 0]) := NG.node (rs := []) (kids := []) RW.nil RW.nil 0 [] 0 0 (by simp)
theorem zero_up {B : Nat} {W : World} : NG (fun k => B ≤ k) W zeroT (.agg #[.int .i64 0, .slice none 0 0, .string ⟨#[]⟩, .slice none 0 0, .int .i64 0, .int .i64 0]) := NG.node (rs := []) (kids := []) RW.nil RW.nil 0 [] 0 0 (by simp)
theorem drew_setL (b : Nat) : ∀ (l : List Value) (i : Nat) (W : World), (setL W b l i).drew = setL W.drew b l i
 | [], _, _ => rfl
 | v :: l, i, W => drew_setL b l (i + 1) (W.setCell ⟨b, i, none⟩ v)
set_option maxHeartbeats 4000000 in
set_option maxRecDepth 1000000 in
theorem parse_long (l : List UInt8) (hl : 400 < l.length) (w : World) : Calls Tryz.prog 27 #[.string ⟨l.toArray⟩] w (ParY l w) := by
 have hM : parM l = (none, 0, 3) := if_pos hl
 have HM := Lib.hid hM
 have z0 : decide ((400 : Int) < (l.length : Int)) = true := decide_eq_true (by omega)
 have y0 : decide (400 < l.length) = true := decide_eq_true hl
 have HK0 := Lib.hid (nE_new w 0 none 0 0 [] none 0 0 0 0)
 have HB0 := Lib.hid (al_below w (.cells #[.int .i64 0, .slice none 0 0, .string ⟨#[]⟩, .slice none 0 0, .int .i64 0, .int .i64 0] 33))
 clear hM hl
 go_enter Tryz.func27, Tryz.ntmps27
 go_wp2_with fail
 refine bodyPost_ret (results_item3 (ty := 33) (p := 2) (t := 3) (u := 4) rfl _ _ w.heap.size [.int .i64 0, .slice none 0 0, .string ⟨#[]⟩, .slice none 0 0, .int .i64 0, .int .i64 0] _ (by rfl) ?_ Tryz.underlying33 rfl (by kernel_rfl)) rfl ⟨_, zeroT, ?_, zero_up, HB0.out, fun h => (by rw [HM.out] at h; cases h), fun _ => rfl⟩
 ·intro j v hj
  match j, hj with
  | 0, hj => simp at hj; subst hj; exact HK0.out.ev 0 (by omega)
  | 1, hj => simp at hj; subst hj; exact HK0.out.ev 1 (by omega)
  | 2, hj => simp at hj; subst hj; exact HK0.out.ev 2 (by omega)
  | 3, hj => simp at hj; subst hj; exact HK0.out.ev 3 (by omega)
  | 4, hj => simp at hj; subst hj; exact HK0.out.ev 4 (by omega)
  | 5, hj => simp at hj; subst hj; exact HK0.out.ev 5 (by omega)
  | j + 6, hj => simp at hj
 ·rw [HM.out]
  rfl
set_option maxHeartbeats 8000000 in
set_option maxRecDepth 1000000 in
theorem parse_short (l : List UInt8) (hl : l.length ≤ 400) (w : World) (hk : Kinds w) : Calls Tryz.prog 27 #[.string ⟨l.toArray⟩] w (ParY l w) := by
 have hM : parM l = _ := if_neg (by omega)
 have HM := Lib.hid hM
 have hkb : 1 < w.heap.size + 1 := Nat.lt_succ_of_lt hk.1
 have HC := Lib.hid (choice_full (w.heap.size + 1) l (l.length + 1) 0 (by omega))
 obtain ⟨R, hR⟩ : ∃ R, choM l (l.length + 1) 0 = R := ⟨_, rfl⟩
 rw [hR] at HC HM
 have HF := Lib.hid fun (k e : Nat) W (hW : ZS (w.heap.size + 1) l k e W) => zfail (w.heap.size + 1) l k e 1 W hW
 have z0 : decide ((400 : Int) < (l.length : Int)) = false := decide_eq_false (by omega)
 have y0 : decide (400 < l.length) = false := decide_eq_false (by omega)
 have hb1 := al_below w (.cells #[.int .i64 0, .slice none 0 0, .string ⟨#[]⟩, .slice none 0 0, .int .i64 0, .int .i64 0] 33)
 have hb2 := al_below (w.alloc (.cells #[.int .i64 0, .slice none 0 0, .string ⟨#[]⟩, .slice none 0 0, .int .i64 0, .int .i64 0] 33)) (.cells #[.string ⟨l.toArray⟩, .int .i64 0, .int .i64 0] 103)
 have HB0 := Lib.hid (hb1.trans (hb2.mono hb1.size))
 have HS0 : Hid (ZS (w.heap.size + 1) l 0 0 ((w.alloc (.cells #[.int .i64 0, .slice none 0 0, .string ⟨#[]⟩, .slice none 0 0, .int .i64 0, .int .i64 0] 33)).alloc (.cells #[.string ⟨l.toArray⟩, .int .i64 0, .int .i64 0] 103))) := Lib.hid ⟨by
   have := BK.new (w.alloc (.cells #[.int .i64 0, .slice none 0 0, .string ⟨#[]⟩, .slice none 0 0, .int .i64 0, .int .i64 0] 33)) #[.string ⟨l.toArray⟩, .int .i64 0, .int .i64 0] 103 (psE l 0 0) 3 (fun i hi => by
    match i, hi with
    | 0, _ => rfl
    | 1, _ => rfl
    | 2, _ => rfl)
   unfold PSt
   simpa using this, Nat.zero_le _, by omega, hk.below (HB0.out), hkb⟩
 have HK0 := Lib.hid ((nE_new w 0 none 0 0 [] none 0 0 0 0).on hb2 (by simp))
 clear hk hb1 hb2 hkb hM hR
 go_enter Tryz.func27, Tryz.ntmps27
 go_wp2_with fail
 refine (HC.out _ HS0.out).mono ?_
 rintro e9 w1 ⟨v, t, j, e, rfl, hT, hq, hf⟩
 have HB1 := Lib.hid (hq.ap.below HB0.out (Nat.le_succ _))
 have HK1 := Lib.hid (HK0.out.go hq.ap (Nat.ne_of_lt (Nat.lt_succ_self _)))
 have HS1 := Lib.hid hq.ps
 have HT1 := Lib.hid (hT.up (B := w.heap.size) (by simp; omega))
 have HFT := Lib.hid (fits_cases hf)
 obtain ⟨op, rs, nm, kids, mn, mx, ra, rc, a, cc, ht, rfl, _⟩ := hT.open
 have HLT := Lib.hid HK1.out.lt
 clear hT hq ht HB0 HK0 HS0 hf
 have hal := al_below w1 (.cells #[.int .i64 op, .slice ra rs.length rc, .string ⟨nm.toArray⟩, .slice a kids.length cc, .int .i64 mn, .int .i64 mx] 33)
 have HS2 := Lib.hid (HS1.out.on hal HS1.out.st.lt)
 have HT2 := Lib.hid (HT1.out.low hal)
 have HK2 := Lib.hid (HK1.out.on hal HK1.out.lt)
 have HQ2 := Lib.hid (nE_new w1 op ra rs.length rc nm a kids.length cc mn mx)
 have HB2 := Lib.hid (HB1.out.trans (hal.mono HB1.out.size))
 have c1 := HS2.out.c1
 have c2 := HS2.out.c2
 have hjl := HS2.out.le
 clear hal HB1 HK1 HS1 HT1
 by_cases hj : j < l.length
 ·have z1 : decide ((j : Int) < (l.length : Int)) = true := decide_eq_true (by omega)
  have y1 : decide (j < l.length) = true := decide_eq_true hj
  go_wp2_with fail
  clear c1 c2
  refine (HF.out _ _ _ HS2.out).mono ?_
  rintro e9 w2 ⟨rfl, hq⟩
  obtain ⟨E, hE⟩ : ∃ E, (if e = 0 then 1 else e) = E := ⟨_, rfl⟩
  rw [hE] at hq
  have hE0 : E ≠ 0 := by rw [← hE]; split <;> omega
  have HME : Hid (parM l = (none, j, E)) := Lib.hid (by
   rw [HM.out]
   rcases HFT.out with ⟨hm, he⟩ | ⟨hm, he⟩
   ·rw [hm]
    rw [if_pos he] at hE
    simp only [if_pos hj, hE]
   ·rw [hm]
    rw [if_neg he] at hE
    rw [hE])
  have HS3 := Lib.hid hq.ps
  have HK3 := Lib.hid (HK2.out.go hq.ap (Nat.ne_of_lt (Nat.lt_succ_self _)))
  have HB3 := Lib.hid (hq.ap.below HB2.out (Nat.le_succ _))
  clear hq hE
  have z2 : ((E : Int) == 0) = false := by rw [beq_eq_false_iff_ne]; omega
  have z3 : ((E : Int) != 0) = true := by simp; omega
  have c1 := HS3.out.c1
  have c2 := HS3.out.c2
  obtain ⟨k0, k1, k2, k3, k4, k5, f0, f1, f2, f3, f4, f5⟩ := bk6 HK3.out
  go_wp2_with fail
  go_region
  go_wp2_with fail
  rw [nest6, drew_setL]
  exact par_ret (P := 2) rfl HK3.out.dr (by rfl) (by rw [HME.out]; rfl) (by rw [HME.out]; rfl) zero_ng HB3.out.drew ⟨fun h => by rw [HME.out] at h; exact absurd h hE0, fun _ => rfl⟩
 ·have z1 : decide ((j : Int) < (l.length : Int)) = false := decide_eq_false (by omega)
  have y1 : decide (j < l.length) = false := decide_eq_false hj
  have HJL := Lib.hid (show j = l.length by omega)
  by_cases he : e = 0
  ·subst he
   have HR := Lib.hid (show R = .ok (t, j) by rcases HFT.out with ⟨hm, _⟩ | ⟨_, he⟩; (exact hm); (exact absurd rfl he))
   have c2 : (w1.alloc (.cells #[.int .i64 op, .slice ra rs.length rc, .string ⟨nm.toArray⟩, .slice a kids.length cc, .int .i64 mn, .int .i64 mx] 33)).cell? ⟨w.heap.size + 1, 2, none⟩ = some (.int .i64 0) := HS2.out.c2
   obtain ⟨C, hC⟩ : ∃ C, ckE t = C := ⟨_, rfl⟩
   have HMC : Hid (parM l = if C = 0 then (some t, l.length, 0) else (none, l.length, C)) := Lib.hid (by
    rw [HM.out, HR.out]
    simp only [if_neg hj, hC])
   have HCK := Lib.hid fun W (hW : Kinds W) v (hv : NAt W t v) => check_any t v W hv hW
   rw [hC] at HCK
   clear hC HM HF
   go_wp2_with fail
   refine (HCK.out _ HS2.out.kd _ HT2.out.at).mono ?_
   rintro e9 w2 ⟨rfl, hb⟩
   have HT3 := Lib.hid (HT2.out.low hb)
   have HK3 := Lib.hid (HK2.out.on hb HK2.out.lt)
   have HQ3 := Lib.hid (HQ2.out.on hb HQ2.out.lt)
   have HB3 := Lib.hid (HB2.out.trans (hb.mono HB2.out.size))
   clear hb HT2 HK2 HS2 HB2 c1 c2
   obtain ⟨q0, q1, q2, q3, q4, q5⟩ := bkn HQ3.out
   obtain ⟨q, hq⟩ : ∃ q, w1.heap.size = q := ⟨_, rfl⟩
   have hqw : q ≠ w.heap.size := by have := HLT.out; omega
   rw [hq] at q0 q1 q2 q3 q4 q5 ⊢
   obtain ⟨k0, k1, k2, k3, k4, k5, f0, f1, f2, f3, f4, f5⟩ := bk6 HK3.out
   by_cases hC0 : C = 0
   ·subst hC0
    go_wp2_with fail
    rw [nest6 w2]
    exact par_ret (P := 2) rfl HK3.out (by rfl) (by rw [HMC.out]; rfl) (by rw [HMC.out]; rfl) HT3.out HB3.out ⟨fun _ => by rw [HMC.out]; rfl, fun h => absurd (by rw [HMC.out]; rfl) h⟩
   ·have z2 : ((C : Int) == 0) = false := by rw [beq_eq_false_iff_ne]; omega
    have z3 : ((C : Int) != 0) = true := by simp; omega
    have HCN := Lib.hid hC0
    clear hC0
    go_wp2_with fail
    rw [nest6 w2]
    exact par_ret (P := 2) rfl HK3.out (by rfl) (by rw [HMC.out, if_neg HCN.out]; rfl) (by rw [HMC.out, if_neg HCN.out]; rfl) zero_ng HB3.out ⟨fun h => by rw [HMC.out, if_neg HCN.out] at h; exact absurd h HCN.out, fun _ => rfl⟩
  ·have hE0 := he
   have HME : Hid (parM l = (none, j, e)) := Lib.hid (by
    rw [HM.out]
    rcases HFT.out with ⟨_, h⟩ | ⟨hm, _⟩
    ·exact absurd h he
    ·rw [hm])
   have z2 : ((e : Int) == 0) = false := by rw [beq_eq_false_iff_ne]; omega
   have z3 : ((e : Int) != 0) = true := by simp; omega
   have c1 := HS2.out.c1
   have c2 := HS2.out.c2
   obtain ⟨k0, k1, k2, k3, k4, k5, f0, f1, f2, f3, f4, f5⟩ := bk6 HK2.out
   go_wp2_with fail
   go_region
   go_wp2_with fail
   rw [nest6, drew_setL]
   exact par_ret (P := 2) rfl HK2.out.dr (by rfl) (by rw [HME.out]; rfl) (by rw [HME.out]; rfl) zero_ng HB2.out.drew ⟨fun h => by rw [HME.out] at h; exact absurd h hE0, fun _ => rfl⟩
theorem parse_full (l : List UInt8) (w : World) (hk : Kinds w) : Calls Tryz.prog 27 #[.string ⟨l.toArray⟩] w (ParY l w) := by
 rcases Nat.lt_or_ge 400 l.length with h | h
 ·exact parse_long l h w
 ·exact parse_short l h w hk
theorem parse_any (l : List UInt8) (w : World) (hk : Kinds w) : Calls Tryz.prog 27 #[.string ⟨l.toArray⟩] w (ParZ l w) := (parse_full l w hk).mono fun _ _ h => h.z
end Go.Proofs.YtmpbjaodgajnfaaGreatDoor
namespace Go.Proofs.YtmpbjaodgajnfaaGreatDoor
open Go.RowKit
theorem infoEvB : (Tryz.prog.info? 44).map (fun i => (i.zero, i.size, i.bytes)) = some (some (.agg (evC ev0)), 10, 128) := by kernel_rfl
def AppP (t : NT) (ds : List Evd) (F : Nat → Prop) (w : World) (en : Ending) (w' : World) : Prop := ∃ xs v, en = .returned (.tuple #[v, .int .i64 0]) ∧ OR w.heap.size 44 10 EvR w' xs v ∧ xs.length = ds.length ∧
 (∀ i (h : i < ds.length) (h' : i < xs.length), EvO (fun b => F b ∨ w.heap.size ≤ b) t w' ds[i] xs[i]) ∧ Below w.heap.size w w'
set_option maxHeartbeats 16000000 in
set_option maxRecDepth 1000000 in
theorem apply_any {K : List Fd → Nat → Prop} (HI : InsLaw K) (s : List UInt8) (t : NT) (ds : List Evd) (lv : Value) {F : Nat → Prop} (w : World) (hk : Kinds w) (hp : parM s = (some t, s.length, 0)) (hck : ckE t = 0) (hco : Mt.costN t ≤ 4000)
  (hl : RW F 10 EvR w (ds.map (·.1)) lv) (hd : ∀ i (h : i < ds.length), EvI F t K w ds[i]) (hn : ds.length ≤ 1000) :
  Calls Tryz.prog 11 #[.string ⟨s.toArray⟩, lv] w (AppP t ds F w) := by
 have HP := Lib.hid (parse_any s w hk)
 obtain ⟨la, lc, rfl, hm, hel⟩ := hl
 have hlm : (ds.map (·.1)).length = ds.length := List.length_map _
 have hel2 : 0 < ds.length → ∃ blk off, la = some ⟨blk, off, none⟩ ∧ blk < w.heap.size ∧ ∀ i (h : i < ds.length), w.rangeAt blk (off + i * 10) (evC ds[i].1).toList := fun h0 => by
  obtain ⟨blk, off, h1, h2, _, h4⟩ := hel (by rw [hlm]; exact h0)
  refine ⟨blk, off, h1, h2, fun i hi j v hv => ?_⟩
  obtain ⟨us, hu, hc, hr⟩ := h4 i (by rw [hlm]; exact hi)
  unfold EvR at hr
  rw [List.getElem_map] at hr
  have hj : j < 10 := by rw [← hu, hr]; exact (List.getElem?_eq_some_iff.1 hv).1
  rw [hc j hj, hr, hv]
 rw [hlm]
 have HK := Lib.hid hk
 have HD := Lib.hid hd
 have HEL := Lib.hid hel2
 have HCK := Lib.hid hck
 have HCO := Lib.hid hco
 have HPM := Lib.hid hp
 obtain ⟨n, hdn⟩ : ∃ n, ds.length = n := ⟨_, rfl⟩
 rw [hdn] at hn ⊢
 have HDN := Lib.hid hdn
 clear hk hd hel hel2 hlm hck hco hp hm hdn
 go_enter Tryz.func11, Tryz.ntmps11
 go_wp2_with fail
 refine HP.out.mono ?_
 rintro e w2 ⟨v, t2, he, hT, hb, ht⟩
 rw [HPM.out] at he ht
 dsimp only at he
 obtain rfl : t = t2 := Option.some.inj (ht rfl)
 subst he
 have hN := NG.at _ _ hT
 have HB := Lib.hid hb
 obtain ⟨op, rs, nm, kids, mn, mx, ra, rc, a, c, e0, rfl, _⟩ := hN.open
 obtain ⟨nk, hnk⟩ : ∃ n, kids.length = n := ⟨_, rfl⟩
 obtain ⟨nr, hnr⟩ : ∃ n, rs.length = n := ⟨_, rfl⟩
 rw [hnk, hnr] at hN ⊢
 obtain ⟨Wa, hWa⟩ : ∃ Wa, w2.alloc (.cells #[.int .i64 op, .slice ra nr rc, .string ⟨nm.toArray⟩, .slice a nk c, .int .i64 mn, .int .i64 mx] 33) = Wa := ⟨_, rfl⟩
 have hba : Below w2.heap.size w2 Wa := by rw [← hWa]; exact (Below.refl _ _).alloc (Nat.le_refl _) _
 have hsa : Wa.heap.size = w2.heap.size + 1 := by rw [← hWa]; exact Deep.nblk_alloc _ _
 have hbx : Wa.heap[w2.heap.size]? = some (.cells #[.int .i64 op, .slice ra nr rc, .string ⟨nm.toArray⟩, .slice a nk c, .int .i64 mn, .int .i64 mx] 33 (0, 0)) := by rw [← hWa]; exact Deep.blk_alloc_new w2 _
 clear hT hb ht e0 hnk hnr HPM HP
 have hbwa : Below w.heap.size w Wa := HB.out.trans (hba.mono HB.out.size)
 have HBA := Lib.hid hbwa
 have HN := Lib.hid (NAt.later hba _ _ hN)
 have HBX := Lib.hid hbx
 have HSA := Lib.hid (And.intro hsa HB.out.size)
 obtain ⟨fsv, hev9⟩ := undEv2
 have hisz := (zero_of_info infoEv).2
 have HU := Lib.hid hev9
 have HIS := Lib.hid hisz
 clear hbwa hba hN hbx hsa hev9 hisz HB
 go_wp2_with fail
 go_loopw [9, 23] (fun v i wr => ∃ (k : Nat) (xs : List Ev), i = .int .i64 (k : Int) ∧ k ≤ n ∧ Hid (xs.length = k) ∧ Hid (OR Wa.heap.size 44 10 EvR wr xs v) ∧ Hid (∀ i (h : i < xs.length) (h' : i < ds.length), EvO (FF (fun b => F b ∨ w.heap.size ≤ b) v) t wr ds[i] xs[i]) ∧ Hid (Below Wa.heap.size Wa wr)) (fun _ i _ => n - (intOf i).toNat)
 case atStart => exact ⟨0, [], rfl, Nat.zero_le _, Lib.hid rfl, Lib.hid OR.nil, Lib.hid (fun i h => absurd h (by simp)), Lib.hid (Below.refl _ _)⟩
 case round =>
  obtain ⟨k, xs, rfl, hk2, HXL, HOR, HXO, HB⟩ := hrel
  have hwa : w.heap.size < Wa.heap.size := by have := HSA.out; omega
  have hwr : Wa.heap.size ≤ wr.heap.size := HB.out.size
  by_cases hlt : k < n
  ·obtain ⟨blk, off, ha, hbl, hcs⟩ := HEL.out (by rw [HDN.out]; omega)
   subst ha
   have hbw : Below w.heap.size w wr := HBA.out.trans (HB.out.mono (by omega))
   have hra : wr.rangeAt blk (off + k * 10) (evC (ds[k]'(by rw [HDN.out]; exact hlt)).1).toList := fun j v hv => (hbw.cell (p := ⟨blk, off + k * 10 + j, none⟩) hbl).trans (hcs k (by rw [HDN.out]; exact hlt) j v hv)
   have hei : EvI (fun b => F b ∧ b < w.heap.size) t K wr (ds[k]'(by rw [HDN.out]; exact hlt)) := (HD.out k (by rw [HDN.out]; exact hlt)).go ⟨hbw.size, fun j hF hj => ⟨⟨hF, hj⟩, hbw.block j hj⟩⟩
   obtain ⟨d, hd⟩ : ∃ d, ds[k]'(by rw [HDN.out]; exact hlt) = d := ⟨_, rfl⟩
   rw [hd] at hra hei
   have HDK := Lib.hid hd
   clear hcs hd
   obtain ⟨⟨x0, x1, x2, x3, lv, x5, x6, x7, x8, fv⟩, ls, fs⟩ := d
   obtain ⟨a4, c4, hlv, _⟩ := hei.lines
   obtain ⟨a9, c9, hfv, _⟩ := hei.flds
   simp only at hlv hfv
   subst hlv hfv
   obtain ⟨n4, h4⟩ : ∃ q, ls.length = q := ⟨_, rfl⟩
   obtain ⟨n9, h9⟩ : ∃ q, fs.length = q := ⟨_, rfl⟩
   rw [h4, h9] at hra hei HDK
   obtain ⟨W1, hW1⟩ : ∃ W1, wr.alloc (.cells #[.int .i64 x0, .int .i64 x1, .int .i64 x2, .int .i64 x3, .slice a4 n4 c4, .int .i64 x5, .int .i64 x6, .string ⟨x7.toArray⟩, .string ⟨x8.toArray⟩, .slice a9 n9 c9] 44) = W1 := ⟨_, rfl⟩
   have s1 : W1.heap.size = wr.heap.size + 1 := by rw [← hW1]; exact Deep.nblk_alloc _ _
   have b1 : Below wr.heap.size wr W1 := by rw [← hW1]; exact (Below.refl _ _).alloc (Nat.le_refl _) _
   have xx1 : W1.heap[wr.heap.size]? = some (.cells #[.int .i64 x0, .int .i64 x1, .int .i64 x2, .int .i64 x3, .slice a4 n4 c4, .int .i64 x5, .int .i64 x6, .string ⟨x7.toArray⟩, .string ⟨x8.toArray⟩, .slice a9 n9 c9] 44 (0, 0)) := by rw [← hW1]; exact Deep.blk_alloc_new _ _
   have hb1a : Below Wa.heap.size Wa W1 := HB.out.trans (b1.mono hwr)
   obtain ⟨j0, j1, j2, j3, j4, j5⟩ := box6 ((hb1a.block _ (by have := HSA.out.1; omega)).trans HBX.out)
   have hei1 := hei.go (F' := fun b => F b ∧ b < w.heap.size) ⟨b1.size, fun j hF hj => ⟨hF, b1.block j hj⟩⟩
   have hb1w : Below w.heap.size w W1 := HBA.out.trans (hb1a.mono (by omega))
   have HF := Lib.hid (fields_any HI t _ ⟨x0, x1, x2, x3, .slice a4 n4 c4, x5, x6, x7, x8, .slice a9 n9 c9⟩ ls fs W1 (NAt.later hb1a _ _ HN.out) (HK.out.below hb1w) HCK.out HCO.out hei1.lines hei1.flds hei1.nil hei1.nl hei1.nt hei1.nf hei1.srt hei1.grp hei1.ins)
   have HRA : Hid (wr.rangeAt blk (off + k * 10) [.int .i64 x0, .int .i64 x1, .int .i64 x2, .int .i64 x3, .slice a4 n4 c4, .int .i64 x5, .int .i64 x6, .string ⟨x7.toArray⟩, .string ⟨x8.toArray⟩, .slice a9 n9 c9]) := Lib.hid hra
   have HXX := Lib.hid xx1
   have HB1 := Lib.hid b1
   have HSZ := Lib.hid (And.intro hwa hwr)
   clear hra hei xx1 b1 hb1a hei1 hb1w h4 h9 hbw hwa hwr
   go_wp2_with (first
    | (refine wpList_load_mid rfl 44 _ rfl blk (off + k * 10) rfl [.int .i64 x0, .int .i64 x1, .int .i64 x2, .int .i64 x3, .slice a4 n4 c4, .int .i64 x5, .int .i64 x6, .string ⟨x7.toArray⟩, .string ⟨x8.toArray⟩, .slice a9 n9 c9] _ HRA.out HU.out rfl HIS.out ?_)
    | (refine wpList_load_row rfl 44 _ rfl wr.heap.size rfl 44 #[.int .i64 x0, .int .i64 x1, .int .i64 x2, .int .i64 x3, .slice a4 n4 c4, .int .i64 x5, .int .i64 x6, .string ⟨x7.toArray⟩, .string ⟨x8.toArray⟩, .slice a9 n9 c9] (0, 0) _ HXX.out HU.out rfl HIS.out ?_))
   refine HF.out.mono ?_
   rintro en w3 ⟨⟨fs', fv', he, hrw, hz, hR⟩, hb3⟩
   have hrw2 := hrw
   obtain ⟨b9, d9, hfv9, _⟩ := hrw2
   subst hfv9
   obtain ⟨m9, h9⟩ : ∃ q, fs'.length = q := ⟨_, rfl⟩
   rw [h9] at he hrw hz
   obtain rfl : en = .returned (.agg #[.int .i64 x0, .int .i64 x1, .int .i64 x2, .int .i64 x3, .slice a4 n4 c4, .int .i64 x5, .int .i64 x6, .string ⟨x7.toArray⟩, .string ⟨x8.toArray⟩, .slice b9 m9 d9]) := he
   obtain ⟨i0, hi, hz0, hz1, hz2⟩ := info_parts infoEvB
   obtain ⟨cl, hown, hpush⟩ := HOR.out.cells
   rw [HXL.out] at hown hpush
   have hb13 : Below wr.heap.size wr w3 := HB1.out.trans (hb3.mono HB1.out.size)
   have hs13 : wr.heap.size + 1 ≤ w3.heap.size := by rw [← s1]; exact hb3.size
   obtain ⟨Wb, hWb⟩ : ∃ Wb, w3.alloc (.cells #[.int .i64 x0, .int .i64 x1, .int .i64 x2, .int .i64 x3, .slice a4 n4 c4, .int .i64 x5, .int .i64 x6, .string ⟨x7.toArray⟩, .string ⟨x8.toArray⟩, .slice b9 m9 d9] 44) = Wb := ⟨_, rfl⟩
   have sb : Wb.heap.size = w3.heap.size + 1 := by rw [← hWb, Deep.nblk_alloc]
   have bb : Below w3.heap.size w3 Wb := by rw [← hWb]; exact (Below.refl _ _).alloc (Nat.le_refl _) _
   have xb : Wb.heap[w3.heap.size]? = some (.cells #[.int .i64 x0, .int .i64 x1, .int .i64 x2, .int .i64 x3, .slice a4 n4 c4, .int .i64 x5, .int .i64 x6, .string ⟨x7.toArray⟩, .string ⟨x8.toArray⟩, .slice b9 m9 d9] 44 (0, 0)) := by rw [← hWb]; exact Deep.blk_alloc_new _ _
   have hbb : Below wr.heap.size wr Wb := hb13.trans (bb.mono hb13.size)
   have hownb := own_block hown fun b hb => hbb.block b (own_lt hown hb)
   have hwa := HSZ.out.1
   have hwr := HSZ.out.2
   obtain ⟨v', We, hrun, hown2, hgr, _, hnew⟩ := run_append_own2 (P := Tryz.prog) (w := Wb) Wa.heap.size 26 26 44 i0 (.agg (evC ev0)) 10 128 Tryz.underlying26 hi hz0 hz1 hz2 rfl (by decide) u9 k cl hownb ⟨w3.heap.size, 0, none⟩ 1 1 [.int .i64 x0, .int .i64 x1, .int .i64 x2, .int .i64 x3, .slice a4 n4 c4, .int .i64 x5, .int .i64 x6, .string ⟨x7.toArray⟩, .string ⟨x8.toArray⟩, .slice b9 m9 d9] rfl (World.news_of_block xb) (by intro u hu; simp only [List.mem_cons, List.not_mem_nil, or_false] at hu; rcases hu with rfl | rfl | rfl | rfl | rfl | rfl | rfl | rfl | rfl | rfl <;> rfl) (by unfold maxLen; omega) (by omega) (by omega)
   have hblk : ∀ b, b < w3.heap.size → u9.ownBlock ≠ some b → We.heap[b]? = w3.heap[b]? := fun b hb hne => (hgr.block b (by omega) (fun e => hne e.symm)).trans (bb.block b hb)
   have HOR2 : Hid (OR Wa.heap.size 44 10 EvR We (xs ++ [⟨x0, x1, x2, x3, .slice a4 n4 c4, x5, x6, x7, x8, .slice b9 m9 d9⟩]) v') := Lib.hid (hpush EvR We ⟨x0, x1, x2, x3, .slice a4 n4 c4, x5, x6, x7, x8, .slice b9 m9 d9⟩ [.int .i64 x0, .int .i64 x1, .int .i64 x2, .int .i64 x3, .slice a4 n4 c4, .int .i64 x5, .int .i64 x6, .string ⟨x7.toArray⟩, .string ⟨x8.toArray⟩, .slice b9 m9 d9] v' (fun _ _ h => h) rfl rfl (by omega) hown2)
   have HBE : Hid (Below Wa.heap.size Wa We) := Lib.hid ((HB.out.trans (hbb.mono hwr)).grown hgr (by omega) (fun b hb => (HOR.out.lt hb).1))
   have HXE : Hid (∀ i (h : i < (xs ++ [(⟨x0, x1, x2, x3, .slice a4 n4 c4, x5, x6, x7, x8, .slice b9 m9 d9⟩ : Ev)]).length) (h' : i < ds.length), EvO (FF (fun b => F b ∨ w.heap.size ≤ b) v') t We ds[i] ((xs ++ [(⟨x0, x1, x2, x3, .slice a4 n4 c4, x5, x6, x7, x8, .slice b9 m9 d9⟩ : Ev)])[i])) := Lib.hid (fun i h h' => by
    rcases Nat.lt_or_ge i xs.length with hi | hi
    ·rw [List.getElem_append_left hi]
     refine (HXO.out i hi h').go ⟨by have := hgr.size; omega, fun b hF hb => ⟨⟨hF.1, fun e => ?_⟩, (hblk b (by omega) hF.2).trans (hb13.block b hb)⟩⟩
     rcases hnew b e with e | e
     ·exact hF.2 e
     ·omega
    ·have hl := HXL.out
     simp only [List.length_append, List.length_singleton] at h
     obtain rfl : i = xs.length := by omega
     rw [List.getElem_append_right (Nat.le_refl _)]
     simp only [Nat.sub_self, List.getElem_cons_zero]
     have hdk := HDK.out
     simp only [← hl] at hdk
     rw [hdk]
     refine ⟨fs', _, rfl, hrw.go ⟨by have := hgr.size; omega, fun b hF hb => ?_⟩ (fun _ _ h => h), hz, hR⟩
     have hne : u9.ownBlock ≠ some b := fun e => by
      have := HOR.out.lt e
      rcases hF with hF | hF
      ·omega
      ·omega
     refine ⟨⟨?_, fun e => ?_⟩, hblk b hb hne⟩
     ·rcases hF with hF | hF
      ·exact .inl hF.1
      ·exact .inr (by omega)
     ·rcases hnew b e with e | e
      ·exact hne e
      ·omega)
   have HXL2 : Hid ((xs ++ [(⟨x0, x1, x2, x3, .slice a4 n4 c4, x5, x6, x7, x8, .slice b9 m9 d9⟩ : Ev)]).length = k + 1) := Lib.hid (by rw [List.length_append, HXL.out]; rfl)
   have i1 : (k : Int) < (n : Int) := by omega
   clear hi hz0 hz1 hz2 hown hpush hownb hown2 hgr hnew xb bb sb hbb hblk hrw hz hR hb3 hb13 h9 hs13 hwa hwr
   go_wp2_with (at_builtin; refine wpList_append_run rfl _ _ _ rfl _ _ _ rfl rfl hrun ?_)
   go_roundw
   case rel => exact ⟨k + 1, _, by go_num, by omega, HXL2, HOR2, HXE, HBE⟩
   case measure => simp [intOf]; omega
  ·obtain rfl : k = n := by omega
   obtain ⟨va, vc, hv, _⟩ := HOR.out.rw (F := fun _ => True) (fun _ _ => trivial)
   rw [HXL.out] at hv
   subst hv
   have HAP : Hid (AppP t ds F w (.returned (.tuple #[.slice va k vc, .int .i64 0])) wr) := Lib.hid ⟨xs, _, rfl, HOR.out.own (fun _ _ => rfl) (fun _ _ h => h) _ (by omega), by rw [HXL.out, HDN.out], fun i h h' => (HXO.out i h' h).go ⟨Nat.le_refl _, fun b hF _ => ⟨hF.1, rfl⟩⟩, HBA.out.trans (HB.out.mono (by omega))⟩
   go_wp2_with fail
   go_ret2
   exact HAP.out
end Go.Proofs.YtmpbjaodgajnfaaGreatDoor

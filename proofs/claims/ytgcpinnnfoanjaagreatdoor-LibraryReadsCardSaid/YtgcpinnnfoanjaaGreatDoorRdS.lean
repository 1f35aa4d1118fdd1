/-
 Joined: RpN, RpO.
-/
import Derived.Test.YtgcpinnnfoanjaaGreatDoorRdR
import Derived.Test.YtgcpinnnfoanjaaGreatDoorRdP
import Derived.Test.YtgcpinnnfoanjaaGreatDoorRdK
namespace Go.Proofs.YtgcpinnnfoanjaaGreatDoor
open Go.RowKit
theorem capN_leq (q : List UInt8) : capN q ≤ q.length := by
 unfold capN
 split
 ·exact nlen_le q
 ·exact Nat.zero_le _
theorem capN_colon {l : List UInt8} {i : Nat} (h : 0 < capN (l.drop i)) : i + capN (l.drop i) < l.length := by
 unfold capN at h ⊢
 split at h
 ·next hc =>
  rw [if_pos hc]
  have h58 := hc.2
  rw [at_drop] at h58
  exact Asc.at_lt (by omega)
 ·omega
theorem capN_32 (q : List UInt8) : capN q ≤ 32 := by
 unfold capN
 split
 ·cases q with
  | nil => simp [nlen]
  | cons c t =>
   rw [nlen]
   split
   ·split <;> omega
   ·omega
 ·omega
theorem RN.kid2 {w : World} {l : List UInt8} {i e bad q : Nat} {t : NT} {W : World} {a b c d f g x y z u v s : Value} (h : RN w l i e bad W) (hk : KbA q W a b c d f g) (hq : w.heap.size + 1 + 1 < q) (hT : NG (fun k => q < k) W t (.agg #[x, y, z, u, v, s])) (j' e' bad' : Nat) : RN w l j' e' bad' (stK q ((((W.setCell ⟨w.heap.size, 0, none⟩ (.string ⟨l.toArray⟩)).setCell ⟨w.heap.size, 1, none⟩ (.int .i64 (j' : Int))).setCell ⟨w.heap.size, 2, none⟩ (.int .i64 (e' : Int))).setCell ⟨w.heap.size, 3, none⟩ (.int .i64 (bad' : Int))) x y z u v s) ∧
  KbA q (stK q ((((W.setCell ⟨w.heap.size, 0, none⟩ (.string ⟨l.toArray⟩)).setCell ⟨w.heap.size, 1, none⟩ (.int .i64 (j' : Int))).setCell ⟨w.heap.size, 2, none⟩ (.int .i64 (e' : Int))).setCell ⟨w.heap.size, 3, none⟩ (.int .i64 (bad' : Int))) x y z u v s) x y z u v s ∧
  NG (fun k => w.heap.size + 1 + 1 < k) (stK q ((((W.setCell ⟨w.heap.size, 0, none⟩ (.string ⟨l.toArray⟩)).setCell ⟨w.heap.size, 1, none⟩ (.int .i64 (j' : Int))).setCell ⟨w.heap.size, 2, none⟩ (.int .i64 (e' : Int))).setCell ⟨w.heap.size, 3, none⟩ (.int .i64 (bad' : Int))) x y z u v s) t (.agg #[x, y, z, u, v, s]) := by
 have hp := h.put j' e' bad'
 have hkn := hk.nest (b := w.heap.size) (a := .string ⟨l.toArray⟩) (c := .int .i64 (j' : Int)) (d := .int .i64 (e' : Int)) (e := .int .i64 (bad' : Int)) (by omega)
 obtain ⟨P, hP⟩ : ∃ P, ((((W.setCell ⟨w.heap.size, 0, none⟩ (.string ⟨l.toArray⟩)).setCell ⟨w.heap.size, 1, none⟩ (.int .i64 (j' : Int))).setCell ⟨w.heap.size, 2, none⟩ (.int .i64 (e' : Int))).setCell ⟨w.heap.size, 3, none⟩ (.int .i64 (bad' : Int))) = P := ⟨_, rfl⟩
 have hsz : P.heap.size = W.heap.size := by rw [← hP]; simp
 have hkk : ∀ k, k ≠ w.heap.size → P.heap[k]? = W.heap[k]? := fun k hk => by
  rw [← hP, heap_setCell_other _ _ _ _ (by simpa using hk), heap_setCell_other _ _ _ _ (by simpa using hk), heap_setCell_other _ _ _ _ (by simpa using hk), heap_setCell_other _ _ _ _ (by simpa using hk)]
 rw [hP] at hp hkn ⊢
 exact ⟨hp.stk hq _ _ _ _ _ _, hkn.st _ _ _ _ _ _, NG.go ⟨by rw [stK_size, hsz]; exact Nat.le_refl _, fun k h1 h2 => ⟨Nat.lt_trans hq h1, (stK_keep q P _ _ _ _ _ _ (Nat.ne_of_gt h1)).trans (hkk k (by omega))⟩⟩ _ _ hT⟩
theorem atomM_grp {ch : Nat → Out NT} {l : List UInt8} {i : Nat} (h : Asc.at_ l i = 40) : atomM ch l i = grpM ch l (i + 1) := by
 unfold atomM
 rw [if_pos h]
set_option maxHeartbeats 16000000 in
set_option maxRecDepth 1000000 in
theorem ratom_grp (l : List UInt8) (ch : Nat → Out NT) (i : Nat) (hl : l.length ≤ 1000) (hi : i < l.length) (w : World) (hc : pk l i = 40) (hch : RdR 58 l (grpI l (i + 1)) (ch (grpI l (i + 1)))) : Calls Tryz.prog 114 #[.agg #[.string ⟨l.toArray⟩, .int .i64 (i : Int), .int .i64 0, .int .i64 0]] w (RfP l (atomM ch l i) w) := by
 have hv := (zero_of_info infoQ).1
 simp only [← setA_false] at hv
 obtain ⟨M, hM⟩ : ∃ M, atomM ch l i = M := ⟨_, rfl⟩
 have HM := Lib.hid hM
 rw [hM]
 clear hM
 have HN0 : Hid (RN w l i 0 0 (((w.alloc (.cells #[.string ⟨l.toArray⟩, .int .i64 (i : Int), .int .i64 0, .int .i64 0] 111)).alloc (.cells #[.string ⟨#[]⟩, .int .i64 0, .int .i64 0, .int .i64 0] 111)).alloc (.cells #[.int .i64 0, .slice none 0 0, .string ⟨#[]⟩, .slice none 0 0, .int .i64 0, .int .i64 0] 38))) := Lib.hid (RN.start w l i 0 0)
 have HPK := Lib.hid fun W => rpeek0 l i W
 have hw1 : IntKind.i64.wrap ((i : Int) + 1) = (i : Int) + 1 := IntWalk.i64_in _ (by omega)
 have zz1 : decide ((l.length : Int) ≤ (i : Int)) = false := decide_eq_false (by omega)
 have yy1 : decide (l.length ≤ i) = false := decide_eq_false (by omega)
 have HAT := Lib.hid (pk_in hi).symm
 have HLE : Hid (i + 1 ≤ l.length) := Lib.hid hi
 rw [hc] at HAT HPK
 clear hc
 obtain ⟨T, hT⟩ : ∃ T, capN (l.drop (i + 1)) = T := ⟨_, rfl⟩
 have hTl : i + 1 + T ≤ l.length := by have := capN_leq (l.drop (i + 1)); rw [List.length_drop] at this; omega
 have HTC : Hid (0 < T → i + 1 + T < l.length) := Lib.hid (fun h => by rw [← hT] at h ⊢; exact capN_colon h)
 have hT32 : T ≤ 32 := by rw [← hT]; exact capN_32 _
 obtain ⟨nm, hnm⟩ : ∃ nm, Asc.seg l (i + 1) (i + 1 + T) = nm := ⟨_, rfl⟩
 have HNL : Hid (nm.length ≤ 1000) := Lib.hid (by rw [← hnm, Asc.seg_length l hTl]; omega)
 obtain ⟨gi, hgi⟩ : ∃ gi, grpI l (i + 1) = gi := ⟨_, rfl⟩
 have HGI : Hid (gi = if 0 < T then i + 1 + T + 1 else i + 1) := Lib.hid (by rw [← hgi]; unfold grpI; rw [hT])
 have HMG : Hid (M = match ch gi with | .error x => .error x | .ok (t, j) => if Asc.at_ l j = 41 then .ok (if 0 < T then .node 5 [] nm [t] 0 0 else t, j + 1) else .error (j, 1)) := Lib.hid (by rw [← HM.out, atomM_grp HAT.out]; unfold grpM; rw [hgi, hT, hnm]; cases ch gi <;> rfl)
 have HCH := Lib.hid (hch)
 rw [hgi] at HCH
 have HTI := Lib.hid fun W => rtitle_any l (i + 1) hl hi W
 rw [hT] at HTI
 rw [show ((i + 1 : Nat) : Int) = (i : Int) + 1 from rfl] at HTI
 have x1 : (ByteArray.mk l.toArray).extract (i + 1) (i + 1 + T) = ⟨nm.toArray⟩ := by rw [← hnm]; exact Asc.extract_seg l (i + 1) (i + 1 + T)
 have hwT : IntKind.i64.wrap ((i : Int) + 1 + (T : Int)) = (i : Int) + 1 + (T : Int) := IntWalk.i64_in _ (by omega)
 have hwT1 : IntKind.i64.wrap ((T : Int) + 1) = (T : Int) + 1 := IntWalk.i64_in _ (by omega)
 have hwT2 : IntKind.i64.wrap ((i : Int) + 1 + ((T : Int) + 1)) = (i : Int) + 1 + (T : Int) + 1 := by rw [show (i : Int) + 1 + ((T : Int) + 1) = (i : Int) + 1 + (T : Int) + 1 by omega]; exact IntWalk.i64_in _ (by omega)
 have b1 : (0 : Int) ≤ (i : Int) + 1 := by omega
 have b2 : (i : Int) + 1 ≤ (i : Int) + 1 + (T : Int) := by omega
 have b3 : (i : Int) + 1 + (T : Int) ≤ (l.length : Int) := by omega
 have b4 : ((i : Int) + 1).toNat = i + 1 := by omega
 have b5 : ((i : Int) + 1 + (T : Int)).toNat = i + 1 + T := by omega
 obtain ⟨tb, htb⟩ : ∃ b, decide (0 < T) = b := ⟨_, rfl⟩
 have htb2 : decide ((0 : Int) < (T : Int)) = tb := by rw [← htb]; simp
 have HTB : Hid ((tb = true → 0 < T) ∧ (tb = false → ¬ 0 < T)) := Lib.hid ⟨fun h => by rw [h] at htb; exact of_decide_eq_true htb, fun h => by rw [h] at htb; exact of_decide_eq_false htb⟩
 clear hT hnm hgi HM
 go_enter Tryz.func114, Tryz.ntmps114
 go_wp2_with fail
 refine (HPK.out _).mono ?_
 rintro e w1 ⟨rfl, hb⟩
 have HN1 := Lib.hid (HN0.out.go hb)
 clear hb HN0 HPK
 obtain ⟨⟨c0, c1, c2, c3⟩, f0, f1, f2, f3⟩ := HN1.out.ri.cs
 obtain ⟨⟨ra, rb, rc, rd, r0, r1, r2, r3⟩, g0, g1, g2, g3⟩ := HN1.out.ri.rs
 obtain ⟨⟨na, nb, nc, nd, ne, nf, n0, n1, n2, n3, n4, n5⟩, m0, m1, m2, m3, m4, m5⟩ := HN1.out.ns
 have HN2 : Hid (RN w l (i + 1) 0 0 (w1.setCell ⟨w.heap.size, 1, none⟩ (.int .i64 ((i : Int) + 1)))) := Lib.hid (HN1.out.to (i + 1))
 go_wp2_with fail
 refine (HTI.out _).mono ?_
 rintro e w3 ⟨rfl, hb⟩
 have HN3 := Lib.hid (HN2.out.go hb)
 clear hb HN1 HN2 HTI c0 c1 c2 c3 f0 f1 f2 f3 r0 r1 r2 r3 g0 g1 g2 g3 n0 n1 n2 n3 n4 n5 m0 m1 m2 m3 m4 m5
 obtain ⟨⟨c0, c1, c2, c3⟩, f0, f1, f2, f3⟩ := HN3.out.ri.cs
 obtain ⟨⟨ra, rb, rc, rd, r0, r1, r2, r3⟩, g0, g1, g2, g3⟩ := HN3.out.ri.rs
 obtain ⟨⟨na, nb, nc, nd, ne, nf, n0, n1, n2, n3, n4, n5⟩, m0, m1, m2, m3, m4, m5⟩ := HN3.out.ns
 go_upto_if 41 with fail
 clear x1 hwT b1 b2 b3 b4 b5
 go_cut [] (fun wx => RN w l gi 0 0 wx)
 case first =>
  cases tb with
  | true =>
   have hg := HGI.out
   rw [if_pos (HTB.out.1 rfl)] at hg
   subst hg
   have HX := Lib.hid (HN3.out.to (i + 1 + T + 1))
   go_wp2_with fail
   go_meet
   exact HX.out
  | false =>
   have hg := HGI.out
   rw [if_neg (HTB.out.2 rfl)] at hg
   subst hg
   go_wp2_with fail
   go_meet
   exact HN3.out
 case rest =>
  have HN4 := Lib.hid hcut
  have hqk := hcut.sz
  have HK4 := Lib.hid (KbA.new wc (.int .i64 0) (.slice none 0 0) (.string ⟨#[]⟩) (.slice none 0 0) (.int .i64 0) (.int .i64 0))
  have HN5 := Lib.hid (hcut.go (al_below wc (.cells #[.int .i64 0, .slice none 0 0, .string ⟨#[]⟩, .slice none 0 0, .int .i64 0, .int .i64 0] 38)))
  have l1 : w.heap.size < wc.heap.size := by omega
  clear hcut HN3 HGI hwT1 hwT2 hw1 zz1 yy1 c0 c1 c2 c3 f0 f1 f2 f3 r0 r1 r2 r3 g0 g1 g2 g3 n0 n1 n2 n3 n4 n5 m0 m1 m2 m3 m4 m5
  obtain ⟨⟨c0, c1, c2, c3⟩, f0, f1, f2, f3⟩ := HN4.out.ri.cs
  obtain ⟨⟨ra, rb, rc, rd, r0, r1, r2, r3⟩, g0, g1, g2, g3⟩ := HN4.out.ri.rs
  obtain ⟨⟨na, nb, nc, nd, ne, nf, n0, n1, n2, n3, n4, n5⟩, m0, m1, m2, m3, m4, m5⟩ := HN4.out.ns
  go_wp2_with fail
  refine (HCH.out _).mono ?_
  rintro e w5 ⟨j, e1, bad, t, v, rfl, hT, hb, hr⟩
  have HN6 := Lib.hid (HN5.out.go hb)
  have HK6 := Lib.hid (HK4.out.on hb HK4.out.lt)
  obtain ⟨op1, rs1, nm1, kk1, mn1, mx1, ra1, rc1, ka1, kc1, ht1, rfl, _⟩ := hT.open
  obtain ⟨rn1, hrn⟩ : ∃ n, rs1.length = n := ⟨_, rfl⟩
  obtain ⟨kn1, hkn⟩ : ∃ n, kk1.length = n := ⟨_, rfl⟩
  rw [hrn, hkn] at hT ⊢
  have hT2 : NG (fun k => wc.heap.size < k) w5 t (.agg #[.int .i64 op1, .slice ra1 rn1 rc1, .string ⟨nm1.toArray⟩, .slice ka1 kn1 kc1, .int .i64 mn1, .int .i64 mx1]) := NG.go ⟨Nat.le_refl _, fun k hk _ => ⟨by simp at hk; omega, rfl⟩⟩ _ _ hT
  obtain ⟨hk1, hk2, hk3⟩ := HN6.out.kid2 HK6.out hqk hT2 j e1 bad
  obtain ⟨qk, hqk'⟩ : ∃ qk, wc.heap.size = qk := ⟨_, rfl⟩
  rw [hqk'] at hk1 hk2 hk3 HK6 hqk
  have HK7 := Lib.hid hk1
  have HK8' := Lib.hid hk2
  have HK9 := Lib.hid hk3
  have HQK : Hid (qk ≠ w.heap.size + 1 + 1 ∧ qk ≠ w.heap.size + 1) := Lib.hid (by omega)
  have hqn : qk ≠ w.heap.size := by omega
  have hqn' : w.heap.size ≠ qk := by omega
  rw [hqk']
  clear hrn hkn hT hT2 hk1 hk2 hk3 hb ht1 hqk' HN4 HN5 HK4 l1 hqk c0 c1 c2 c3 f0 f1 f2 f3 r0 r1 r2 r3 g0 g1 g2 g3 n0 n1 n2 n3 n4 n5 m0 m1 m2 m3 m4 m5
  obtain ⟨⟨c0, c1, c2, c3⟩, f0, f1, f2, f3⟩ := HN6.out.ri.cs
  obtain ⟨⟨ra, rb, rc, rd, r0, r1, r2, r3⟩, g0, g1, g2, g3⟩ := HN6.out.ri.rs
  obtain ⟨⟨na, nb, nc, nd, ne, nf, n0, n1, n2, n3, n4, n5⟩, m0, m1, m2, m3, m4, m5⟩ := HN6.out.ns
  obtain ⟨⟨k0, k1, k2, k3, k4, k5⟩, h0, h1, h2, h3, h4, h5⟩ := HK6.out.cs
  go_upto_region 13 with fail
  obtain ⟨w6, hw6⟩ : ∃ w6, ((((((((((w5.setCell ⟨w.heap.size, 0, none⟩ (.string ⟨l.toArray⟩)).setCell ⟨w.heap.size, 1, none⟩ (.int .i64 (j : Int))).setCell ⟨w.heap.size, 2, none⟩ (.int .i64 (e1 : Int))).setCell ⟨w.heap.size, 3, none⟩ (.int .i64 (bad : Int))).setCell ⟨qk, 0, none⟩ (.int .i64 op1)).setCell ⟨qk, 1, none⟩ (.slice ra1 rn1 rc1)).setCell ⟨qk, 2, none⟩ (.string ⟨nm1.toArray⟩)).setCell ⟨qk, 3, none⟩ (.slice ka1 kn1 kc1)).setCell ⟨qk, 4, none⟩ (.int .i64 mn1)).setCell ⟨qk, 5, none⟩ (.int .i64 mx1)) = w6 := ⟨_, rfl⟩
  have HN7 : Hid (RN w l j e1 bad w6) := Lib.hid (by rw [← hw6]; exact HK7.out)
  have HK8 : Hid (KbA qk w6 (.int .i64 op1) (.slice ra1 rn1 rc1) (.string ⟨nm1.toArray⟩) (.slice ka1 kn1 kc1) (.int .i64 mn1) (.int .i64 mx1)) := Lib.hid (by rw [← hw6]; exact HK8'.out)
  have HT8 : Hid (NG (fun k => w.heap.size + 1 + 1 < k) w6 t (.agg #[.int .i64 op1, .slice ra1 rn1 rc1, .string ⟨nm1.toArray⟩, .slice ka1 kn1 kc1, .int .i64 mn1, .int .i64 mx1])) := Lib.hid (by rw [← hw6]; exact HK9.out)
  rw [hw6]
  clear hw6 HK7 HK8' HK9 HN6 HK6 c0 c1 c2 c3 f0 f1 f2 f3 r0 r1 r2 r3 g0 g1 g2 g3 n0 n1 n2 n3 n4 n5 m0 m1 m2 m3 m4 m5 k0 k1 k2 k3 k4 k5 h0 h1 h2 h3 h4 h5
  obtain ⟨⟨c0, c1, c2, c3⟩, f0, f1, f2, f3⟩ := HN7.out.ri.cs
  obtain ⟨⟨ra, rb, rc, rd, r0, r1, r2, r3⟩, g0, g1, g2, g3⟩ := HN7.out.ri.rs
  obtain ⟨⟨na, nb, nc, nd, ne, nf, n0, n1, n2, n3, n4, n5⟩, m0, m1, m2, m3, m4, m5⟩ := HN7.out.ns
  cases hq : ch gi with
  | error kx =>
   obtain ⟨k, x⟩ := kx
   rw [hq] at hr HMG
   obtain ⟨⟨rfl, hx0, rfl⟩, hj⟩ := hr
   have HR := Lib.hid (show M = .error (bad, e1) from HMG.out)
   have HE := Lib.hid hx0
   have z1 : ((e1 : Int) == 0) = false := by rw [beq_eq_false_iff_ne]; omega
   have z2 : ((e1 : Int) != 0) = true := by simp; omega
   clear HMG hq hx0
   go_wp2_with fail
   exact HN7.out.ret0 (P := 2) (N := 3) rfl (by rfl) (by rfl) HR.out HE.out (j := j) hj
  | ok tj =>
   obtain ⟨t', j'⟩ := tj
   rw [hq] at hr HMG
   obtain ⟨⟨rfl, rfl, rfl⟩, rfl, hjl⟩ := hr
   have HMH : Hid (M = if Asc.at_ l j = 41 then .ok (if 0 < T then .node 5 [] nm [t] 0 0 else t, j + 1) else .error (j, 1)) := Lib.hid HMG.out
   have HPK := Lib.hid fun W => rpeek_any l j 0 0 W
   have HP41 := Lib.hid (pk_eq (l := l) (i := j) (c := 41) (by decide) (by decide))
   have hd8 := pk_lt l j
   have hwj : IntKind.i64.wrap ((j : Int) + 1) = (j : Int) + 1 := IntWalk.i64_in _ (by omega)
   clear hq HMG
   go_wp2_with fail
   refine (HPK.out _).mono ?_
   rintro e w7 ⟨rfl, hb⟩
   have HN8 := Lib.hid (HN7.out.go hb)
   have HK9 := Lib.hid (HK8.out.on hb HK8.out.lt)
   have HT9 := Lib.hid (NG.go (F' := fun k => w.heap.size + 1 + 1 < k) (w' := w7) ⟨hb.size, fun k hk hl => ⟨hk, hb.block k hl⟩⟩ _ _ HT8.out)
   clear hb HN7 HK8 HT8 HPK c0 c1 c2 c3 f0 f1 f2 f3 r0 r1 r2 r3 g0 g1 g2 g3 n0 n1 n2 n3 n4 n5 m0 m1 m2 m3 m4 m5
   obtain ⟨⟨c0, c1, c2, c3⟩, f0, f1, f2, f3⟩ := HN8.out.ri.cs
   obtain ⟨⟨ra, rb, rc, rd, r0, r1, r2, r3⟩, g0, g1, g2, g3⟩ := HN8.out.ri.rs
   obtain ⟨⟨na, nb, nc, nd, ne, nf, n0, n1, n2, n3, n4, n5⟩, m0, m1, m2, m3, m4, m5⟩ := HN8.out.ns
   obtain ⟨d, hd⟩ : ∃ d, pk l j = d := ⟨_, rfl⟩
   rw [hd] at HP41 hd8 ⊢
   clear hd
   by_cases h41 : d = 41
   ·subst h41
    have hat := HP41.out.1 rfl
    have hjlt : j < l.length := Asc.at_lt (by omega)
    have HLE : Hid (j + 1 ≤ l.length) := Lib.hid hjlt
    have hmh := HMH.out
    rw [if_pos hat] at hmh
    have HMI := Lib.hid hmh
    have HNX : Hid (RN w l (j + 1) 0 0 (w7.setCell ⟨w.heap.size, 1, none⟩ (.int .i64 ((j : Int) + 1)))) := Lib.hid (HN8.out.to (j + 1))
    have HKX := Lib.hid (HK9.out.oth hqn 1 (.int .i64 ((j : Int) + 1)))
    have HTX := Lib.hid (NG.go (F' := fun k => w.heap.size + 1 + 1 < k) (w' := w7.setCell ⟨w.heap.size, 1, none⟩ (.int .i64 ((j : Int) + 1))) ⟨by simp, fun k hk _ => ⟨hk, heap_setCell_other w7 ⟨w.heap.size, 1, none⟩ k _ (Nat.ne_of_gt (show w.heap.size < k by have h2 : w.heap.size + 1 + 1 < k := hk; omega))⟩⟩ _ _ HT9.out)
    clear hat hjlt hmh HMH
    cases tb with
    | true =>
     have HR := Lib.hid (show M = .ok (.node 5 [] nm [t] 0 0, j + 1) by rw [HMI.out, if_pos (HTB.out.1 rfl)])
     clear HMI
     go_upto_region 19 with fail
     obtain ⟨w8, hw8⟩ : ∃ w8, w7.setCell ⟨w.heap.size, 1, none⟩ (.int .i64 ((j : Int) + 1)) = w8 := ⟨_, rfl⟩
     rw [hw8] at HNX HKX HTX ⊢
     clear hw8 HN8 HK9 HT9 c0 c1 c2 c3 f0 f1 f2 f3 r0 r1 r2 r3 g0 g1 g2 g3 n0 n1 n2 n3 n4 n5 m0 m1 m2 m3 m4 m5
     have HN8 := HNX
     have HK8 := HKX
     have HT8 := HTX
     clear HNX HKX HTX
     refine wp_region_slotsB (by rfl) (by kernel_rfl) (by kernel_rfl) 150 [] [(1, .pointer (some ⟨w.heap.size, 0, none⟩)), (2, .pointer (some ⟨w.heap.size + 1, 0, none⟩)), (3, .pointer (some ⟨w.heap.size + 1 + 1, 0, none⟩)), (6, .string ⟨nm.toArray⟩), (7, .pointer (some ⟨qk, 0, none⟩))] (by kernel_rfl) (fun W => RN w l (j + 1) 0 0 W ∧ KbA qk W (.int .i64 op1) (.slice ra1 rn1 rc1) (.string ⟨nm1.toArray⟩) (.slice ka1 kn1 kc1) (.int .i64 mn1) (.int .i64 mx1) ∧ NG (fun k => w.heap.size + 1 + 1 < k) W t (.agg #[.int .i64 op1, .slice ra1 rn1 rc1, .string ⟨nm1.toArray⟩, .slice ka1 kn1 kc1, .int .i64 mn1, .int .i64 mx1])) (RkN w l (j + 1) 0 0 (.node 5 [] nm [t] 0 0)) (GvC w l (j + 1) nm t (.node 5 [] nm [t] 0 0)) (GvC.keep w l (j + 1) nm t (.node 5 [] nm [t] 0 0)) ?_ ?_ ⟨rfl, rfl, fun s v hs => ?_, HN8.out.go (Below.refl _ _).drew, HK8.out, NG.go (Stay.drew _) _ _ HT8.out⟩
     case refine_1 =>
      intro k o ho ac W hB hd K hK
      have hk5 : k < 7 := (Array.getElem?_eq_some_iff.1 ho).1
      have hs1 : ac.tmps.getD 1 undef = .pointer (some ⟨w.heap.size, 0, none⟩) := hB.fixed 1 _ (by simp)
      have hs2 : ac.tmps.getD 2 undef = .pointer (some ⟨w.heap.size + 1, 0, none⟩) := hB.fixed 2 _ (by simp)
      have hs3 : ac.tmps.getD 3 undef = .pointer (some ⟨w.heap.size + 1 + 1, 0, none⟩) := hB.fixed 3 _ (by simp)
      have hs6 : ac.tmps.getD 6 undef = .string ⟨nm.toArray⟩ := hB.fixed 6 _ (by simp)
      have hs7 : ac.tmps.getD 7 undef = .pointer (some ⟨qk, 0, none⟩) := hB.fixed 7 _ (by simp)
      obtain ⟨hi, hkb, hng⟩ := hB.inv
      have HIW := Lib.hid hi
      have HKW := Lib.hid hkb
      have HTW := Lib.hid hng
      have HKK := Lib.hid hK
      obtain ⟨⟨c0, c1, c2, c3⟩, f0, f1, f2, f3⟩ := HIW.out.ri.cs
      obtain ⟨⟨ra, rb, rc, rd, r0, r1, r2, r3⟩, g0, g1, g2, g3⟩ := HIW.out.ri.rs
      obtain ⟨⟨na, nb, nc, nd, ne, nf, n0, n1, n2, n3, n4, n5⟩, m0, m1, m2, m3, m4, m5⟩ := HIW.out.ns
      obtain ⟨⟨k0, k1, k2, k3, k4, k5⟩, h0, h1, h2, h3, h4, h5⟩ := HKW.out.cs
      clear hK hB hi hkb hng
      rcases (show k = 0 ∨ k = 1 ∨ k = 2 ∨ k = 3 ∨ k = 4 ∨ k = 5 ∨ k = 6 by omega) with rfl | rfl | rfl | rfl | rfl | rfl | rfl
      ·obtain rfl := Option.some.inj ho
       go_simp
       exact HKK.out _ _ (RkN.refl _ _ _ _ _ _ _) ⟨HIW.out, HKW.out, HTW.out⟩ rfl
      ·obtain rfl := Option.some.inj ho
       go_simp
       exact HKK.out _ _ (RkN.refl _ _ _ _ _ _ _) ⟨HIW.out, HKW.out, HTW.out⟩ rfl
      ·obtain rfl := Option.some.inj ho
       go_simp
       exact HKK.out _ _ (RkN.refl _ _ _ _ _ _ _) ⟨HIW.out, HKW.out, HTW.out⟩ ⟨⟨_, _, _, _, _, _, _, _, _, _, rfl⟩, HTW.out⟩
      ·obtain rfl := Option.some.inj ho
       obtain ⟨⟨opx, rax, rnx, rcx, nmx, kax, knx, kcx, mnx, mxx, hd2⟩, hT3⟩ : NdV w t W (ac.tmps.getD 74 undef) := hd ⟨2, .data⟩ (by simp) rfl
       rw [hd2] at hT3
       have hal := al_below W (.cells #[.int .i64 opx, .slice rax rnx rcx, .string ⟨nmx.toArray⟩, .slice kax knx kcx, .int .i64 mnx, .int .i64 mxx] 38)
       have S1 := Lib.hid (HIW.out.go hal)
       have S2 := Lib.hid (HKW.out.on hal HKW.out.lt)
       have S3 := Lib.hid (RkN.on HIW.out hal (.node 5 [] nm [t] 0 0))
       have S4 := Lib.hid (NG.go S3.out.1 _ _ HTW.out)
       have S5 := Lib.hid (row_one (Fb := fun k => w.heap.size + 1 + 1 < k) (KbA.new W (.int .i64 opx) (.slice rax rnx rcx) (.string ⟨nmx.toArray⟩) (.slice kax knx kcx) (.int .i64 mnx) (.int .i64 mxx)) HIW.out.sz (NG.go S3.out.1 _ _ hT3))
       clear hal hT3
       have hd2w : ac.tmps[74]?.getD undef = .agg #[.int .i64 opx, .slice rax rnx rcx, .string ⟨nmx.toArray⟩, .slice kax knx kcx, .int .i64 mnx, .int .i64 mxx] := by simpa using hd2
       go_simp
       exact HKK.out _ _ S3.out ⟨S1.out, S2.out, S4.out⟩ ⟨_, rfl, S5.out⟩
      ·obtain rfl := Option.some.inj ho
       have hd1 : ac.tmps.getD 73 undef = .string ⟨nm.toArray⟩ := hd ⟨1, .data⟩ (by simp) rfl
       obtain ⟨q9, hd3, hrow⟩ : ∃ q, ac.tmps.getD 75 undef = .slice (some ⟨q, 0, none⟩) 1 1 ∧ RW (fun k => w.heap.size + 1 + 1 < k) 6 (KR (fun k => w.heap.size + 1 + 1 < k) W) W [t] (ac.tmps.getD 75 undef) := hd ⟨3, .data⟩ (by simp) rfl
       rw [hd3] at hrow
       have S5 := Lib.hid (NG.node (rs := []) RW.nil hrow 5 nm 0 0 HNL.out)
       clear hrow
       have hd1w : ac.tmps[73]?.getD undef = .string ⟨nm.toArray⟩ := by simpa using hd1
       have hd3w : ac.tmps[75]?.getD undef = .slice (some ⟨q9, 0, none⟩) 1 1 := by simpa using hd3
       go_simp
       exact HKK.out _ _ (RkN.refl _ _ _ _ _ _ _) ⟨HIW.out, HKW.out, HTW.out⟩ ⟨⟨_, _, _, _, _, _, _, _, _, _, rfl⟩, S5.out⟩
      ·obtain rfl := Option.some.inj ho
       have hd0 : ac.tmps.getD 72 undef = .agg #[.string ⟨l.toArray⟩, .int .i64 ((j + 1 : Nat) : Int), .int .i64 0, .int .i64 0] := hd ⟨0, .data⟩ (by simp) rfl
       obtain ⟨s1, s2, s3, s4⟩ := HIW.out.stpK (.node 5 [] nm [t] 0 0)
       have S1 := Lib.hid s1
       have S2 := Lib.hid s2
       have S3 := Lib.hid s3
       have S4 := Lib.hid (show KbA qk _ (.int .i64 op1) (.slice ra1 rn1 rc1) (.string ⟨nm1.toArray⟩) (.slice ka1 kn1 kc1) (.int .i64 mn1) (.int .i64 mx1) from (s4 _ HQK.out.2).trans HKW.out)
       have S5 := Lib.hid (NG.go s2.1 _ _ HTW.out)
       clear s1 s2 s3 s4
       go_simp
       exact HKK.out undef _ S2.out ⟨S1.out, S4.out, S5.out⟩ S3.out
      ·obtain rfl := Option.some.inj ho
       obtain ⟨⟨opx, rax, rnx, rcx, nmx, kax, knx, kcx, mnx, mxx, hd2⟩, hT3⟩ : NdV w (.node 5 [] nm [t] 0 0) W (ac.tmps.getD 76 undef) := hd ⟨4, .data⟩ (by simp) rfl
       rw [hd2] at hT3
       obtain ⟨s1, s2, s3, s4⟩ := HIW.out.stnK hT3
       have S1 := Lib.hid s1
       have S2 := Lib.hid s2
       have S3 := Lib.hid s3
       have S4 := Lib.hid (show KbA qk _ (.int .i64 op1) (.slice ra1 rn1 rc1) (.string ⟨nm1.toArray⟩) (.slice ka1 kn1 kc1) (.int .i64 mn1) (.int .i64 mx1) from (s4 _ HQK.out.1).trans HKW.out)
       have S5 := Lib.hid (NG.go s2.1 _ _ HTW.out)
       clear s1 s2 s3 s4 hT3
       go_simp
       exact HKK.out undef _ S2.out ⟨S1.out, S4.out, S5.out⟩ S3.out
     case refine_2 =>
      intro ac W hB hG
      have h2 : PAt w l (j + 1) 0 0 W := hG 5 (by decide)
      have h4 : NdA w (.node 5 [] nm [t] 0 0) W := hG 6 (by decide)
      have hs2 : ac.tmps.getD 2 undef = .pointer (some ⟨w.heap.size + 1, 0, none⟩) := hB.fixed 2 _ (by simp)
      have hs3 : ac.tmps.getD 3 undef = .pointer (some ⟨w.heap.size + 1 + 1, 0, none⟩) := hB.fixed 3 _ (by simp)
      have hbw := hB.inv.1.ri.bl
      have hdf := hB.defers
      obtain ⟨tm, df⟩ := ac
      obtain rfl : df = [] := hdf
      have HR9 := Lib.hid (RN.endK h2 h4 hbw (fn := Tryz.f114) (tmps := tm) rfl hs2 hs3 (r := M) (by rw [HR.out]; exact ⟨⟨rfl, rfl, rfl⟩, rfl, HLE.out⟩))
      clear hB hG h2 h4 hs2 hs3
      go_wp2_with fail
      exact HR9.out
     case refine_3 =>
      simp only [List.mem_cons, Prod.mk.injEq, List.not_mem_nil, or_false] at hs
      rcases hs with ⟨rfl, rfl⟩ | ⟨rfl, rfl⟩ | ⟨rfl, rfl⟩ | ⟨rfl, rfl⟩ | ⟨rfl, rfl⟩ <;> rfl
    | false =>
     have HR := Lib.hid (show M = .ok (t, j + 1) by rw [HMI.out, if_neg (HTB.out.2 rfl)])
     clear HMI
     go_upto_region 20 with fail
     obtain ⟨w8, hw8⟩ : ∃ w8, w7.setCell ⟨w.heap.size, 1, none⟩ (.int .i64 ((j : Int) + 1)) = w8 := ⟨_, rfl⟩
     rw [hw8] at HNX HKX HTX ⊢
     clear hw8 HN8 HK9 HT9 c0 c1 c2 c3 f0 f1 f2 f3 r0 r1 r2 r3 g0 g1 g2 g3 n0 n1 n2 n3 n4 n5 m0 m1 m2 m3 m4 m5
     refine wp_region_slotsB (by rfl) (by kernel_rfl) (by kernel_rfl) 150 [] [(1, .pointer (some ⟨w.heap.size, 0, none⟩)), (2, .pointer (some ⟨w.heap.size + 1, 0, none⟩)), (3, .pointer (some ⟨w.heap.size + 1 + 1, 0, none⟩)), (7, .pointer (some ⟨qk, 0, none⟩))] (by kernel_rfl) (fun W => RN w l (j + 1) 0 0 W ∧ KbA (qk) W (.int .i64 op1) (.slice ra1 rn1 rc1) (.string ⟨nm1.toArray⟩) (.slice ka1 kn1 kc1) (.int .i64 mn1) (.int .i64 mx1) ∧ NG (fun k => w.heap.size + 1 + 1 < k) W (t) (.agg #[.int .i64 op1, .slice ra1 rn1 rc1, .string ⟨nm1.toArray⟩, .slice ka1 kn1 kc1, .int .i64 mn1, .int .i64 mx1])) (RkN w l (j + 1) 0 0 (t)) (GvK w l (j + 1) 0 0 (t)) (GvK.keep w l (j + 1) 0 0 (t)) ?_ ?_ ⟨rfl, rfl, fun s v hs => ?_, HNX.out.go (Below.refl _ _).drew, HKX.out, NG.go (Stay.drew _) _ _ HTX.out⟩
     case refine_1 =>
      intro k o ho ac W hB hd K hK
      have hk5 : k < 4 := (Array.getElem?_eq_some_iff.1 ho).1
      have hs1 : ac.tmps.getD 1 undef = .pointer (some ⟨w.heap.size, 0, none⟩) := hB.fixed 1 _ (by simp)
      have hs2 : ac.tmps.getD 2 undef = .pointer (some ⟨w.heap.size + 1, 0, none⟩) := hB.fixed 2 _ (by simp)
      have hs3 : ac.tmps.getD 3 undef = .pointer (some ⟨w.heap.size + 1 + 1, 0, none⟩) := hB.fixed 3 _ (by simp)
      have hs5 : ac.tmps.getD 7 undef = .pointer (some ⟨qk, 0, none⟩) := hB.fixed 7 _ (by simp)
      obtain ⟨hi, hkb, hng⟩ := hB.inv
      have HIW := Lib.hid hi
      have HKW := Lib.hid hkb
      have HTW := Lib.hid hng
      have HKK := Lib.hid hK
      obtain ⟨⟨c0, c1, c2, c3⟩, f0, f1, f2, f3⟩ := HIW.out.ri.cs
      obtain ⟨⟨ra, rb, rc, rd, r0, r1, r2, r3⟩, g0, g1, g2, g3⟩ := HIW.out.ri.rs
      obtain ⟨⟨na, nb, nc, nd, ne, nf, n0, n1, n2, n3, n4, n5⟩, m0, m1, m2, m3, m4, m5⟩ := HIW.out.ns
      obtain ⟨⟨k0, k1, k2, k3, k4, k5⟩, h0, h1, h2, h3, h4, h5⟩ := HKW.out.cs
      clear hK hB hi hkb hng
      rcases (show k = 0 ∨ k = 1 ∨ k = 2 ∨ k = 3 by omega) with rfl | rfl | rfl | rfl
      ·obtain rfl := Option.some.inj ho
       go_simp
       exact HKK.out _ _ (RkN.refl _ _ _ _ _ _ _) ⟨HIW.out, HKW.out, HTW.out⟩ rfl
      ·obtain rfl := Option.some.inj ho
       go_simp
       exact HKK.out _ _ (RkN.refl _ _ _ _ _ _ _) ⟨HIW.out, HKW.out, HTW.out⟩ ⟨⟨_, _, _, _, _, _, _, _, _, _, rfl⟩, HTW.out⟩
      ·obtain rfl := Option.some.inj ho
       have hd0 : ac.tmps.getD 77 undef = .agg #[.string ⟨l.toArray⟩, .int .i64 ((j + 1 : Nat) : Int), .int .i64 0, .int .i64 0] := hd ⟨0, .data⟩ (by simp) rfl
       obtain ⟨s1, s2, s3, s4⟩ := HIW.out.stpK (t)
       have S1 := Lib.hid s1
       have S2 := Lib.hid s2
       have S3 := Lib.hid s3
       have S4 := Lib.hid (show KbA (qk) _ (.int .i64 op1) (.slice ra1 rn1 rc1) (.string ⟨nm1.toArray⟩) (.slice ka1 kn1 kc1) (.int .i64 mn1) (.int .i64 mx1) from (s4 _ HQK.out.2).trans HKW.out)
       have S5 := Lib.hid (NG.go s2.1 _ _ HTW.out)
       clear s1 s2 s3 s4
       go_simp
       exact HKK.out undef _ S2.out ⟨S1.out, S4.out, S5.out⟩ S3.out
      ·obtain rfl := Option.some.inj ho
       obtain ⟨⟨opx, rax, rnx, rcx, nmx, kax, knx, kcx, mnx, mxx, hd2⟩, hT3⟩ : NdV w (t) W (ac.tmps.getD 78 undef) := hd ⟨1, .data⟩ (by simp) rfl
       rw [hd2] at hT3
       obtain ⟨s1, s2, s3, s4⟩ := HIW.out.stnK hT3
       have S1 := Lib.hid s1
       have S2 := Lib.hid s2
       have S3 := Lib.hid s3
       have S4 := Lib.hid (show KbA (qk) _ (.int .i64 op1) (.slice ra1 rn1 rc1) (.string ⟨nm1.toArray⟩) (.slice ka1 kn1 kc1) (.int .i64 mn1) (.int .i64 mx1) from (s4 _ HQK.out.1).trans HKW.out)
       have S5 := Lib.hid (NG.go s2.1 _ _ HTW.out)
       clear s1 s2 s3 s4 hT3
       go_simp
       exact HKK.out undef _ S2.out ⟨S1.out, S4.out, S5.out⟩ S3.out
     case refine_2 =>
      intro ac W hB hG
      have h2 : PAt w l (j + 1) 0 0 W := hG 2 (by decide)
      have h4 : NdA w (t) W := hG 3 (by decide)
      have hs2 : ac.tmps.getD 2 undef = .pointer (some ⟨w.heap.size + 1, 0, none⟩) := hB.fixed 2 _ (by simp)
      have hs3 : ac.tmps.getD 3 undef = .pointer (some ⟨w.heap.size + 1 + 1, 0, none⟩) := hB.fixed 3 _ (by simp)
      have hbw := hB.inv.1.ri.bl
      have hdf := hB.defers
      obtain ⟨tm, df⟩ := ac
      obtain rfl : df = [] := hdf
      have HR9 := Lib.hid (RN.endK h2 h4 hbw (fn := Tryz.f114) (tmps := tm) rfl hs2 hs3 (r := M) (by rw [HR.out]; exact ⟨⟨rfl, rfl, rfl⟩, rfl, HLE.out⟩))
      clear hB hG h2 h4 hs2 hs3
      go_wp2_with fail
      exact HR9.out
     case refine_3 =>
      simp only [List.mem_cons, Prod.mk.injEq, List.not_mem_nil, or_false] at hs
      rcases hs with ⟨rfl, rfl⟩ | ⟨rfl, rfl⟩ | ⟨rfl, rfl⟩ | ⟨rfl, rfl⟩ <;> rfl
   ·have z1 : ((d : Int) == 41) = false := by rw [beq_eq_false_iff_ne]; omega
    have z1' : ((d : Int) != 41) = true := by simp; omega
    have HR := Lib.hid (show M = .error (j, 1) by rw [HMH.out, if_neg (fun h => h41 (HP41.out.2 h))])
    have HF := Lib.hid fun W => rfail_any l j 0 1 j W
    clear h41 HMH HK9 HT9
    go_wp2_with fail
    refine (HF.out _).mono ?_
    rintro e w8 ⟨rfl, hb⟩
    have HN9 := Lib.hid (HN8.out.go hb)
    clear hb HN8 c0 c1 c2 c3 f0 f1 f2 f3 r0 r1 r2 r3 g0 g1 g2 g3 n0 n1 n2 n3 n4 n5 m0 m1 m2 m3 m4 m5
    obtain ⟨⟨c0, c1, c2, c3⟩, f0, f1, f2, f3⟩ := HN9.out.ri.cs
    obtain ⟨⟨ra, rb, rc, rd, r0, r1, r2, r3⟩, g0, g1, g2, g3⟩ := HN9.out.ri.rs
    obtain ⟨⟨na, nb, nc, nd, ne, nf, n0, n1, n2, n3, n4, n5⟩, m0, m1, m2, m3, m4, m5⟩ := HN9.out.ns
    go_wp2_with fail
    exact HN9.out.ret0 (P := 2) (N := 3) rfl (by rfl) (by rfl) HR.out (by decide) (j := j) (by omega)
theorem ratom_any (l : List UInt8) (ch : Nat → Out NT) (i : Nat) (hl : l.length ≤ 1000) (hi : i ≤ l.length) (hch : Asc.at_ l i = 40 → RdR 58 l (grpI l (i + 1)) (ch (grpI l (i + 1)))) : RdR 114 l i (atomM ch l i) := by
 intro w
 rcases Nat.lt_or_ge i l.length with h | h
 ·by_cases h40 : pk l i = 40
  ·exact ratom_grp l ch i hl h w h40 (hch ((pk_eq (by decide) (by decide)).1 h40))
  by_cases h91 : pk l i = 91
  ·exact ratom_bra l ch i hl h w h91
  by_cases h46 : pk l i = 46
  ·exact ratom_dot l ch i hl h w h46
  by_cases h94 : pk l i = 94
  ·exact ratom_beg l ch i hl h w h94
  by_cases h36 : pk l i = 36
  ·exact ratom_fin l ch i hl h w h36
  by_cases h92 : pk l i = 92
  ·exact ratom_esc l ch i hl h w h92
  exact ratom_oth l ch i hl h w h40 h91 h46 h94 h36 h92
 ·exact ratom_end l ch i hl hi h w
end Go.Proofs.YtgcpinnnfoanjaaGreatDoor
namespace Go.Proofs.YtgcpinnnfoanjaaGreatDoor
open Go.RowKit
structure QL (G : Nat → Prop) (B : Nat) (w : World) (l : List UInt8) (i e bad : Nat) (kids : List NT) (v : Value) (W : World) : Prop where
 rn : RN w l i e bad W
 row : OR B 38 6 (KR (FF G v) W) W kids v
 gb : ∀ k, G k → w.heap.size + 1 + 1 < k
 bb : w.heap.size + 1 + 1 < B
 bl : B ≤ W.heap.size
section
variable {G : Nat → Prop} {B : Nat} {w : World} {l : List UInt8} {i e bad j f b2 : Nat} {kids : List NT} {v x : Value} {t : NT} {W W' : World}
theorem QL.start (h : RN w l i e bad W) : QL (fun k => w.heap.size + 1 + 1 < k) (w.heap.size + 1 + 1 + 1) w l i e bad [] (.slice none 0 0) W := ⟨h, OR.nil, fun _ h => h, Nat.lt_succ_self _, h.sz⟩
theorem QL.stay (h : QL G B w l i e bad kids v W) (hrn : RN w l j f b2 W') (hs : W.heap.size ≤ W'.heap.size) (hk : ∀ k, G k ∨ B ≤ k → k < W.heap.size → W'.heap[k]? = W.heap[k]?) : QL G B w l j f b2 kids v W' :=
 ⟨hrn, h.row.keep (fun m h1 h2 => hk m (.inr h1) h2) (fun _ _ hx => KR.go ⟨hs, fun m hm hl => ⟨hm, hk m (.inl hm.1) hl⟩⟩ _ _ hx), h.gb, h.bb, Nat.le_trans h.bl hs⟩
theorem QL.go (h : QL G B w l i e bad kids v W) (k : Below W.heap.size W W') : QL G B w l i e bad kids v W' := h.stay (h.rn.go k) k.size (fun _ _ hl => k.block _ hl)
theorem QL.hop (h : QL G B w l i e bad kids v W) (j : Nat) : QL G B w l j e bad kids v (W.setCell ⟨w.heap.size, 1, none⟩ (.int .i64 (j : Int))) := h.stay (h.rn.to j) (by simp) (fun k hk _ => heap_setCell_other W ⟨w.heap.size, 1, none⟩ k _ (Nat.ne_of_gt (show w.heap.size < k by have := h.bb; rcases hk with hk | hk; have := h.gb k hk; omega; omega)))
theorem QL.push {o : Obj} {g' cap H : Nat} {W5 : World} (h : QL G B w l i e bad kids v W) (cs : List Value) (hown : W.ownsRow B 38 6 v kids.length cs)
  (hpush : ∀ (R' : NT → List Value → Prop) (W' : World) (x : NT) (us : List Value) (v' : Value), (∀ x us, KR (FF G v) W x us → R' x us) → us.length = 6 → R' x us → kids.length + 1 ≤ 1000000 → W'.ownsRow B 38 6 v' (kids.length + 1) (cs ++ us) → OR B 38 6 R' W' (kids ++ [x]) v')
  (hgr : (W.alloc o).grownBy W5 v.ownBlock) (hat : v.ownBlock = some g' ∨ g' = H) (hH : H = (W.alloc o).heap.size) (us : List Value) (hu : us.length = 6) (hx : KR (FF G v) W t us) (hl : kids.length + 1 ≤ 1000000)
  (ho : W5.ownsRow B 38 6 (.slice (some ⟨g', 0, none⟩) (kids.length + 1) cap) (kids.length + 1) (cs ++ us)) : QL G B w l i e bad (kids ++ [t]) (.slice (some ⟨g', 0, none⟩) (kids.length + 1) cap) W5 ∧ Below B W W5 := by
 have hB := push_below hgr hown h.bl
 have hst := push_stay (G := G) (n := kids.length + 1) (cap := cap) hgr (hat.imp id (fun e => by rw [e, hH]; simp))
 exact ⟨⟨h.rn.on hB h.bb, hpush _ _ t us _ (fun _ _ h => KR.go hst _ _ h) hu (KR.go hst _ _ hx) hl ho, h.gb, h.bb, Nat.le_trans h.bl hB.size⟩, hB⟩
theorem QL.rows (h : QL G B w l i e bad kids v W) : RW (fun k => w.heap.size + 1 + 1 < k) 6 (KR (fun k => w.heap.size + 1 + 1 < k) W) W kids v :=
 (h.row.rw (F := fun k => w.heap.size + 1 + 1 < k) (fun _ hb => Nat.lt_of_lt_of_le h.bb hb)).go ⟨Nat.le_refl _, fun _ hk _ => ⟨hk, rfl⟩⟩ (fun _ _ hx => KR.go ⟨Nat.le_refl _, fun _ hk _ => ⟨h.gb _ hk.1, rfl⟩⟩ _ _ hx)
theorem QL.kid {q M : Nat} {a c d g p o x y z u s r : Value} (h : QL G B w l i e bad kids v W) (hb : Below W.heap.size W W') (hq : KbA q W' a c d g p o) (hq1 : w.heap.size + 1 + 1 < q) (hq2 : (¬ G q ∧ q < B) ∨ W.heap.size ≤ q) (hM1 : W.heap.size ≤ M) (hM2 : q < M) (hM3 : ∀ k, M ≤ k → G k) (hT : NG (fun k => M ≤ k) W' t (.agg #[x, y, z, u, s, r])) (j' e' bad' : Nat) :
  QL G B w l j' e' bad' kids v (stK q ((((W'.setCell ⟨w.heap.size, 0, none⟩ (.string ⟨l.toArray⟩)).setCell ⟨w.heap.size, 1, none⟩ (.int .i64 (j' : Int))).setCell ⟨w.heap.size, 2, none⟩ (.int .i64 (e' : Int))).setCell ⟨w.heap.size, 3, none⟩ (.int .i64 (bad' : Int))) x y z u s r) ∧
  KbA q (stK q ((((W'.setCell ⟨w.heap.size, 0, none⟩ (.string ⟨l.toArray⟩)).setCell ⟨w.heap.size, 1, none⟩ (.int .i64 (j' : Int))).setCell ⟨w.heap.size, 2, none⟩ (.int .i64 (e' : Int))).setCell ⟨w.heap.size, 3, none⟩ (.int .i64 (bad' : Int))) x y z u s r) x y z u s r ∧
  NG (FF G v) (stK q ((((W'.setCell ⟨w.heap.size, 0, none⟩ (.string ⟨l.toArray⟩)).setCell ⟨w.heap.size, 1, none⟩ (.int .i64 (j' : Int))).setCell ⟨w.heap.size, 2, none⟩ (.int .i64 (e' : Int))).setCell ⟨w.heap.size, 3, none⟩ (.int .i64 (bad' : Int))) x y z u s r) t (.agg #[x, y, z, u, s, r]) := by
 obtain ⟨k1, k2, _⟩ := (h.rn.go hb).kid2 hq hq1 (NG.go ⟨Nat.le_refl _, fun k hk _ => ⟨Nat.lt_of_lt_of_le hM2 hk, rfl⟩⟩ _ _ hT) j' e' bad'
 obtain ⟨P, hP⟩ : ∃ P, ((((W'.setCell ⟨w.heap.size, 0, none⟩ (.string ⟨l.toArray⟩)).setCell ⟨w.heap.size, 1, none⟩ (.int .i64 (j' : Int))).setCell ⟨w.heap.size, 2, none⟩ (.int .i64 (e' : Int))).setCell ⟨w.heap.size, 3, none⟩ (.int .i64 (bad' : Int))) = P := ⟨_, rfl⟩
 have hsz : P.heap.size = W'.heap.size := by rw [← hP]; simp
 have hk : ∀ k, k ≠ w.heap.size → P.heap[k]? = W'.heap[k]? := fun k hk => by
  rw [← hP, heap_setCell_other _ _ _ _ (by simpa using hk), heap_setCell_other _ _ _ _ (by simpa using hk), heap_setCell_other _ _ _ _ (by simpa using hk), heap_setCell_other _ _ _ _ (by simpa using hk)]
 rw [hP] at k1 k2 ⊢
 have hS : ∀ k, k ≠ q → k ≠ w.heap.size → (stK q P x y z u s r).heap[k]? = W'.heap[k]? := fun k h1 h2 => (stK_keep q P x y z u s r h1).trans (hk k h2)
 have hbb := h.bb
 refine ⟨h.stay k1 (by rw [stK_size, hsz]; exact hb.size) (fun k hg hl => (hS k ?_ ?_).trans (hb.block k hl)), k2, NG.go ⟨by rw [stK_size, hsz]; exact Nat.le_refl _, fun k hk _ => ⟨⟨hM3 k hk, fun e => ?_⟩, hS k (by omega) (by have := h.gb k (hM3 k hk); omega)⟩⟩ _ _ hT⟩
 ·rintro rfl
  rcases hq2 with ⟨h1, h2⟩ | h1
  ·rcases hg with hg | hg
   ·exact h1 hg
   ·omega
  ·omega
 ·rcases hg with hg | hg
  ·have := h.gb k hg
   omega
  ·omega
 ·have := (h.row.lt e).2
  omega
def QL.left (w wr : World) : Nat := if intOf ((wr.cell? ⟨w.heap.size, 2, none⟩).getD undef) = 0 then 2001 - (intOf ((wr.cell? ⟨w.heap.size, 1, none⟩).getD undef)).toNat else 0
theorem QL.lft (h : QL G B w l i e bad kids v W) : QL.left w W = if e = 0 then 2001 - i else 0 := by
 obtain ⟨⟨c0, c1, c2, c3⟩, _⟩ := h.rn.ri.cs
 unfold QL.left
 rw [c1, c2]
 show (if ((e : Int)) = 0 then 2001 - ((i : Int)).toNat else 0) = _
 rw [Int.toNat_natCast]
 by_cases he : e = 0
 ·rw [if_pos he, if_pos (by omega)]
 ·rw [if_neg he, if_neg (by omega)]
end
theorem NG.many {Fb : Nat → Prop} {W : World} {kids : List NT} {a : Option Addr} {n c : Nat} (h : RW Fb 6 (KR Fb W) W kids (.slice a n c)) (op : Int) : NG Fb W (.node op [] [] kids 0 0) (.agg #[.int .i64 op, .slice none 0 0, .string ⟨#[]⟩, .slice a n c, .int .i64 0, .int .i64 0]) := NG.node (rs := []) RW.nil h op [] 0 0 (by simp)
def EndR (l : List UInt8) (r : Out NT) (T : NT) (j e bad : Nat) : Prop := match r with
 | .ok (t', j') => (j = j' ∧ e = 0 ∧ bad = 0) ∧ T = t' ∧ j ≤ l.length
 | .error (k, x) => (e = x ∧ x ≠ 0 ∧ bad = k) ∧ j ≤ 2000
def CtI (ch : Nat → Out NT) (l : List UInt8) (R : Out NT) (k e bad : Nat) (ts : List NT) : Prop := k ≤ 2000 ∧ ((e = 0 ∧ bad = 0 ∧ k ≤ l.length ∧ ∃ n, l.length < k + n ∧ catL ch l n k ts = R) ∨ (e ≠ 0 ∧ R = .error (bad, e)))
theorem CtI.stop {ch : Nat → Out NT} {l : List UInt8} {R : Out NT} {k e bad : Nat} {ts : List NT} (h : CtI ch l R k e bad ts) (hs : e ≠ 0 ∨ Asc.at_ l k = 999 ∨ Asc.at_ l k = 124 ∨ Asc.at_ l k = 41) : EndR l R (joinT 2 ts) k e bad := by
 obtain ⟨hk, ⟨rfl, rfl, hkl, n, hn, hr⟩ | ⟨he, hr⟩⟩ := h
 ·cases n with
  | zero => omega
  | succ n =>
   rw [catL, if_pos (by rcases hs with h | h; exact absurd rfl h; exact h)] at hr
   rw [← hr]
   exact ⟨⟨rfl, rfl, rfl⟩, rfl, hkl⟩
 ·rw [hr]
  exact ⟨⟨rfl, he, rfl⟩, hk⟩
theorem CtI.next {ch : Nat → Out NT} {l : List UInt8} {R : Out NT} {k : Nat} {ts : List NT} (h : CtI ch l R k 0 0 ts) (hl : l.length ≤ 1000) (hc : Goes ch) (hs : ¬ (Asc.at_ l k = 999 ∨ Asc.at_ l k = 124 ∨ Asc.at_ l k = 41)) {t : NT} {j e bad : Nat} (hf : EndR l (repM ch l k) t j e bad) : CtI ch l R j e bad (ts ++ [t]) ∧ (e = 0 → k < j) := by
 obtain ⟨hk, ⟨_, _, hkl, n, hn, hr⟩ | ⟨he, hr⟩⟩ := h
 ·cases n with
  | zero => omega
  | succ n =>
   rw [catL, if_neg hs] at hr
   cases hm : repM ch l k with
   | error kx =>
    obtain ⟨k', x⟩ := kx
    rw [hm] at hf hr
    obtain ⟨⟨rfl, hx, rfl⟩, hj⟩ := hf
    exact ⟨⟨hj, .inr ⟨hx, hr.symm⟩⟩, fun h => absurd h hx⟩
   | ok tj =>
    obtain ⟨t', j'⟩ := tj
    rw [hm] at hf hr
    obtain ⟨⟨rfl, rfl, rfl⟩, rfl, hj⟩ := hf
    have hlt := repM_lt hc hm
    exact ⟨⟨by omega, .inl ⟨rfl, rfl, hj, n, by omega, hr⟩⟩, fun _ => hlt⟩
 ·exact absurd rfl he
def KcA (blk off : Nat) (W : World) (x y z u v t : Value) : Prop := W.cell? ⟨blk, off, none⟩ = some x ∧ W.cell? ⟨blk, off + 1, none⟩ = some y ∧ W.cell? ⟨blk, off + 2, none⟩ = some z ∧ W.cell? ⟨blk, off + 3, none⟩ = some u ∧ W.cell? ⟨blk, off + 4, none⟩ = some v ∧ W.cell? ⟨blk, off + 5, none⟩ = some t
theorem KcA.mv {blk off : Nat} {W W' : World} {x y z u v t : Value} (h : KcA blk off W x y z u v t) (hb : W'.heap[blk]? = W.heap[blk]?) : KcA blk off W' x y z u v t := by
 have hh : ∀ i, W'.cell? ⟨blk, i, none⟩ = W.cell? ⟨blk, i, none⟩ := fun i => World.cell?_of_block (w := W) (w' := W') (a := ⟨blk, i, none⟩) hb
 obtain ⟨h0, h1, h2, h3, h4, h5⟩ := h
 exact ⟨(hh _).trans h0, (hh _).trans h1, (hh _).trans h2, (hh _).trans h3, (hh _).trans h4, (hh _).trans h5⟩
theorem row_head {Fb : Nat → Prop} {W : World} {t : NT} {a : Option Addr} {n c : Nat} (h : RW Fb 6 (KR Fb W) W [t] (.slice a n c)) : n = 1 ∧ ∃ (blk off : Nat) (op : Int) (ra : Option Addr) (rn rc : Nat) (nm : List UInt8) (ka : Option Addr) (kn kc : Nat) (mn mx : Int), a = some ⟨blk, off, none⟩ ∧ blk < W.heap.size ∧ Fb blk ∧ KcA blk off W (.int .i64 op) (.slice ra rn rc) (.string ⟨nm.toArray⟩) (.slice ka kn kc) (.int .i64 mn) (.int .i64 mx) ∧ NG Fb W t (.agg #[.int .i64 op, .slice ra rn rc, .string ⟨nm.toArray⟩, .slice ka kn kc, .int .i64 mn, .int .i64 mx]) := by
 obtain ⟨a', c', e, _, hk⟩ := h
 injection e with e1 e2 e3
 subst e1 e3
 obtain ⟨blk, off, rfl, hl, hF, hc⟩ := hk (by simp)
 obtain ⟨us, hu, hcell, hr⟩ := hc 0 (by simp)
 have hT : NG Fb W t (.agg us.toArray) := hr
 obtain ⟨op, rs, nm, kk, mn, mx, ra, rc, ka, kc, ht, he, _⟩ := hT.open
 injection he with he
 have hus : us = [.int .i64 op, .slice ra rs.length rc, .string ⟨nm.toArray⟩, .slice ka kk.length kc, .int .i64 mn, .int .i64 mx] := by
  have := congrArg Array.toList he
  simpa using this
 subst hus
 refine ⟨e2, blk, off, op, ra, rs.length, rc, nm, ka, kk.length, kc, mn, mx, rfl, hl, hF, ?_, hT⟩
 have h0 := hcell 0 (by decide)
 have h1 := hcell 1 (by decide)
 have h2 := hcell 2 (by decide)
 have h3 := hcell 3 (by decide)
 have h4 := hcell 4 (by decide)
 have h5 := hcell 5 (by decide)
 simp only [Nat.zero_mul, Nat.add_zero] at h0 h1 h2 h3 h4 h5
 exact ⟨h0, h1, h2, h3, h4, h5⟩
def GvX (w : World) (l : List UInt8) (j e bad : Nat) (A A2 : Value) (t : NT) (k : Nat) (v : Value) (W : World) : Prop :=
 match k with
 | 0 => v = .agg #[.string ⟨l.toArray⟩, .int .i64 (j : Int), .int .i64 (e : Int), .int .i64 (bad : Int)]
 | 1 => v = A
 | 2 => v = A2
 | 3 => NdV w t W v
 | 4 => PAt w l j e bad W
 | 5 => NdA w t W
 | _ => True
theorem GvX.keep (w : World) (l : List UInt8) (j e bad : Nat) (A A2 : Value) (t : NT) : ∀ k v W W', RkN w l j e bad t W W' → GvX w l j e bad A A2 t k v W → GvX w l j e bad A A2 t k v W' := by
 intro k v W W' hr hg
 match k with
 | 0 => exact hg
 | 1 => exact hg
 | 2 => exact hg
 | 3 => exact NdV.go hr.1 hg
 | 4 => exact hr.2.1 hg
 | 5 => exact hr.2.2 hg
 | k + 6 => trivial
set_option maxHeartbeats 16000000 in
set_option maxRecDepth 1000000 in
theorem rcat_any (l : List UInt8) (ch : Nat → Out NT) (hl : l.length ≤ 1000) (hc : Goes ch) (i : Nat) (hi : i ≤ l.length) (hrep : ∀ k, i ≤ k → k ≤ l.length → RdR 93 l k (repM ch l k)) : RdR 78 l i (catM ch l i) := by
 intro w
 have HRP := Lib.hid hrep
 have HGO := Lib.hid hc
 obtain ⟨R, hR⟩ : ∃ R, catM ch l i = R := ⟨_, rfl⟩
 rw [hR]
 have HI0 : Hid (CtI ch l R i 0 0 []) := Lib.hid ⟨by omega, .inl ⟨rfl, rfl, hi, l.length + 1, by omega, hR⟩⟩
 clear hrep hR hc
 have HN0 : Hid (RN w l i 0 0 (((w.alloc (.cells #[.string ⟨l.toArray⟩, .int .i64 (i : Int), .int .i64 0, .int .i64 0] 111)).alloc (.cells #[.string ⟨#[]⟩, .int .i64 0, .int .i64 0, .int .i64 0] 111)).alloc (.cells #[.int .i64 0, .slice none 0 0, .string ⟨#[]⟩, .slice none 0 0, .int .i64 0, .int .i64 0] 38))) := Lib.hid (RN.start w l i 0 0)
 have HQ0 : Hid (QL (fun k => w.heap.size + 1 + 1 < k) (w.heap.size + 1 + 1 + 1) w l i 0 0 [] (.slice none 0 0) (((w.alloc (.cells #[.string ⟨l.toArray⟩, .int .i64 (i : Int), .int .i64 0, .int .i64 0] 111)).alloc (.cells #[.string ⟨#[]⟩, .int .i64 0, .int .i64 0, .int .i64 0] 111)).alloc (.cells #[.int .i64 0, .slice none 0 0, .string ⟨#[]⟩, .slice none 0 0, .int .i64 0, .int .i64 0] 38))) := Lib.hid (QL.start HN0.out)
 obtain ⟨i0, hz, hz0, hz1, hz2⟩ := info_parts infoN
 go_enter Tryz.func78, Tryz.ntmps78
 go_wp2_with fail
 go_loopw [4] (fun v wr => ∃ (k e bad : Nat) (kids : List NT), Hid (CtI ch l R k e bad kids) ∧ (e = 0 → i ≤ k) ∧ (e = 0 → kids.length ≤ k) ∧ kids.length ≤ 2001 ∧ Hid (QL (fun k => w.heap.size + 1 + 1 < k) (w.heap.size + 1 + 1 + 1) w l k e bad kids v wr)) (fun _ wr => QL.left w wr)
 case atStart => exact ⟨i, 0, 0, [], HI0, fun _ => Nat.le_refl _, by simp, by simp, HQ0⟩
 case round =>
  obtain ⟨k, e, bad, kids, HI, hik, hkk, hkm, HQ⟩ := hrel
  clear HQ0 HI0 HN0
  obtain ⟨sa, sc, rfl, _⟩ := HQ.out.rows
  have hbad : e = 0 → bad = 0 := fun he => by rcases HI.out.2 with ⟨_, h, _⟩ | ⟨h, _⟩; exact h; exact absurd he h
  have HPK := Lib.hid fun W => rpeek_any l k 0 0 W
  have hcase : (e ≠ 0 ∨ (e = 0 ∧ l.length ≤ k) ∨ (e = 0 ∧ k < l.length ∧ pk l k = 124) ∨ (e = 0 ∧ k < l.length ∧ pk l k ≠ 124 ∧ pk l k = 41)) ∨ (e = 0 ∧ k < l.length ∧ pk l k ≠ 124 ∧ pk l k ≠ 41) := by omega
  rcases hcase with hstop | ⟨rfl, hkl, hn1, hn2⟩
  ·have HEND : Hid (EndR l R (joinT 2 kids) k e bad) := Lib.hid (HI.out.stop (by
    rcases hstop with h | ⟨_, h⟩ | ⟨_, _, h⟩ | ⟨_, _, _, h⟩
    ·exact .inl h
    ·exact .inr (.inl (by unfold Asc.at_; rw [List.getElem?_eq_none h]))
    ·exact .inr (.inr (.inl ((pk_eq (by decide) (by decide)).1 h)))
    ·exact .inr (.inr (.inr ((pk_eq (by decide) (by decide)).1 h)))))
   have HX := HQ
   rcases hstop with he | ⟨rfl, hge⟩ | ⟨rfl, hkl, h124⟩ | ⟨rfl, hkl, h124, h41⟩
   ·have z1 : ((e : Int) == 0) = false := by rw [beq_eq_false_iff_ne]; omega
    clear he HQ
    obtain ⟨⟨c0, c1, c2, c3⟩, f0, f1, f2, f3⟩ := HX.out.rn.ri.cs
    obtain ⟨⟨ra, rb, rc, rd, r0, r1, r2, r3⟩, g0, g1, g2, g3⟩ := HX.out.rn.ri.rs
    obtain ⟨⟨na, nb, nc, nd, ne, nf, n0, n1, n2, n3, n4, n5⟩, m0, m1, m2, m3, m4, m5⟩ := HX.out.rn.ns
    go_upto_region 6 with fail
    clear c0 c1 c2 c3 f0 f1 f2 f3 r0 r1 r2 r3 g0 g1 g2 g3 n0 n1 n2 n3 n4 n5 m0 m1 m2 m3 m4 m5
    match kids, HX, HEND with
    | [], HX, HEND =>
     have HN8 := Lib.hid HX.out.rn
     clear HX
     obtain ⟨⟨c0, c1, c2, c3⟩, f0, f1, f2, f3⟩ := HN8.out.ri.cs
     obtain ⟨⟨ra, rb, rc, rd, r0, r1, r2, r3⟩, g0, g1, g2, g3⟩ := HN8.out.ri.rs
     obtain ⟨⟨na, nb, nc, nd, ne, nf, n0, n1, n2, n3, n4, n5⟩, m0, m1, m2, m3, m4, m5⟩ := HN8.out.ns
     go_wp2_with fail
     exact HN8.out.ret (P := 2) (N := 3) rfl (by rfl) (by rfl) (NG.node (rs := []) (kids := []) RW.nil RW.nil 0 [] 0 0 (by simp)) HEND.out
    | [t], HX, HEND =>
     obtain ⟨_, blk, off, op1, ra1, rn1, rc1, nm1, ka1, kn1, kc1, mn1, mx1, rfl, hbl, hF, hkc, hng⟩ := row_head HX.out.rows
     have HN8 := Lib.hid HX.out.rn
     have HK8 := Lib.hid hkc
     have HT8 := Lib.hid hng
     have HQK : Hid (blk ≠ w.heap.size + 1 + 1 ∧ blk ≠ w.heap.size + 1) := Lib.hid (by omega)
     clear hkc hng HX hF hbl
     go_wp2_with fail
     refine wp_region_slotsB (by rfl) (by kernel_rfl) (by kernel_rfl) 51 [] [(1, .pointer (some ⟨w.heap.size, 0, none⟩)), (2, .pointer (some ⟨w.heap.size + 1, 0, none⟩)), (3, .pointer (some ⟨w.heap.size + 1 + 1, 0, none⟩)), (4, .slice (some ⟨blk, off, none⟩) 1 sc)] (by kernel_rfl) (fun W => RN w l k e bad W ∧ KcA blk off W (.int .i64 op1) (.slice ra1 rn1 rc1) (.string ⟨nm1.toArray⟩) (.slice ka1 kn1 kc1) (.int .i64 mn1) (.int .i64 mx1) ∧ NG (fun k => w.heap.size + 1 + 1 < k) W t (.agg #[.int .i64 op1, .slice ra1 rn1 rc1, .string ⟨nm1.toArray⟩, .slice ka1 kn1 kc1, .int .i64 mn1, .int .i64 mx1])) (RkN w l k e bad t) (GvX w l k e bad (.slice (some ⟨blk, off, none⟩) 1 sc) (.pointer (some ⟨blk, off, none⟩)) t) (GvX.keep w l k e bad (.slice (some ⟨blk, off, none⟩) 1 sc) (.pointer (some ⟨blk, off, none⟩)) t) ?_ ?_ ⟨rfl, rfl, fun s v hs => ?_, HN8.out.go (Below.refl _ _).drew, HK8.out, NG.go (Stay.drew _) _ _ HT8.out⟩
     case refine_1 =>
      intro i9 o ho ac W hB hd K hK
      have hk5 : i9 < 6 := (Array.getElem?_eq_some_iff.1 ho).1
      have hs1 : ac.tmps.getD 1 undef = .pointer (some ⟨w.heap.size, 0, none⟩) := hB.fixed 1 _ (by simp)
      have hs2 : ac.tmps.getD 2 undef = .pointer (some ⟨w.heap.size + 1, 0, none⟩) := hB.fixed 2 _ (by simp)
      have hs3 : ac.tmps.getD 3 undef = .pointer (some ⟨w.heap.size + 1 + 1, 0, none⟩) := hB.fixed 3 _ (by simp)
      have hs4 : ac.tmps.getD 4 undef = .slice (some ⟨blk, off, none⟩) 1 sc := hB.fixed 4 _ (by simp)
      obtain ⟨hi, hkb, hng⟩ := hB.inv
      have HIW := Lib.hid hi
      have HKW := Lib.hid hkb
      have HTW := Lib.hid hng
      have HKK := Lib.hid hK
      obtain ⟨⟨c0, c1, c2, c3⟩, f0, f1, f2, f3⟩ := HIW.out.ri.cs
      obtain ⟨⟨ra, rb, rc, rd, r0, r1, r2, r3⟩, g0, g1, g2, g3⟩ := HIW.out.ri.rs
      obtain ⟨⟨na, nb, nc, nd, ne, nf, n0, n1, n2, n3, n4, n5⟩, m0, m1, m2, m3, m4, m5⟩ := HIW.out.ns
      obtain ⟨k0, k1, k2, k3, k4, k5⟩ := HKW.out
      clear hK hB hi hkb hng
      rcases (show i9 = 0 ∨ i9 = 1 ∨ i9 = 2 ∨ i9 = 3 ∨ i9 = 4 ∨ i9 = 5 by omega) with rfl | rfl | rfl | rfl | rfl | rfl
      ·obtain rfl := Option.some.inj ho
       go_simp
       exact HKK.out _ _ (RkN.refl _ _ _ _ _ _ _) ⟨HIW.out, HKW.out, HTW.out⟩ rfl
      ·obtain rfl := Option.some.inj ho
       go_simp
       exact HKK.out _ _ (RkN.refl _ _ _ _ _ _ _) ⟨HIW.out, HKW.out, HTW.out⟩ rfl
      ·obtain rfl := Option.some.inj ho
       have hd1 : ac.tmps.getD 45 undef = .slice (some ⟨blk, off, none⟩) 1 sc := hd ⟨1, .data⟩ (by simp) rfl
       go_simp
       exact HKK.out _ _ (RkN.refl _ _ _ _ _ _ _) ⟨HIW.out, HKW.out, HTW.out⟩ rfl
      ·obtain rfl := Option.some.inj ho
       have hd2 : ac.tmps.getD 46 undef = .pointer (some ⟨blk, off, none⟩) := hd ⟨2, .data⟩ (by simp) rfl
       go_simp
       exact HKK.out _ _ (RkN.refl _ _ _ _ _ _ _) ⟨HIW.out, HKW.out, HTW.out⟩ ⟨⟨_, _, _, _, _, _, _, _, _, _, rfl⟩, HTW.out⟩
      ·obtain rfl := Option.some.inj ho
       have hd0 : ac.tmps.getD 44 undef = .agg #[.string ⟨l.toArray⟩, .int .i64 (k : Int), .int .i64 (e : Int), .int .i64 (bad : Int)] := hd ⟨0, .data⟩ (by simp) rfl
       obtain ⟨s1, s2, s3, s4⟩ := HIW.out.stpK t
       have S1 := Lib.hid s1
       have S2 := Lib.hid s2
       have S3 := Lib.hid s3
       have S4 := Lib.hid (HKW.out.mv (s4 _ HQK.out.2))
       have S5 := Lib.hid (NG.go s2.1 _ _ HTW.out)
       clear s1 s2 s3 s4
       go_simp
       exact HKK.out undef _ S2.out ⟨S1.out, S4.out, S5.out⟩ S3.out
      ·obtain rfl := Option.some.inj ho
       obtain ⟨⟨opx, rax, rnx, rcx, nmx, kax, knx, kcx, mnx, mxx, hd2⟩, hT3⟩ : NdV w t W (ac.tmps.getD 47 undef) := hd ⟨3, .data⟩ (by simp) rfl
       rw [hd2] at hT3
       obtain ⟨s1, s2, s3, s4⟩ := HIW.out.stnK hT3
       have S1 := Lib.hid s1
       have S2 := Lib.hid s2
       have S3 := Lib.hid s3
       have S4 := Lib.hid (HKW.out.mv (s4 _ HQK.out.1))
       have S5 := Lib.hid (NG.go s2.1 _ _ HTW.out)
       clear s1 s2 s3 s4 hT3
       go_simp
       exact HKK.out undef _ S2.out ⟨S1.out, S4.out, S5.out⟩ S3.out
     case refine_2 =>
      intro ac W hB hG
      have h2 : PAt w l k e bad W := hG 4 (by decide)
      have h4 : NdA w t W := hG 5 (by decide)
      have hs2 : ac.tmps.getD 2 undef = .pointer (some ⟨w.heap.size + 1, 0, none⟩) := hB.fixed 2 _ (by simp)
      have hs3 : ac.tmps.getD 3 undef = .pointer (some ⟨w.heap.size + 1 + 1, 0, none⟩) := hB.fixed 3 _ (by simp)
      have hbw := hB.inv.1.ri.bl
      have hdf := hB.defers
      obtain ⟨tm, df⟩ := ac
      obtain rfl : df = [] := hdf
      have HR9 := Lib.hid (RN.endK h2 h4 hbw (fn := Tryz.f78) (tmps := tm) rfl hs2 hs3 (r := R) HEND.out)
      clear hB hG h2 h4 hs2 hs3
      go_wp2_with fail
      exact HR9.out
     case refine_3 =>
      simp only [List.mem_cons, Prod.mk.injEq, List.not_mem_nil, or_false] at hs
      rcases hs with ⟨rfl, rfl⟩ | ⟨rfl, rfl⟩ | ⟨rfl, rfl⟩ | ⟨rfl, rfl⟩ <;> rfl
    | t :: u :: rest, HX, HEND =>
     have HRR := Lib.hid HX.out.rows
     have HN8 := Lib.hid HX.out.rn
     have hln : 2 ≤ (t :: u :: rest).length := by simp
     have hHE : EndR l R (.node 2 [] [] (t :: u :: rest) 0 0) k e bad := HEND.out
     have HEN := Lib.hid hHE
     obtain ⟨ks, hks⟩ : ∃ ks, t :: u :: rest = ks := ⟨_, rfl⟩
     rw [hks] at HRR hln HEN ⊢
     have zl0 : ((ks.length : Int) == 0) = false := by rw [beq_eq_false_iff_ne]; omega
     have zl1 : ((ks.length : Int) == 1) = false := by rw [beq_eq_false_iff_ne]; omega
     clear HX hHE HEND hks
     obtain ⟨⟨c0, c1, c2, c3⟩, f0, f1, f2, f3⟩ := HN8.out.ri.cs
     obtain ⟨⟨ra, rb, rc, rd, r0, r1, r2, r3⟩, g0, g1, g2, g3⟩ := HN8.out.ri.rs
     obtain ⟨⟨na, nb, nc, nd, ne, nf, n0, n1, n2, n3, n4, n5⟩, m0, m1, m2, m3, m4, m5⟩ := HN8.out.ns
     go_wp2_with fail
     exact HN8.out.ret (P := 2) (N := 3) rfl (by rfl) (by rfl) (NG.many HRR.out 2) HEN.out
   ·have z2 : decide ((k : Int) < (l.length : Int)) = false := decide_eq_false (by omega)
    have y2 : decide (k < l.length) = false := decide_eq_false (by omega)
    obtain rfl : bad = 0 := hbad rfl
    clear hge HQ
    obtain ⟨⟨c0, c1, c2, c3⟩, f0, f1, f2, f3⟩ := HX.out.rn.ri.cs
    obtain ⟨⟨ra, rb, rc, rd, r0, r1, r2, r3⟩, g0, g1, g2, g3⟩ := HX.out.rn.ri.rs
    obtain ⟨⟨na, nb, nc, nd, ne, nf, n0, n1, n2, n3, n4, n5⟩, m0, m1, m2, m3, m4, m5⟩ := HX.out.rn.ns
    go_upto_region 6 with fail
    clear c0 c1 c2 c3 f0 f1 f2 f3 r0 r1 r2 r3 g0 g1 g2 g3 n0 n1 n2 n3 n4 n5 m0 m1 m2 m3 m4 m5
    match kids, HX, HEND with
    | [], HX, HEND =>
     have HN8 := Lib.hid HX.out.rn
     clear HX
     obtain ⟨⟨c0, c1, c2, c3⟩, f0, f1, f2, f3⟩ := HN8.out.ri.cs
     obtain ⟨⟨ra, rb, rc, rd, r0, r1, r2, r3⟩, g0, g1, g2, g3⟩ := HN8.out.ri.rs
     obtain ⟨⟨na, nb, nc, nd, ne, nf, n0, n1, n2, n3, n4, n5⟩, m0, m1, m2, m3, m4, m5⟩ := HN8.out.ns
     go_wp2_with fail
     exact HN8.out.ret (P := 2) (N := 3) rfl (by rfl) (by rfl) (NG.node (rs := []) (kids := []) RW.nil RW.nil 0 [] 0 0 (by simp)) HEND.out
    | [t], HX, HEND =>
     obtain ⟨_, blk, off, op1, ra1, rn1, rc1, nm1, ka1, kn1, kc1, mn1, mx1, rfl, hbl, hF, hkc, hng⟩ := row_head HX.out.rows
     have HN8 := Lib.hid HX.out.rn
     have HK8 := Lib.hid hkc
     have HT8 := Lib.hid hng
     have HQK : Hid (blk ≠ w.heap.size + 1 + 1 ∧ blk ≠ w.heap.size + 1) := Lib.hid (by omega)
     clear hkc hng HX hF hbl
     go_wp2_with fail
     refine wp_region_slotsB (by rfl) (by kernel_rfl) (by kernel_rfl) 51 [] [(1, .pointer (some ⟨w.heap.size, 0, none⟩)), (2, .pointer (some ⟨w.heap.size + 1, 0, none⟩)), (3, .pointer (some ⟨w.heap.size + 1 + 1, 0, none⟩)), (4, .slice (some ⟨blk, off, none⟩) 1 sc)] (by kernel_rfl) (fun W => RN w l k 0 0 W ∧ KcA blk off W (.int .i64 op1) (.slice ra1 rn1 rc1) (.string ⟨nm1.toArray⟩) (.slice ka1 kn1 kc1) (.int .i64 mn1) (.int .i64 mx1) ∧ NG (fun k => w.heap.size + 1 + 1 < k) W t (.agg #[.int .i64 op1, .slice ra1 rn1 rc1, .string ⟨nm1.toArray⟩, .slice ka1 kn1 kc1, .int .i64 mn1, .int .i64 mx1])) (RkN w l k 0 0 t) (GvX w l k 0 0 (.slice (some ⟨blk, off, none⟩) 1 sc) (.pointer (some ⟨blk, off, none⟩)) t) (GvX.keep w l k 0 0 (.slice (some ⟨blk, off, none⟩) 1 sc) (.pointer (some ⟨blk, off, none⟩)) t) ?_ ?_ ⟨rfl, rfl, fun s v hs => ?_, HN8.out.go (Below.refl _ _).drew, HK8.out, NG.go (Stay.drew _) _ _ HT8.out⟩
     case refine_1 =>
      intro i9 o ho ac W hB hd K hK
      have hk5 : i9 < 6 := (Array.getElem?_eq_some_iff.1 ho).1
      have hs1 : ac.tmps.getD 1 undef = .pointer (some ⟨w.heap.size, 0, none⟩) := hB.fixed 1 _ (by simp)
      have hs2 : ac.tmps.getD 2 undef = .pointer (some ⟨w.heap.size + 1, 0, none⟩) := hB.fixed 2 _ (by simp)
      have hs3 : ac.tmps.getD 3 undef = .pointer (some ⟨w.heap.size + 1 + 1, 0, none⟩) := hB.fixed 3 _ (by simp)
      have hs4 : ac.tmps.getD 4 undef = .slice (some ⟨blk, off, none⟩) 1 sc := hB.fixed 4 _ (by simp)
      obtain ⟨hi, hkb, hng⟩ := hB.inv
      have HIW := Lib.hid hi
      have HKW := Lib.hid hkb
      have HTW := Lib.hid hng
      have HKK := Lib.hid hK
      obtain ⟨⟨c0, c1, c2, c3⟩, f0, f1, f2, f3⟩ := HIW.out.ri.cs
      obtain ⟨⟨ra, rb, rc, rd, r0, r1, r2, r3⟩, g0, g1, g2, g3⟩ := HIW.out.ri.rs
      obtain ⟨⟨na, nb, nc, nd, ne, nf, n0, n1, n2, n3, n4, n5⟩, m0, m1, m2, m3, m4, m5⟩ := HIW.out.ns
      obtain ⟨k0, k1, k2, k3, k4, k5⟩ := HKW.out
      clear hK hB hi hkb hng
      rcases (show i9 = 0 ∨ i9 = 1 ∨ i9 = 2 ∨ i9 = 3 ∨ i9 = 4 ∨ i9 = 5 by omega) with rfl | rfl | rfl | rfl | rfl | rfl
      ·obtain rfl := Option.some.inj ho
       go_simp
       exact HKK.out _ _ (RkN.refl _ _ _ _ _ _ _) ⟨HIW.out, HKW.out, HTW.out⟩ rfl
      ·obtain rfl := Option.some.inj ho
       go_simp
       exact HKK.out _ _ (RkN.refl _ _ _ _ _ _ _) ⟨HIW.out, HKW.out, HTW.out⟩ rfl
      ·obtain rfl := Option.some.inj ho
       have hd1 : ac.tmps.getD 45 undef = .slice (some ⟨blk, off, none⟩) 1 sc := hd ⟨1, .data⟩ (by simp) rfl
       go_simp
       exact HKK.out _ _ (RkN.refl _ _ _ _ _ _ _) ⟨HIW.out, HKW.out, HTW.out⟩ rfl
      ·obtain rfl := Option.some.inj ho
       have hd2 : ac.tmps.getD 46 undef = .pointer (some ⟨blk, off, none⟩) := hd ⟨2, .data⟩ (by simp) rfl
       go_simp
       exact HKK.out _ _ (RkN.refl _ _ _ _ _ _ _) ⟨HIW.out, HKW.out, HTW.out⟩ ⟨⟨_, _, _, _, _, _, _, _, _, _, rfl⟩, HTW.out⟩
      ·obtain rfl := Option.some.inj ho
       have hd0 : ac.tmps.getD 44 undef = .agg #[.string ⟨l.toArray⟩, .int .i64 (k : Int), .int .i64 0, .int .i64 0] := hd ⟨0, .data⟩ (by simp) rfl
       obtain ⟨s1, s2, s3, s4⟩ := HIW.out.stpK t
       have S1 := Lib.hid s1
       have S2 := Lib.hid s2
       have S3 := Lib.hid s3
       have S4 := Lib.hid (HKW.out.mv (s4 _ HQK.out.2))
       have S5 := Lib.hid (NG.go s2.1 _ _ HTW.out)
       clear s1 s2 s3 s4
       go_simp
       exact HKK.out undef _ S2.out ⟨S1.out, S4.out, S5.out⟩ S3.out
      ·obtain rfl := Option.some.inj ho
       obtain ⟨⟨opx, rax, rnx, rcx, nmx, kax, knx, kcx, mnx, mxx, hd2⟩, hT3⟩ : NdV w t W (ac.tmps.getD 47 undef) := hd ⟨3, .data⟩ (by simp) rfl
       rw [hd2] at hT3
       obtain ⟨s1, s2, s3, s4⟩ := HIW.out.stnK hT3
       have S1 := Lib.hid s1
       have S2 := Lib.hid s2
       have S3 := Lib.hid s3
       have S4 := Lib.hid (HKW.out.mv (s4 _ HQK.out.1))
       have S5 := Lib.hid (NG.go s2.1 _ _ HTW.out)
       clear s1 s2 s3 s4 hT3
       go_simp
       exact HKK.out undef _ S2.out ⟨S1.out, S4.out, S5.out⟩ S3.out
     case refine_2 =>
      intro ac W hB hG
      have h2 : PAt w l k 0 0 W := hG 4 (by decide)
      have h4 : NdA w t W := hG 5 (by decide)
      have hs2 : ac.tmps.getD 2 undef = .pointer (some ⟨w.heap.size + 1, 0, none⟩) := hB.fixed 2 _ (by simp)
      have hs3 : ac.tmps.getD 3 undef = .pointer (some ⟨w.heap.size + 1 + 1, 0, none⟩) := hB.fixed 3 _ (by simp)
      have hbw := hB.inv.1.ri.bl
      have hdf := hB.defers
      obtain ⟨tm, df⟩ := ac
      obtain rfl : df = [] := hdf
      have HR9 := Lib.hid (RN.endK h2 h4 hbw (fn := Tryz.f78) (tmps := tm) rfl hs2 hs3 (r := R) HEND.out)
      clear hB hG h2 h4 hs2 hs3
      go_wp2_with fail
      exact HR9.out
     case refine_3 =>
      simp only [List.mem_cons, Prod.mk.injEq, List.not_mem_nil, or_false] at hs
      rcases hs with ⟨rfl, rfl⟩ | ⟨rfl, rfl⟩ | ⟨rfl, rfl⟩ | ⟨rfl, rfl⟩ <;> rfl
    | t :: u :: rest, HX, HEND =>
     have HRR := Lib.hid HX.out.rows
     have HN8 := Lib.hid HX.out.rn
     have hln : 2 ≤ (t :: u :: rest).length := by simp
     have hHE : EndR l R (.node 2 [] [] (t :: u :: rest) 0 0) k 0 0 := HEND.out
     have HEN := Lib.hid hHE
     obtain ⟨ks, hks⟩ : ∃ ks, t :: u :: rest = ks := ⟨_, rfl⟩
     rw [hks] at HRR hln HEN ⊢
     have zl0 : ((ks.length : Int) == 0) = false := by rw [beq_eq_false_iff_ne]; omega
     have zl1 : ((ks.length : Int) == 1) = false := by rw [beq_eq_false_iff_ne]; omega
     clear HX hHE HEND hks
     obtain ⟨⟨c0, c1, c2, c3⟩, f0, f1, f2, f3⟩ := HN8.out.ri.cs
     obtain ⟨⟨ra, rb, rc, rd, r0, r1, r2, r3⟩, g0, g1, g2, g3⟩ := HN8.out.ri.rs
     obtain ⟨⟨na, nb, nc, nd, ne, nf, n0, n1, n2, n3, n4, n5⟩, m0, m1, m2, m3, m4, m5⟩ := HN8.out.ns
     go_wp2_with fail
     exact HN8.out.ret (P := 2) (N := 3) rfl (by rfl) (by rfl) (NG.many HRR.out 2) HEN.out
   ·have y2 : decide ((k : Int) < (l.length : Int)) = true := decide_eq_true (by omega)
    have y3 : decide (k < l.length) = true := decide_eq_true (by omega)
    obtain rfl : bad = 0 := hbad rfl
    rw [h124] at HPK
    clear hkl h124 HQ
    obtain ⟨⟨c0, c1, c2, c3⟩, f0, f1, f2, f3⟩ := HX.out.rn.ri.cs
    obtain ⟨⟨ra, rb, rc, rd, r0, r1, r2, r3⟩, g0, g1, g2, g3⟩ := HX.out.rn.ri.rs
    obtain ⟨⟨na, nb, nc, nd, ne, nf, n0, n1, n2, n3, n4, n5⟩, m0, m1, m2, m3, m4, m5⟩ := HX.out.rn.ns
    go_upto_region 6 with (go_at_call 79; refine (HPK.out _).mono ?_; rintro e9 w2 ⟨rfl, hb⟩; have HX1 := Lib.hid (HX.out.go hb); clear hb HX; have HX := HX1; clear HX1 c0 c1 c2 c3 f0 f1 f2 f3 r0 r1 r2 r3 g0 g1 g2 g3 n0 n1 n2 n3 n4 n5 m0 m1 m2 m3 m4 m5; obtain ⟨⟨c0, c1, c2, c3⟩, f0, f1, f2, f3⟩ := HX.out.rn.ri.cs; obtain ⟨⟨ra, rb, rc, rd, r0, r1, r2, r3⟩, g0, g1, g2, g3⟩ := HX.out.rn.ri.rs; obtain ⟨⟨na, nb, nc, nd, ne, nf, n0, n1, n2, n3, n4, n5⟩, m0, m1, m2, m3, m4, m5⟩ := HX.out.rn.ns)
    clear c0 c1 c2 c3 f0 f1 f2 f3 r0 r1 r2 r3 g0 g1 g2 g3 n0 n1 n2 n3 n4 n5 m0 m1 m2 m3 m4 m5
    match kids, HX, HEND with
    | [], HX, HEND =>
     have HN8 := Lib.hid HX.out.rn
     clear HX
     obtain ⟨⟨c0, c1, c2, c3⟩, f0, f1, f2, f3⟩ := HN8.out.ri.cs
     obtain ⟨⟨ra, rb, rc, rd, r0, r1, r2, r3⟩, g0, g1, g2, g3⟩ := HN8.out.ri.rs
     obtain ⟨⟨na, nb, nc, nd, ne, nf, n0, n1, n2, n3, n4, n5⟩, m0, m1, m2, m3, m4, m5⟩ := HN8.out.ns
     go_wp2_with fail
     exact HN8.out.ret (P := 2) (N := 3) rfl (by rfl) (by rfl) (NG.node (rs := []) (kids := []) RW.nil RW.nil 0 [] 0 0 (by simp)) HEND.out
    | [t], HX, HEND =>
     obtain ⟨_, blk, off, op1, ra1, rn1, rc1, nm1, ka1, kn1, kc1, mn1, mx1, rfl, hbl, hF, hkc, hng⟩ := row_head HX.out.rows
     have HN8 := Lib.hid HX.out.rn
     have HK8 := Lib.hid hkc
     have HT8 := Lib.hid hng
     have HQK : Hid (blk ≠ w.heap.size + 1 + 1 ∧ blk ≠ w.heap.size + 1) := Lib.hid (by omega)
     clear hkc hng HX hF hbl
     go_wp2_with fail
     refine wp_region_slotsB (by rfl) (by kernel_rfl) (by kernel_rfl) 51 [] [(1, .pointer (some ⟨w.heap.size, 0, none⟩)), (2, .pointer (some ⟨w.heap.size + 1, 0, none⟩)), (3, .pointer (some ⟨w.heap.size + 1 + 1, 0, none⟩)), (4, .slice (some ⟨blk, off, none⟩) 1 sc)] (by kernel_rfl) (fun W => RN w l k 0 0 W ∧ KcA blk off W (.int .i64 op1) (.slice ra1 rn1 rc1) (.string ⟨nm1.toArray⟩) (.slice ka1 kn1 kc1) (.int .i64 mn1) (.int .i64 mx1) ∧ NG (fun k => w.heap.size + 1 + 1 < k) W t (.agg #[.int .i64 op1, .slice ra1 rn1 rc1, .string ⟨nm1.toArray⟩, .slice ka1 kn1 kc1, .int .i64 mn1, .int .i64 mx1])) (RkN w l k 0 0 t) (GvX w l k 0 0 (.slice (some ⟨blk, off, none⟩) 1 sc) (.pointer (some ⟨blk, off, none⟩)) t) (GvX.keep w l k 0 0 (.slice (some ⟨blk, off, none⟩) 1 sc) (.pointer (some ⟨blk, off, none⟩)) t) ?_ ?_ ⟨rfl, rfl, fun s v hs => ?_, HN8.out.go (Below.refl _ _).drew, HK8.out, NG.go (Stay.drew _) _ _ HT8.out⟩
     case refine_1 =>
      intro i9 o ho ac W hB hd K hK
      have hk5 : i9 < 6 := (Array.getElem?_eq_some_iff.1 ho).1
      have hs1 : ac.tmps.getD 1 undef = .pointer (some ⟨w.heap.size, 0, none⟩) := hB.fixed 1 _ (by simp)
      have hs2 : ac.tmps.getD 2 undef = .pointer (some ⟨w.heap.size + 1, 0, none⟩) := hB.fixed 2 _ (by simp)
      have hs3 : ac.tmps.getD 3 undef = .pointer (some ⟨w.heap.size + 1 + 1, 0, none⟩) := hB.fixed 3 _ (by simp)
      have hs4 : ac.tmps.getD 4 undef = .slice (some ⟨blk, off, none⟩) 1 sc := hB.fixed 4 _ (by simp)
      obtain ⟨hi, hkb, hng⟩ := hB.inv
      have HIW := Lib.hid hi
      have HKW := Lib.hid hkb
      have HTW := Lib.hid hng
      have HKK := Lib.hid hK
      obtain ⟨⟨c0, c1, c2, c3⟩, f0, f1, f2, f3⟩ := HIW.out.ri.cs
      obtain ⟨⟨ra, rb, rc, rd, r0, r1, r2, r3⟩, g0, g1, g2, g3⟩ := HIW.out.ri.rs
      obtain ⟨⟨na, nb, nc, nd, ne, nf, n0, n1, n2, n3, n4, n5⟩, m0, m1, m2, m3, m4, m5⟩ := HIW.out.ns
      obtain ⟨k0, k1, k2, k3, k4, k5⟩ := HKW.out
      clear hK hB hi hkb hng
      rcases (show i9 = 0 ∨ i9 = 1 ∨ i9 = 2 ∨ i9 = 3 ∨ i9 = 4 ∨ i9 = 5 by omega) with rfl | rfl | rfl | rfl | rfl | rfl
      ·obtain rfl := Option.some.inj ho
       go_simp
       exact HKK.out _ _ (RkN.refl _ _ _ _ _ _ _) ⟨HIW.out, HKW.out, HTW.out⟩ rfl
      ·obtain rfl := Option.some.inj ho
       go_simp
       exact HKK.out _ _ (RkN.refl _ _ _ _ _ _ _) ⟨HIW.out, HKW.out, HTW.out⟩ rfl
      ·obtain rfl := Option.some.inj ho
       have hd1 : ac.tmps.getD 45 undef = .slice (some ⟨blk, off, none⟩) 1 sc := hd ⟨1, .data⟩ (by simp) rfl
       go_simp
       exact HKK.out _ _ (RkN.refl _ _ _ _ _ _ _) ⟨HIW.out, HKW.out, HTW.out⟩ rfl
      ·obtain rfl := Option.some.inj ho
       have hd2 : ac.tmps.getD 46 undef = .pointer (some ⟨blk, off, none⟩) := hd ⟨2, .data⟩ (by simp) rfl
       go_simp
       exact HKK.out _ _ (RkN.refl _ _ _ _ _ _ _) ⟨HIW.out, HKW.out, HTW.out⟩ ⟨⟨_, _, _, _, _, _, _, _, _, _, rfl⟩, HTW.out⟩
      ·obtain rfl := Option.some.inj ho
       have hd0 : ac.tmps.getD 44 undef = .agg #[.string ⟨l.toArray⟩, .int .i64 (k : Int), .int .i64 0, .int .i64 0] := hd ⟨0, .data⟩ (by simp) rfl
       obtain ⟨s1, s2, s3, s4⟩ := HIW.out.stpK t
       have S1 := Lib.hid s1
       have S2 := Lib.hid s2
       have S3 := Lib.hid s3
       have S4 := Lib.hid (HKW.out.mv (s4 _ HQK.out.2))
       have S5 := Lib.hid (NG.go s2.1 _ _ HTW.out)
       clear s1 s2 s3 s4
       go_simp
       exact HKK.out undef _ S2.out ⟨S1.out, S4.out, S5.out⟩ S3.out
      ·obtain rfl := Option.some.inj ho
       obtain ⟨⟨opx, rax, rnx, rcx, nmx, kax, knx, kcx, mnx, mxx, hd2⟩, hT3⟩ : NdV w t W (ac.tmps.getD 47 undef) := hd ⟨3, .data⟩ (by simp) rfl
       rw [hd2] at hT3
       obtain ⟨s1, s2, s3, s4⟩ := HIW.out.stnK hT3
       have S1 := Lib.hid s1
       have S2 := Lib.hid s2
       have S3 := Lib.hid s3
       have S4 := Lib.hid (HKW.out.mv (s4 _ HQK.out.1))
       have S5 := Lib.hid (NG.go s2.1 _ _ HTW.out)
       clear s1 s2 s3 s4 hT3
       go_simp
       exact HKK.out undef _ S2.out ⟨S1.out, S4.out, S5.out⟩ S3.out
     case refine_2 =>
      intro ac W hB hG
      have h2 : PAt w l k 0 0 W := hG 4 (by decide)
      have h4 : NdA w t W := hG 5 (by decide)
      have hs2 : ac.tmps.getD 2 undef = .pointer (some ⟨w.heap.size + 1, 0, none⟩) := hB.fixed 2 _ (by simp)
      have hs3 : ac.tmps.getD 3 undef = .pointer (some ⟨w.heap.size + 1 + 1, 0, none⟩) := hB.fixed 3 _ (by simp)
      have hbw := hB.inv.1.ri.bl
      have hdf := hB.defers
      obtain ⟨tm, df⟩ := ac
      obtain rfl : df = [] := hdf
      have HR9 := Lib.hid (RN.endK h2 h4 hbw (fn := Tryz.f78) (tmps := tm) rfl hs2 hs3 (r := R) HEND.out)
      clear hB hG h2 h4 hs2 hs3
      go_wp2_with fail
      exact HR9.out
     case refine_3 =>
      simp only [List.mem_cons, Prod.mk.injEq, List.not_mem_nil, or_false] at hs
      rcases hs with ⟨rfl, rfl⟩ | ⟨rfl, rfl⟩ | ⟨rfl, rfl⟩ | ⟨rfl, rfl⟩ <;> rfl
    | t :: u :: rest, HX, HEND =>
     have HRR := Lib.hid HX.out.rows
     have HN8 := Lib.hid HX.out.rn
     have hln : 2 ≤ (t :: u :: rest).length := by simp
     have hHE : EndR l R (.node 2 [] [] (t :: u :: rest) 0 0) k 0 0 := HEND.out
     have HEN := Lib.hid hHE
     obtain ⟨ks, hks⟩ : ∃ ks, t :: u :: rest = ks := ⟨_, rfl⟩
     rw [hks] at HRR hln HEN ⊢
     have zl0 : ((ks.length : Int) == 0) = false := by rw [beq_eq_false_iff_ne]; omega
     have zl1 : ((ks.length : Int) == 1) = false := by rw [beq_eq_false_iff_ne]; omega
     clear HX hHE HEND hks
     obtain ⟨⟨c0, c1, c2, c3⟩, f0, f1, f2, f3⟩ := HN8.out.ri.cs
     obtain ⟨⟨ra, rb, rc, rd, r0, r1, r2, r3⟩, g0, g1, g2, g3⟩ := HN8.out.ri.rs
     obtain ⟨⟨na, nb, nc, nd, ne, nf, n0, n1, n2, n3, n4, n5⟩, m0, m1, m2, m3, m4, m5⟩ := HN8.out.ns
     go_wp2_with fail
     exact HN8.out.ret (P := 2) (N := 3) rfl (by rfl) (by rfl) (NG.many HRR.out 2) HEN.out
   ·have y2 : decide ((k : Int) < (l.length : Int)) = true := decide_eq_true (by omega)
    have y3 : decide (k < l.length) = true := decide_eq_true (by omega)
    obtain rfl : bad = 0 := hbad rfl
    rw [h41] at HPK
    clear hkl h124 h41 HQ
    obtain ⟨⟨c0, c1, c2, c3⟩, f0, f1, f2, f3⟩ := HX.out.rn.ri.cs
    obtain ⟨⟨ra, rb, rc, rd, r0, r1, r2, r3⟩, g0, g1, g2, g3⟩ := HX.out.rn.ri.rs
    obtain ⟨⟨na, nb, nc, nd, ne, nf, n0, n1, n2, n3, n4, n5⟩, m0, m1, m2, m3, m4, m5⟩ := HX.out.rn.ns
    go_upto_region 6 with (go_at_call 79; refine (HPK.out _).mono ?_; rintro e9 w2 ⟨rfl, hb⟩; have HX1 := Lib.hid (HX.out.go hb); clear hb HX; have HX := HX1; clear HX1 c0 c1 c2 c3 f0 f1 f2 f3 r0 r1 r2 r3 g0 g1 g2 g3 n0 n1 n2 n3 n4 n5 m0 m1 m2 m3 m4 m5; obtain ⟨⟨c0, c1, c2, c3⟩, f0, f1, f2, f3⟩ := HX.out.rn.ri.cs; obtain ⟨⟨ra, rb, rc, rd, r0, r1, r2, r3⟩, g0, g1, g2, g3⟩ := HX.out.rn.ri.rs; obtain ⟨⟨na, nb, nc, nd, ne, nf, n0, n1, n2, n3, n4, n5⟩, m0, m1, m2, m3, m4, m5⟩ := HX.out.rn.ns)
    clear c0 c1 c2 c3 f0 f1 f2 f3 r0 r1 r2 r3 g0 g1 g2 g3 n0 n1 n2 n3 n4 n5 m0 m1 m2 m3 m4 m5
    match kids, HX, HEND with
    | [], HX, HEND =>
     have HN8 := Lib.hid HX.out.rn
     clear HX
     obtain ⟨⟨c0, c1, c2, c3⟩, f0, f1, f2, f3⟩ := HN8.out.ri.cs
     obtain ⟨⟨ra, rb, rc, rd, r0, r1, r2, r3⟩, g0, g1, g2, g3⟩ := HN8.out.ri.rs
     obtain ⟨⟨na, nb, nc, nd, ne, nf, n0, n1, n2, n3, n4, n5⟩, m0, m1, m2, m3, m4, m5⟩ := HN8.out.ns
     go_wp2_with fail
     exact HN8.out.ret (P := 2) (N := 3) rfl (by rfl) (by rfl) (NG.node (rs := []) (kids := []) RW.nil RW.nil 0 [] 0 0 (by simp)) HEND.out
    | [t], HX, HEND =>
     obtain ⟨_, blk, off, op1, ra1, rn1, rc1, nm1, ka1, kn1, kc1, mn1, mx1, rfl, hbl, hF, hkc, hng⟩ := row_head HX.out.rows
     have HN8 := Lib.hid HX.out.rn
     have HK8 := Lib.hid hkc
     have HT8 := Lib.hid hng
     have HQK : Hid (blk ≠ w.heap.size + 1 + 1 ∧ blk ≠ w.heap.size + 1) := Lib.hid (by omega)
     clear hkc hng HX hF hbl
     go_wp2_with fail
     refine wp_region_slotsB (by rfl) (by kernel_rfl) (by kernel_rfl) 51 [] [(1, .pointer (some ⟨w.heap.size, 0, none⟩)), (2, .pointer (some ⟨w.heap.size + 1, 0, none⟩)), (3, .pointer (some ⟨w.heap.size + 1 + 1, 0, none⟩)), (4, .slice (some ⟨blk, off, none⟩) 1 sc)] (by kernel_rfl) (fun W => RN w l k 0 0 W ∧ KcA blk off W (.int .i64 op1) (.slice ra1 rn1 rc1) (.string ⟨nm1.toArray⟩) (.slice ka1 kn1 kc1) (.int .i64 mn1) (.int .i64 mx1) ∧ NG (fun k => w.heap.size + 1 + 1 < k) W t (.agg #[.int .i64 op1, .slice ra1 rn1 rc1, .string ⟨nm1.toArray⟩, .slice ka1 kn1 kc1, .int .i64 mn1, .int .i64 mx1])) (RkN w l k 0 0 t) (GvX w l k 0 0 (.slice (some ⟨blk, off, none⟩) 1 sc) (.pointer (some ⟨blk, off, none⟩)) t) (GvX.keep w l k 0 0 (.slice (some ⟨blk, off, none⟩) 1 sc) (.pointer (some ⟨blk, off, none⟩)) t) ?_ ?_ ⟨rfl, rfl, fun s v hs => ?_, HN8.out.go (Below.refl _ _).drew, HK8.out, NG.go (Stay.drew _) _ _ HT8.out⟩
     case refine_1 =>
      intro i9 o ho ac W hB hd K hK
      have hk5 : i9 < 6 := (Array.getElem?_eq_some_iff.1 ho).1
      have hs1 : ac.tmps.getD 1 undef = .pointer (some ⟨w.heap.size, 0, none⟩) := hB.fixed 1 _ (by simp)
      have hs2 : ac.tmps.getD 2 undef = .pointer (some ⟨w.heap.size + 1, 0, none⟩) := hB.fixed 2 _ (by simp)
      have hs3 : ac.tmps.getD 3 undef = .pointer (some ⟨w.heap.size + 1 + 1, 0, none⟩) := hB.fixed 3 _ (by simp)
      have hs4 : ac.tmps.getD 4 undef = .slice (some ⟨blk, off, none⟩) 1 sc := hB.fixed 4 _ (by simp)
      obtain ⟨hi, hkb, hng⟩ := hB.inv
      have HIW := Lib.hid hi
      have HKW := Lib.hid hkb
      have HTW := Lib.hid hng
      have HKK := Lib.hid hK
      obtain ⟨⟨c0, c1, c2, c3⟩, f0, f1, f2, f3⟩ := HIW.out.ri.cs
      obtain ⟨⟨ra, rb, rc, rd, r0, r1, r2, r3⟩, g0, g1, g2, g3⟩ := HIW.out.ri.rs
      obtain ⟨⟨na, nb, nc, nd, ne, nf, n0, n1, n2, n3, n4, n5⟩, m0, m1, m2, m3, m4, m5⟩ := HIW.out.ns
      obtain ⟨k0, k1, k2, k3, k4, k5⟩ := HKW.out
      clear hK hB hi hkb hng
      rcases (show i9 = 0 ∨ i9 = 1 ∨ i9 = 2 ∨ i9 = 3 ∨ i9 = 4 ∨ i9 = 5 by omega) with rfl | rfl | rfl | rfl | rfl | rfl
      ·obtain rfl := Option.some.inj ho
       go_simp
       exact HKK.out _ _ (RkN.refl _ _ _ _ _ _ _) ⟨HIW.out, HKW.out, HTW.out⟩ rfl
      ·obtain rfl := Option.some.inj ho
       go_simp
       exact HKK.out _ _ (RkN.refl _ _ _ _ _ _ _) ⟨HIW.out, HKW.out, HTW.out⟩ rfl
      ·obtain rfl := Option.some.inj ho
       have hd1 : ac.tmps.getD 45 undef = .slice (some ⟨blk, off, none⟩) 1 sc := hd ⟨1, .data⟩ (by simp) rfl
       go_simp
       exact HKK.out _ _ (RkN.refl _ _ _ _ _ _ _) ⟨HIW.out, HKW.out, HTW.out⟩ rfl
      ·obtain rfl := Option.some.inj ho
       have hd2 : ac.tmps.getD 46 undef = .pointer (some ⟨blk, off, none⟩) := hd ⟨2, .data⟩ (by simp) rfl
       go_simp
       exact HKK.out _ _ (RkN.refl _ _ _ _ _ _ _) ⟨HIW.out, HKW.out, HTW.out⟩ ⟨⟨_, _, _, _, _, _, _, _, _, _, rfl⟩, HTW.out⟩
      ·obtain rfl := Option.some.inj ho
       have hd0 : ac.tmps.getD 44 undef = .agg #[.string ⟨l.toArray⟩, .int .i64 (k : Int), .int .i64 0, .int .i64 0] := hd ⟨0, .data⟩ (by simp) rfl
       obtain ⟨s1, s2, s3, s4⟩ := HIW.out.stpK t
       have S1 := Lib.hid s1
       have S2 := Lib.hid s2
       have S3 := Lib.hid s3
       have S4 := Lib.hid (HKW.out.mv (s4 _ HQK.out.2))
       have S5 := Lib.hid (NG.go s2.1 _ _ HTW.out)
       clear s1 s2 s3 s4
       go_simp
       exact HKK.out undef _ S2.out ⟨S1.out, S4.out, S5.out⟩ S3.out
      ·obtain rfl := Option.some.inj ho
       obtain ⟨⟨opx, rax, rnx, rcx, nmx, kax, knx, kcx, mnx, mxx, hd2⟩, hT3⟩ : NdV w t W (ac.tmps.getD 47 undef) := hd ⟨3, .data⟩ (by simp) rfl
       rw [hd2] at hT3
       obtain ⟨s1, s2, s3, s4⟩ := HIW.out.stnK hT3
       have S1 := Lib.hid s1
       have S2 := Lib.hid s2
       have S3 := Lib.hid s3
       have S4 := Lib.hid (HKW.out.mv (s4 _ HQK.out.1))
       have S5 := Lib.hid (NG.go s2.1 _ _ HTW.out)
       clear s1 s2 s3 s4 hT3
       go_simp
       exact HKK.out undef _ S2.out ⟨S1.out, S4.out, S5.out⟩ S3.out
     case refine_2 =>
      intro ac W hB hG
      have h2 : PAt w l k 0 0 W := hG 4 (by decide)
      have h4 : NdA w t W := hG 5 (by decide)
      have hs2 : ac.tmps.getD 2 undef = .pointer (some ⟨w.heap.size + 1, 0, none⟩) := hB.fixed 2 _ (by simp)
      have hs3 : ac.tmps.getD 3 undef = .pointer (some ⟨w.heap.size + 1 + 1, 0, none⟩) := hB.fixed 3 _ (by simp)
      have hbw := hB.inv.1.ri.bl
      have hdf := hB.defers
      obtain ⟨tm, df⟩ := ac
      obtain rfl : df = [] := hdf
      have HR9 := Lib.hid (RN.endK h2 h4 hbw (fn := Tryz.f78) (tmps := tm) rfl hs2 hs3 (r := R) HEND.out)
      clear hB hG h2 h4 hs2 hs3
      go_wp2_with fail
      exact HR9.out
     case refine_3 =>
      simp only [List.mem_cons, Prod.mk.injEq, List.not_mem_nil, or_false] at hs
      rcases hs with ⟨rfl, rfl⟩ | ⟨rfl, rfl⟩ | ⟨rfl, rfl⟩ | ⟨rfl, rfl⟩ <;> rfl
    | t :: u :: rest, HX, HEND =>
     have HRR := Lib.hid HX.out.rows
     have HN8 := Lib.hid HX.out.rn
     have hln : 2 ≤ (t :: u :: rest).length := by simp
     have hHE : EndR l R (.node 2 [] [] (t :: u :: rest) 0 0) k 0 0 := HEND.out
     have HEN := Lib.hid hHE
     obtain ⟨ks, hks⟩ : ∃ ks, t :: u :: rest = ks := ⟨_, rfl⟩
     rw [hks] at HRR hln HEN ⊢
     have zl0 : ((ks.length : Int) == 0) = false := by rw [beq_eq_false_iff_ne]; omega
     have zl1 : ((ks.length : Int) == 1) = false := by rw [beq_eq_false_iff_ne]; omega
     clear HX hHE HEND hks
     obtain ⟨⟨c0, c1, c2, c3⟩, f0, f1, f2, f3⟩ := HN8.out.ri.cs
     obtain ⟨⟨ra, rb, rc, rd, r0, r1, r2, r3⟩, g0, g1, g2, g3⟩ := HN8.out.ri.rs
     obtain ⟨⟨na, nb, nc, nd, ne, nf, n0, n1, n2, n3, n4, n5⟩, m0, m1, m2, m3, m4, m5⟩ := HN8.out.ns
     go_wp2_with fail
     exact HN8.out.ret (P := 2) (N := 3) rfl (by rfl) (by rfl) (NG.many HRR.out 2) HEN.out
  ·have y2 : decide ((k : Int) < (l.length : Int)) = true := decide_eq_true (by omega)
   have y3 : decide (k < l.length) = true := decide_eq_true (by omega)
   obtain rfl : bad = 0 := hbad rfl
   have hik0 := hik rfl
   have hkk0 := hkk rfl
   have HLF := Lib.hid (HQ.out.lft.trans (if_pos rfl))
   have HR9 := Lib.hid (HRP.out k hik0 (Nat.le_of_lt hkl))
   have HST : Hid (¬ (Asc.at_ l k = 999 ∨ Asc.at_ l k = 124 ∨ Asc.at_ l k = 41)) := Lib.hid (by
    rintro (h | h | h)
    ·have hgl : l[k]? = some l[k] := List.getElem?_eq_getElem hkl
     unfold Asc.at_ at h
     rw [hgl] at h
     have := (l[k]).toNat_lt
     simp only at h
     omega
    ·exact hn1 ((pk_eq (by decide) (by decide)).2 h)
    ·exact hn2 ((pk_eq (by decide) (by decide)).2 h))
   obtain ⟨d, hd⟩ : ∃ d, pk l k = d := ⟨_, rfl⟩
   rw [hd] at HPK hn1 hn2
   have u1 : ((d : Int) == 124) = false := by rw [beq_eq_false_iff_ne]; omega
   have u1' : ((d : Int) != 124) = true := by simp; omega
   have u2 : ((d : Int) == 41) = false := by rw [beq_eq_false_iff_ne]; omega
   have u2' : ((d : Int) != 41) = true := by simp; omega
   have hkl' : k ≤ l.length := by omega
   have HX := HQ
   clear hd hik hkk hn1 hn2 HQ hbad HRP
   obtain ⟨⟨c0, c1, c2, c3⟩, f0, f1, f2, f3⟩ := HX.out.rn.ri.cs
   obtain ⟨⟨ra, rb, rc, rd, r0, r1, r2, r3⟩, g0, g1, g2, g3⟩ := HX.out.rn.ri.rs
   obtain ⟨⟨na, nb, nc, nd, ne, nf, n0, n1, n2, n3, n4, n5⟩, m0, m1, m2, m3, m4, m5⟩ := HX.out.rn.ns
   go_upto_region 3 with (go_at_call 79; refine (HPK.out _).mono ?_; rintro e9 w2 ⟨rfl, hb⟩; have HX1 := Lib.hid (HX.out.go hb); clear hb HX; have HX := HX1; clear HX1 c0 c1 c2 c3 f0 f1 f2 f3 r0 r1 r2 r3 g0 g1 g2 g3 n0 n1 n2 n3 n4 n5 m0 m1 m2 m3 m4 m5; obtain ⟨⟨c0, c1, c2, c3⟩, f0, f1, f2, f3⟩ := HX.out.rn.ri.cs; obtain ⟨⟨ra, rb, rc, rd, r0, r1, r2, r3⟩, g0, g1, g2, g3⟩ := HX.out.rn.ri.rs; obtain ⟨⟨na, nb, nc, nd, ne, nf, n0, n1, n2, n3, n4, n5⟩, m0, m1, m2, m3, m4, m5⟩ := HX.out.rn.ns)
   clear HPK u1 u1' u2 u2' y2 y3 c0 c1 c2 c3 f0 f1 f2 f3 r0 r1 r2 r3 g0 g1 g2 g3 n0 n1 n2 n3 n4 n5 m0 m1 m2 m3 m4 m5
   have HN4 := Lib.hid (HX.out.rn.go (al_below w2 (.cells #[.int .i64 0, .slice none 0 0, .string ⟨#[]⟩, .slice none 0 0, .int .i64 0, .int .i64 0] 38)))
   have HK4 := Lib.hid (KbA.new w2 (.int .i64 0) (.slice none 0 0) (.string ⟨#[]⟩) (.slice none 0 0) (.int .i64 0) (.int .i64 0))
   have hqk := HX.out.rn.sz
   obtain ⟨⟨c0, c1, c2, c3⟩, f0, f1, f2, f3⟩ := HN4.out.ri.cs
   obtain ⟨⟨ra, rb, rc, rd, r0, r1, r2, r3⟩, g0, g1, g2, g3⟩ := HN4.out.ri.rs
   obtain ⟨⟨na, nb, nc, nd, ne, nf, n0, n1, n2, n3, n4, n5⟩, m0, m1, m2, m3, m4, m5⟩ := HN4.out.ns
   go_wp2_with fail
   clear c0 c1 c2 c3 f0 f1 f2 f3 r0 r1 r2 r3 g0 g1 g2 g3 n0 n1 n2 n3 n4 n5 m0 m1 m2 m3 m4 m5
   refine (HR9.out _).mono ?_
   rintro e9 w5 ⟨j, e1, bad, t, v, rfl, hT, hb, hr⟩
   have HI2 := Lib.hid (HI.out.next hl HGO.out HST.out (t := t) hr)
   obtain ⟨op1, rs1, nm1, kk1, mn1, mx1, ra1, rc1, ka1, kc1, ht1, rfl, _⟩ := hT.open
   obtain ⟨rn1, hrn⟩ : ∃ n, rs1.length = n := ⟨_, rfl⟩
   obtain ⟨kn1, hkn⟩ : ∃ n, kk1.length = n := ⟨_, rfl⟩
   rw [hrn, hkn] at hT ⊢
   have HN6 := Lib.hid (HN4.out.go hb)
   have HK6 := Lib.hid (HK4.out.on hb HK4.out.lt)
   obtain ⟨hk1, hk2, hk3⟩ := HX.out.kid ((al_below w2 (.cells #[.int .i64 0, .slice none 0 0, .string ⟨#[]⟩, .slice none 0 0, .int .i64 0, .int .i64 0] 38)).trans (hb.mono (by simp))) HK6.out hqk (.inr (Nat.le_refl _)) (by simp) (by simp) (fun k hk => by simp at hk; omega) hT j e1 bad
   obtain ⟨qk, hqk'⟩ : ∃ qk, w2.heap.size = qk := ⟨_, rfl⟩
   rw [hqk'] at hk1 hk2 hk3 HK6 hqk
   have HK7 := Lib.hid hk1
   have HK8' := Lib.hid hk2
   have HK9 := Lib.hid hk3
   have hqn : qk ≠ w.heap.size := by omega
   have hqn' : w.heap.size ≠ qk := by omega
   rw [hqk']
   clear hrn hkn hT hk1 hk2 hk3 hb hr ht1 hqk' HN4 HK4 HX HI HR9
   obtain ⟨⟨c0, c1, c2, c3⟩, f0, f1, f2, f3⟩ := HN6.out.ri.cs
   obtain ⟨⟨ra, rb, rc, rd, r0, r1, r2, r3⟩, g0, g1, g2, g3⟩ := HN6.out.ri.rs
   obtain ⟨⟨na, nb, nc, nd, ne, nf, n0, n1, n2, n3, n4, n5⟩, m0, m1, m2, m3, m4, m5⟩ := HN6.out.ns
   obtain ⟨⟨k0, k1, k2, k3, k4, k5⟩, h0, h1, h2, h3, h4, h5⟩ := HK6.out.cs
   go_upto_region 5 with fail
   obtain ⟨w6, hw6⟩ : ∃ w6, ((((((((((w5.setCell ⟨w.heap.size, 0, none⟩ (.string ⟨l.toArray⟩)).setCell ⟨w.heap.size, 1, none⟩ (.int .i64 (j : Int))).setCell ⟨w.heap.size, 2, none⟩ (.int .i64 (e1 : Int))).setCell ⟨w.heap.size, 3, none⟩ (.int .i64 (bad : Int))).setCell ⟨qk, 0, none⟩ (.int .i64 op1)).setCell ⟨qk, 1, none⟩ (.slice ra1 rn1 rc1)).setCell ⟨qk, 2, none⟩ (.string ⟨nm1.toArray⟩)).setCell ⟨qk, 3, none⟩ (.slice ka1 kn1 kc1)).setCell ⟨qk, 4, none⟩ (.int .i64 mn1)).setCell ⟨qk, 5, none⟩ (.int .i64 mx1)) = w6 := ⟨_, rfl⟩
   have HS2 : Hid (QL (fun k => w.heap.size + 1 + 1 < k) (w.heap.size + 1 + 1 + 1) w l j e1 bad kids (.slice sa kids.length sc) w6) := Lib.hid (by rw [← hw6]; exact HK7.out)
   have HK8 : Hid (KbA qk w6 (.int .i64 op1) (.slice ra1 rn1 rc1) (.string ⟨nm1.toArray⟩) (.slice ka1 kn1 kc1) (.int .i64 mn1) (.int .i64 mx1)) := Lib.hid (by rw [← hw6]; exact HK8'.out)
   have HT2 : Hid (NG (FF (fun k => w.heap.size + 1 + 1 < k) (.slice sa kids.length sc)) w6 t (.agg #[.int .i64 op1, .slice ra1 rn1 rc1, .string ⟨nm1.toArray⟩, .slice ka1 kn1 kc1, .int .i64 mn1, .int .i64 mx1])) := Lib.hid (by rw [← hw6]; exact HK9.out)
   rw [hw6]
   clear hw6 HK7 HK8' HK9 HN6 HK6 c0 c1 c2 c3 f0 f1 f2 f3 r0 r1 r2 r3 g0 g1 g2 g3 n0 n1 n2 n3 n4 n5 m0 m1 m2 m3 m4 m5 k0 k1 k2 k3 k4 k5 h0 h1 h2 h3 h4 h5
   obtain ⟨cs, hown, hpush⟩ := HS2.out.row.cells
   have HPU := Lib.hid hpush
   have HSZ := Lib.hid HS2.out.bl
   clear hpush
   obtain ⟨⟨k0, k1, k2, k3, k4, k5⟩, h0, h1, h2, h3, h4, h5⟩ := HK8.out.cs
   go_wp2_with (at_builtin; refine wpList_append_lies _ rfl _ _ 36 rfl (w.heap.size + 1 + 1 + 1) 38 i0 (.agg #[.int .i64 0, .slice none 0 0, .string ⟨#[]⟩, .slice none 0 0, .int .i64 0, .int .i64 0]) 6 88 Tryz.underlying36 hz hz0 hz1 hz2 rfl (by decide) _ kids.length cs rfl (hown.alloc _) ⟨w6.heap.size, 0, none⟩ 1 1 [.int .i64 op1, .slice ra1 rn1 rc1, .string ⟨nm1.toArray⟩, .slice ka1 kn1 kc1, .int .i64 mn1, .int .i64 mx1] rfl rfl (World.news_of_block (heap_alloc_new w6 _)) (node_one _ _ _ _ _ _ _ _ _ _) (by omega) (by unfold maxLen; omega) (by omega) (Nat.le_trans HSZ.out (by simp)) _ rfl ?_; intro g6 cap6 w7 hown6 hgr6 hat6 hlt6; have HS6 := Lib.hid (HS2.out.push cs hown HPU.out hgr6 hat6 rfl _ rfl HT2.out (by omega) hown6).1; clear hown6 hgr6 hat6 hlt6 hown)
   refine ⟨⟨j, e1, bad, kids ++ [t], Lib.hid HI2.out.1, fun he => ?_, fun he => ?_, by simp; omega, HS6⟩, ?_⟩
   ·have := HI2.out.2 he
    omega
   ·have := HI2.out.2 he
    simp
    omega
   ·rw [HS6.out.lft, HLF.out]
    have hj := HI2.out.1.1
    by_cases he : e1 = 0
    ·have := HI2.out.2 he
     rw [if_pos he]
     omega
    ·rw [if_neg he]
     omega
end Go.Proofs.YtgcpinnnfoanjaaGreatDoor

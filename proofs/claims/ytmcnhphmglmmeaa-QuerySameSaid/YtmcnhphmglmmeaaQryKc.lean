/-
  query.Same, the cases 7, 8.
-/
import Derived.Test.YtmcnhphmglmmeaaQryK
namespace Go.Proofs.Ytmcnhphmglmmeaa
open Go.RowKit

set_option maxRecDepth 100000 in
set_option maxHeartbeats 8000000 in
theorem qsame_c7 (p q : QQ) (u v : Value) (w : World) (hs : QAt w p u) (ht : QAt w q v) (e0 : p.t = q.t) (e1 : p.ss = q.ss) (e2 : p.kd = q.kd) (e3 : p.lm = q.lm) (e4 : p.ls = q.ls) (e5 : p.ns = q.ns) (e6 : p.gs = q.gs) (h : ¬ p.sk = q.sk) :
    Calls Try.prog 9 #[u, v] w fun e w' => e = .returned (.bool false) ∧ Below w.heap.size w w' := by
  obtain ⟨t, ss, kd, lm, ls, ns, gs, sk, o, ky, wi⟩ := p
  obtain ⟨t2, ss2, kd2, lm2, ls2, ns2, gs2, sk2, o2, ky2, wi2⟩ := q
  obtain ⟨op, nm, tx, num, a, n, c, sa, sn, sc, na, nn, nc, ga, gn, gc, oop, onm, otx, onum, oa, on, oc, rfl, t1, s1, n1, g1, o1⟩ := hs
  obtain ⟨op2, nm2, tx2, num2, a2, n2, c2, sa2, sn2, sc2, na2, nn2, nc2, ga2, gn2, gc2, oop2, onm2, otx2, onum2, oa2, on2, oc2, rfl, t2', s2, n2', g2, o2'⟩ := ht
  simp only at t1 s1 n1 g1 o1 t2' s2 n2' g2 o2' e0 e1 e2 e3 e4 e5 e6 h
  subst e0 e1 e2 e3 e4 e5 e6
  simp only [qVal]
  obtain ⟨W, hW⟩ : ∃ W, ((w.alloc (.cells #[.int .i64 op, .string ⟨nm.toArray⟩, .string ⟨tx.toArray⟩, .int .i64 num, .slice a n c, .slice sa sn sc, .int .i64 kd, .int .i64 lm, .bool ls, .slice na nn nc, .slice ga gn gc, .int .i64 sk, .int .i64 oop, .string ⟨onm.toArray⟩, .string ⟨otx.toArray⟩, .int .i64 onum, .slice oa on oc, .string ⟨ky.toArray⟩, .int .i64 wi] 29)).alloc (.cells #[.int .i64 op2, .string ⟨nm2.toArray⟩, .string ⟨tx2.toArray⟩, .int .i64 num2, .slice a2 n2 c2, .slice sa2 sn2 sc2, .int .i64 kd, .int .i64 lm, .bool ls, .slice na2 nn2 nc2, .slice ga2 gn2 gc2, .int .i64 sk2, .int .i64 oop2, .string ⟨onm2.toArray⟩, .string ⟨otx2.toArray⟩, .int .i64 onum2, .slice oa2 on2 oc2, .string ⟨ky2.toArray⟩, .int .i64 wi2] 29)) = W := ⟨_, rfl⟩
  have HP := Lib.hid (hW ▸ qpre w #[.int .i64 op, .string ⟨nm.toArray⟩, .string ⟨tx.toArray⟩, .int .i64 num, .slice a n c, .slice sa sn sc, .int .i64 kd, .int .i64 lm, .bool ls, .slice na nn nc, .slice ga gn gc, .int .i64 sk, .int .i64 oop, .string ⟨onm.toArray⟩, .string ⟨otx.toArray⟩, .int .i64 onum, .slice oa on oc, .string ⟨ky.toArray⟩, .int .i64 wi] #[.int .i64 op2, .string ⟨nm2.toArray⟩, .string ⟨tx2.toArray⟩, .int .i64 num2, .slice a2 n2 c2, .slice sa2 sn2 sc2, .int .i64 kd, .int .i64 lm, .bool ls, .slice na2 nn2 nc2, .slice ga2 gn2 gc2, .int .i64 sk2, .int .i64 oop2, .string ⟨onm2.toArray⟩, .string ⟨otx2.toArray⟩, .int .i64 onum2, .slice oa2 on2 oc2, .string ⟨ky2.toArray⟩, .int .i64 wi2])
  have HW := Lib.hid hW
  clear hW
  have HT := Lib.hid fun W' (hb : Below w.heap.size w W') => qsame_aux _ t t _ _ W' (Nat.lt_succ_self _) (TAt.later hb _ _ t1) (TAt.later hb _ _ t2')
  have HL := Lib.hid fun W' (hb : Below w.heap.size w W') => equal_stages ss ss _ _ W' (s1.later hb) (s2.later hb)
  have HN := Lib.hid fun W' (hb : Below w.heap.size w W') => equal_names ns ns _ _ W' (n1.later hb) (n2'.later hb)
  have HG := Lib.hid fun W' (hb : Below w.heap.size w W') => equal_aggs gs gs _ _ W' (g1.later hb) (g2.later hb)
  clear t1 s1 n1 g1 o1 t2' s2 n2' g2 o2'
  have HB := Lib.hid (Below.refl W.heap.size W)
  rw [eqT_yes rfl] at HT
  rw [eqL_yes rfl] at HL
  have Els : (ls == ls) = true := by simp
  rw [eqL_yes rfl] at HN
  rw [eqL_yes rfl] at HG
  have E1 : (sk == sk2) = false := by rw [beq_eq_false_iff_ne]; exact h
  clear h
  go_enter Try.func9, Try.ntmps9
  go_wp2_with (first | (go_at_call 19; (try rw [HW.out]); refine (HT.out _ (HP.out.below.trans (HB.out.mono HP.out.below.size))).mono ?_; rintro e w2 ⟨rfl, hb2⟩; clear HT; have HB := Lib.hid (HB.out.trans (hb2.mono HB.out.size)); clear hb2; have x5' := HP.out.c1 _ HB.out 5 _ rfl; have y5' := HP.out.c2 _ HB.out 5 _ rfl) | (go_at_call 20; (try rw [HW.out]); refine (HL.out _ (HP.out.below.trans (HB.out.mono HP.out.below.size))).mono ?_; rintro e w2 ⟨rfl, hb2⟩; clear HL; (try clear x5' y5'); have HB := Lib.hid (HB.out.trans (hb2.mono HB.out.size)); clear hb2; have x6' := HP.out.c1 _ HB.out 6 _ rfl; have y6' := HP.out.c2 _ HB.out 6 _ rfl; have x7' := HP.out.c1 _ HB.out 7 _ rfl; have y7' := HP.out.c2 _ HB.out 7 _ rfl; have x8' := HP.out.c1 _ HB.out 8 _ rfl; have y8' := HP.out.c2 _ HB.out 8 _ rfl; have x9' := HP.out.c1 _ HB.out 9 _ rfl; have y9' := HP.out.c2 _ HB.out 9 _ rfl) | (go_at_call 22; (try rw [HW.out]); refine (HN.out _ (HP.out.below.trans (HB.out.mono HP.out.below.size))).mono ?_; rintro e w2 ⟨rfl, hb2⟩; clear HN; (try clear x6' y6' x7' y7' x8' y8' x9' y9'); have HB := Lib.hid (HB.out.trans (hb2.mono HB.out.size)); clear hb2; have x10' := HP.out.c1 _ HB.out 10 _ rfl; have y10' := HP.out.c2 _ HB.out 10 _ rfl) | (go_at_call 23; (try rw [HW.out]); refine (HG.out _ (HP.out.below.trans (HB.out.mono HP.out.below.size))).mono ?_; rintro e w2 ⟨rfl, hb2⟩; clear HG; (try clear x10' y10'); have HB := Lib.hid (HB.out.trans (hb2.mono HB.out.size)); clear hb2; have x11' := HP.out.c1 _ HB.out 11 _ rfl; have y11' := HP.out.c2 _ HB.out 11 _ rfl; have x12' := HP.out.c1 _ HB.out 12 _ rfl; have y12' := HP.out.c2 _ HB.out 12 _ rfl; have x13' := HP.out.c1 _ HB.out 13 _ rfl; have y13' := HP.out.c2 _ HB.out 13 _ rfl; have x14' := HP.out.c1 _ HB.out 14 _ rfl; have y14' := HP.out.c2 _ HB.out 14 _ rfl; have x15' := HP.out.c1 _ HB.out 15 _ rfl; have y15' := HP.out.c2 _ HB.out 15 _ rfl; have x16' := HP.out.c1 _ HB.out 16 _ rfl; have y16' := HP.out.c2 _ HB.out 16 _ rfl))
  go_ret
  exact ⟨rfl, HP.out.below.trans (HB.out.mono HP.out.below.size)⟩

set_option maxRecDepth 100000 in
set_option maxHeartbeats 8000000 in
theorem qsame_c8 (p q : QQ) (u v : Value) (w : World) (hs : QAt w p u) (ht : QAt w q v) (e0 : p.t = q.t) (e1 : p.ss = q.ss) (e2 : p.kd = q.kd) (e3 : p.lm = q.lm) (e4 : p.ls = q.ls) (e5 : p.ns = q.ns) (e6 : p.gs = q.gs) (e7 : p.sk = q.sk) (h : ¬ p.o = q.o) :
    Calls Try.prog 9 #[u, v] w fun e w' => e = .returned (.bool false) ∧ Below w.heap.size w w' := by
  obtain ⟨t, ss, kd, lm, ls, ns, gs, sk, o, ky, wi⟩ := p
  obtain ⟨t2, ss2, kd2, lm2, ls2, ns2, gs2, sk2, o2, ky2, wi2⟩ := q
  obtain ⟨op, nm, tx, num, a, n, c, sa, sn, sc, na, nn, nc, ga, gn, gc, oop, onm, otx, onum, oa, on, oc, rfl, t1, s1, n1, g1, o1⟩ := hs
  obtain ⟨op2, nm2, tx2, num2, a2, n2, c2, sa2, sn2, sc2, na2, nn2, nc2, ga2, gn2, gc2, oop2, onm2, otx2, onum2, oa2, on2, oc2, rfl, t2', s2, n2', g2, o2'⟩ := ht
  simp only at t1 s1 n1 g1 o1 t2' s2 n2' g2 o2' e0 e1 e2 e3 e4 e5 e6 e7 h
  subst e0 e1 e2 e3 e4 e5 e6 e7
  simp only [qVal]
  obtain ⟨W, hW⟩ : ∃ W, ((w.alloc (.cells #[.int .i64 op, .string ⟨nm.toArray⟩, .string ⟨tx.toArray⟩, .int .i64 num, .slice a n c, .slice sa sn sc, .int .i64 kd, .int .i64 lm, .bool ls, .slice na nn nc, .slice ga gn gc, .int .i64 sk, .int .i64 oop, .string ⟨onm.toArray⟩, .string ⟨otx.toArray⟩, .int .i64 onum, .slice oa on oc, .string ⟨ky.toArray⟩, .int .i64 wi] 29)).alloc (.cells #[.int .i64 op2, .string ⟨nm2.toArray⟩, .string ⟨tx2.toArray⟩, .int .i64 num2, .slice a2 n2 c2, .slice sa2 sn2 sc2, .int .i64 kd, .int .i64 lm, .bool ls, .slice na2 nn2 nc2, .slice ga2 gn2 gc2, .int .i64 sk, .int .i64 oop2, .string ⟨onm2.toArray⟩, .string ⟨otx2.toArray⟩, .int .i64 onum2, .slice oa2 on2 oc2, .string ⟨ky2.toArray⟩, .int .i64 wi2] 29)) = W := ⟨_, rfl⟩
  have HP := Lib.hid (hW ▸ qpre w #[.int .i64 op, .string ⟨nm.toArray⟩, .string ⟨tx.toArray⟩, .int .i64 num, .slice a n c, .slice sa sn sc, .int .i64 kd, .int .i64 lm, .bool ls, .slice na nn nc, .slice ga gn gc, .int .i64 sk, .int .i64 oop, .string ⟨onm.toArray⟩, .string ⟨otx.toArray⟩, .int .i64 onum, .slice oa on oc, .string ⟨ky.toArray⟩, .int .i64 wi] #[.int .i64 op2, .string ⟨nm2.toArray⟩, .string ⟨tx2.toArray⟩, .int .i64 num2, .slice a2 n2 c2, .slice sa2 sn2 sc2, .int .i64 kd, .int .i64 lm, .bool ls, .slice na2 nn2 nc2, .slice ga2 gn2 gc2, .int .i64 sk, .int .i64 oop2, .string ⟨onm2.toArray⟩, .string ⟨otx2.toArray⟩, .int .i64 onum2, .slice oa2 on2 oc2, .string ⟨ky2.toArray⟩, .int .i64 wi2])
  have HW := Lib.hid hW
  clear hW
  have HT := Lib.hid fun W' (hb : Below w.heap.size w W') => qsame_aux _ t t _ _ W' (Nat.lt_succ_self _) (TAt.later hb _ _ t1) (TAt.later hb _ _ t2')
  have HL := Lib.hid fun W' (hb : Below w.heap.size w W') => equal_stages ss ss _ _ W' (s1.later hb) (s2.later hb)
  have HN := Lib.hid fun W' (hb : Below w.heap.size w W') => equal_names ns ns _ _ W' (n1.later hb) (n2'.later hb)
  have HG := Lib.hid fun W' (hb : Below w.heap.size w W') => equal_aggs gs gs _ _ W' (g1.later hb) (g2.later hb)
  have HO := Lib.hid fun W' (hb : Below w.heap.size w W') => qsame_aux _ o o2 _ _ W' (Nat.lt_succ_self _) (TAt.later hb _ _ o1) (TAt.later hb _ _ o2')
  clear t1 s1 n1 g1 o1 t2' s2 n2' g2 o2'
  have HB := Lib.hid (Below.refl W.heap.size W)
  rw [eqT_yes rfl] at HT
  rw [eqL_yes rfl] at HL
  have Els : (ls == ls) = true := by simp
  rw [eqL_yes rfl] at HN
  rw [eqL_yes rfl] at HG
  have E1 := eqT_no h
  rw [E1] at HO
  clear E1
  clear h
  go_enter Try.func9, Try.ntmps9
  go_wp2_with (first | (go_at_call 19; (try rw [HW.out]); refine (HT.out _ (HP.out.below.trans (HB.out.mono HP.out.below.size))).mono ?_; rintro e w2 ⟨rfl, hb2⟩; clear HT; have HB := Lib.hid (HB.out.trans (hb2.mono HB.out.size)); clear hb2; have x5' := HP.out.c1 _ HB.out 5 _ rfl; have y5' := HP.out.c2 _ HB.out 5 _ rfl) | (go_at_call 20; (try rw [HW.out]); refine (HL.out _ (HP.out.below.trans (HB.out.mono HP.out.below.size))).mono ?_; rintro e w2 ⟨rfl, hb2⟩; clear HL; (try clear x5' y5'); have HB := Lib.hid (HB.out.trans (hb2.mono HB.out.size)); clear hb2; have x6' := HP.out.c1 _ HB.out 6 _ rfl; have y6' := HP.out.c2 _ HB.out 6 _ rfl; have x7' := HP.out.c1 _ HB.out 7 _ rfl; have y7' := HP.out.c2 _ HB.out 7 _ rfl; have x8' := HP.out.c1 _ HB.out 8 _ rfl; have y8' := HP.out.c2 _ HB.out 8 _ rfl; have x9' := HP.out.c1 _ HB.out 9 _ rfl; have y9' := HP.out.c2 _ HB.out 9 _ rfl) | (go_at_call 22; (try rw [HW.out]); refine (HN.out _ (HP.out.below.trans (HB.out.mono HP.out.below.size))).mono ?_; rintro e w2 ⟨rfl, hb2⟩; clear HN; (try clear x6' y6' x7' y7' x8' y8' x9' y9'); have HB := Lib.hid (HB.out.trans (hb2.mono HB.out.size)); clear hb2; have x10' := HP.out.c1 _ HB.out 10 _ rfl; have y10' := HP.out.c2 _ HB.out 10 _ rfl) | (go_at_call 23; (try rw [HW.out]); refine (HG.out _ (HP.out.below.trans (HB.out.mono HP.out.below.size))).mono ?_; rintro e w2 ⟨rfl, hb2⟩; clear HG; (try clear x10' y10'); have HB := Lib.hid (HB.out.trans (hb2.mono HB.out.size)); clear hb2; have x11' := HP.out.c1 _ HB.out 11 _ rfl; have y11' := HP.out.c2 _ HB.out 11 _ rfl; have x12' := HP.out.c1 _ HB.out 12 _ rfl; have y12' := HP.out.c2 _ HB.out 12 _ rfl; have x13' := HP.out.c1 _ HB.out 13 _ rfl; have y13' := HP.out.c2 _ HB.out 13 _ rfl; have x14' := HP.out.c1 _ HB.out 14 _ rfl; have y14' := HP.out.c2 _ HB.out 14 _ rfl; have x15' := HP.out.c1 _ HB.out 15 _ rfl; have y15' := HP.out.c2 _ HB.out 15 _ rfl; have x16' := HP.out.c1 _ HB.out 16 _ rfl; have y16' := HP.out.c2 _ HB.out 16 _ rfl) | (go_at_call 19; (try rw [HW.out]); refine (HO.out _ (HP.out.below.trans (HB.out.mono HP.out.below.size))).mono ?_; rintro e w2 ⟨rfl, hb2⟩; clear HO; (try clear x11' y11' x12' y12' x13' y13' x14' y14' x15' y15' x16' y16'); have HB := Lib.hid (HB.out.trans (hb2.mono HB.out.size)); clear hb2; have x17' := HP.out.c1 _ HB.out 17 _ rfl; have y17' := HP.out.c2 _ HB.out 17 _ rfl; have x18' := HP.out.c1 _ HB.out 18 _ rfl; have y18' := HP.out.c2 _ HB.out 18 _ rfl))
  go_ret
  exact ⟨rfl, HP.out.below.trans (HB.out.mono HP.out.below.size)⟩

end Go.Proofs.Ytmcnhphmglmmeaa

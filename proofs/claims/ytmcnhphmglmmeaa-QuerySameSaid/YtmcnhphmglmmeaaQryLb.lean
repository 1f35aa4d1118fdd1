/-
  Same of the reference, the cases 3, 4.
-/
import Derived.Test.YtmcnhphmglmmeaaQryK
namespace Go.Proofs.Ytmcnhphmglmmeaa
open Go.RowKit

set_option maxRecDepth 100000 in
set_option maxHeartbeats 8000000 in
theorem rsame_c3 (p q : QQ) (u v : Value) (w : World) (hs : QAt w p u) (ht : QAt w q v) (e0 : p.t = q.t) (e1 : p.ss.length = q.ss.length) (e2 : p.kd = q.kd) (h : ¬ p.lm = q.lm) :
    Calls Try.prog 10 #[u, v] w fun e w' => e = .returned (.bool false) ∧ Below w.heap.size w w' := by
  obtain ⟨t, ss, kd, lm, ls, ns, gs, sk, o, ky, wi⟩ := p
  obtain ⟨t2, ss2, kd2, lm2, ls2, ns2, gs2, sk2, o2, ky2, wi2⟩ := q
  obtain ⟨op, nm, tx, num, a, n, c, sa, sn, sc, na, nn, nc, ga, gn, gc, oop, onm, otx, onum, oa, on, oc, rfl, t1, s1, n1, g1, o1⟩ := hs
  obtain ⟨op2, nm2, tx2, num2, a2, n2, c2, sa2, sn2, sc2, na2, nn2, nc2, ga2, gn2, gc2, oop2, onm2, otx2, onum2, oa2, on2, oc2, rfl, t2', s2, n2', g2, o2'⟩ := ht
  simp only at t1 s1 n1 g1 o1 t2' s2 n2' g2 o2' e0 e1 e2 h
  have es := s1
  obtain ⟨a9, c9, e9, esm, k9⟩ := es
  simp only [Value.slice.injEq] at e9
  obtain ⟨f9, rfl, g9⟩ := e9
  clear f9 g9 k9
  have es2 := s2
  obtain ⟨a9, c9, e9, esm2, k9⟩ := es2
  simp only [Value.slice.injEq] at e9
  obtain ⟨f9, rfl, g9⟩ := e9
  clear f9 g9 k9
  have en := n1
  obtain ⟨a9, c9, e9, enm, k9⟩ := en
  simp only [Value.slice.injEq] at e9
  obtain ⟨f9, rfl, g9⟩ := e9
  clear f9 g9 k9
  have en2 := n2'
  obtain ⟨a9, c9, e9, enm2, k9⟩ := en2
  simp only [Value.slice.injEq] at e9
  obtain ⟨f9, rfl, g9⟩ := e9
  clear f9 g9 k9
  have eg := g1
  obtain ⟨a9, c9, e9, egm, k9⟩ := eg
  simp only [Value.slice.injEq] at e9
  obtain ⟨f9, rfl, g9⟩ := e9
  clear f9 g9 k9
  have eg2 := g2
  obtain ⟨a9, c9, e9, egm2, k9⟩ := eg2
  simp only [Value.slice.injEq] at e9
  obtain ⟨f9, rfl, g9⟩ := e9
  clear f9 g9 k9
  subst e0 e2
  simp only [qVal]
  have Ess := Lib.hid e1
  rw [← e1] at s2
  try rw [← e1]
  clear e1
  obtain ⟨W, hW⟩ : ∃ W, ((w.alloc (.cells #[.int .i64 op, .string ⟨nm.toArray⟩, .string ⟨tx.toArray⟩, .int .i64 num, .slice a n c, .slice sa ss.length sc, .int .i64 kd, .int .i64 lm, .bool ls, .slice na ns.length nc, .slice ga gs.length gc, .int .i64 sk, .int .i64 oop, .string ⟨onm.toArray⟩, .string ⟨otx.toArray⟩, .int .i64 onum, .slice oa on oc, .string ⟨ky.toArray⟩, .int .i64 wi] 29)).alloc (.cells #[.int .i64 op2, .string ⟨nm2.toArray⟩, .string ⟨tx2.toArray⟩, .int .i64 num2, .slice a2 n2 c2, .slice sa2 ss.length sc2, .int .i64 kd, .int .i64 lm2, .bool ls2, .slice na2 ns2.length nc2, .slice ga2 gs2.length gc2, .int .i64 sk2, .int .i64 oop2, .string ⟨onm2.toArray⟩, .string ⟨otx2.toArray⟩, .int .i64 onum2, .slice oa2 on2 oc2, .string ⟨ky2.toArray⟩, .int .i64 wi2] 29)) = W := ⟨_, rfl⟩
  have HP := Lib.hid (hW ▸ qpre w #[.int .i64 op, .string ⟨nm.toArray⟩, .string ⟨tx.toArray⟩, .int .i64 num, .slice a n c, .slice sa ss.length sc, .int .i64 kd, .int .i64 lm, .bool ls, .slice na ns.length nc, .slice ga gs.length gc, .int .i64 sk, .int .i64 oop, .string ⟨onm.toArray⟩, .string ⟨otx.toArray⟩, .int .i64 onum, .slice oa on oc, .string ⟨ky.toArray⟩, .int .i64 wi] #[.int .i64 op2, .string ⟨nm2.toArray⟩, .string ⟨tx2.toArray⟩, .int .i64 num2, .slice a2 n2 c2, .slice sa2 ss.length sc2, .int .i64 kd, .int .i64 lm2, .bool ls2, .slice na2 ns2.length nc2, .slice ga2 gs2.length gc2, .int .i64 sk2, .int .i64 oop2, .string ⟨onm2.toArray⟩, .string ⟨otx2.toArray⟩, .int .i64 onum2, .slice oa2 on2 oc2, .string ⟨ky2.toArray⟩, .int .i64 wi2])
  have HW := Lib.hid hW
  clear hW
  have HT := Lib.hid fun W' (hb : Below w.heap.size w W') => same_aux _ t t _ _ W' (Nat.lt_succ_self _) (TAt.later hb _ _ t1) (TAt.later hb _ _ t2')
  clear t1 s1 n1 g1 o1 t2' s2 n2' g2 o2'
  have HB := Lib.hid (Below.refl W.heap.size W)
  rw [eqT_yes rfl] at HT
  have z1 : (lm != lm2) = true := by rw [bne_iff_ne]; exact h
  clear h
  go_enter Try.func10, Try.ntmps10
  go_wp2_with (first | (go_at_call 24; (try rw [HW.out]); refine (HT.out _ (HP.out.below.trans (HB.out.mono HP.out.below.size))).mono ?_; rintro e w2 ⟨rfl, hb2⟩; clear HT; have HB := Lib.hid (HB.out.trans (hb2.mono HB.out.size)); clear hb2; have x5' := HP.out.c1 _ HB.out 5 _ rfl; have y5' := HP.out.c2 _ HB.out 5 _ rfl; have x6' := HP.out.c1 _ HB.out 6 _ rfl; have y6' := HP.out.c2 _ HB.out 6 _ rfl; have x7' := HP.out.c1 _ HB.out 7 _ rfl; have y7' := HP.out.c2 _ HB.out 7 _ rfl))
  go_ret
  exact ⟨rfl, HP.out.below.trans (HB.out.mono HP.out.below.size)⟩

set_option maxRecDepth 100000 in
set_option maxHeartbeats 8000000 in
theorem rsame_c4 (p q : QQ) (u v : Value) (w : World) (hs : QAt w p u) (ht : QAt w q v) (e0 : p.t = q.t) (e1 : p.ss.length = q.ss.length) (e2 : p.kd = q.kd) (e3 : p.lm = q.lm) (h : ¬ p.ls = q.ls) :
    Calls Try.prog 10 #[u, v] w fun e w' => e = .returned (.bool false) ∧ Below w.heap.size w w' := by
  obtain ⟨t, ss, kd, lm, ls, ns, gs, sk, o, ky, wi⟩ := p
  obtain ⟨t2, ss2, kd2, lm2, ls2, ns2, gs2, sk2, o2, ky2, wi2⟩ := q
  obtain ⟨op, nm, tx, num, a, n, c, sa, sn, sc, na, nn, nc, ga, gn, gc, oop, onm, otx, onum, oa, on, oc, rfl, t1, s1, n1, g1, o1⟩ := hs
  obtain ⟨op2, nm2, tx2, num2, a2, n2, c2, sa2, sn2, sc2, na2, nn2, nc2, ga2, gn2, gc2, oop2, onm2, otx2, onum2, oa2, on2, oc2, rfl, t2', s2, n2', g2, o2'⟩ := ht
  simp only at t1 s1 n1 g1 o1 t2' s2 n2' g2 o2' e0 e1 e2 e3 h
  have es := s1
  obtain ⟨a9, c9, e9, esm, k9⟩ := es
  simp only [Value.slice.injEq] at e9
  obtain ⟨f9, rfl, g9⟩ := e9
  clear f9 g9 k9
  have es2 := s2
  obtain ⟨a9, c9, e9, esm2, k9⟩ := es2
  simp only [Value.slice.injEq] at e9
  obtain ⟨f9, rfl, g9⟩ := e9
  clear f9 g9 k9
  have en := n1
  obtain ⟨a9, c9, e9, enm, k9⟩ := en
  simp only [Value.slice.injEq] at e9
  obtain ⟨f9, rfl, g9⟩ := e9
  clear f9 g9 k9
  have en2 := n2'
  obtain ⟨a9, c9, e9, enm2, k9⟩ := en2
  simp only [Value.slice.injEq] at e9
  obtain ⟨f9, rfl, g9⟩ := e9
  clear f9 g9 k9
  have eg := g1
  obtain ⟨a9, c9, e9, egm, k9⟩ := eg
  simp only [Value.slice.injEq] at e9
  obtain ⟨f9, rfl, g9⟩ := e9
  clear f9 g9 k9
  have eg2 := g2
  obtain ⟨a9, c9, e9, egm2, k9⟩ := eg2
  simp only [Value.slice.injEq] at e9
  obtain ⟨f9, rfl, g9⟩ := e9
  clear f9 g9 k9
  subst e0 e2 e3
  simp only [qVal]
  have Ess := Lib.hid e1
  rw [← e1] at s2
  try rw [← e1]
  clear e1
  obtain ⟨W, hW⟩ : ∃ W, ((w.alloc (.cells #[.int .i64 op, .string ⟨nm.toArray⟩, .string ⟨tx.toArray⟩, .int .i64 num, .slice a n c, .slice sa ss.length sc, .int .i64 kd, .int .i64 lm, .bool ls, .slice na ns.length nc, .slice ga gs.length gc, .int .i64 sk, .int .i64 oop, .string ⟨onm.toArray⟩, .string ⟨otx.toArray⟩, .int .i64 onum, .slice oa on oc, .string ⟨ky.toArray⟩, .int .i64 wi] 29)).alloc (.cells #[.int .i64 op2, .string ⟨nm2.toArray⟩, .string ⟨tx2.toArray⟩, .int .i64 num2, .slice a2 n2 c2, .slice sa2 ss.length sc2, .int .i64 kd, .int .i64 lm, .bool ls2, .slice na2 ns2.length nc2, .slice ga2 gs2.length gc2, .int .i64 sk2, .int .i64 oop2, .string ⟨onm2.toArray⟩, .string ⟨otx2.toArray⟩, .int .i64 onum2, .slice oa2 on2 oc2, .string ⟨ky2.toArray⟩, .int .i64 wi2] 29)) = W := ⟨_, rfl⟩
  have HP := Lib.hid (hW ▸ qpre w #[.int .i64 op, .string ⟨nm.toArray⟩, .string ⟨tx.toArray⟩, .int .i64 num, .slice a n c, .slice sa ss.length sc, .int .i64 kd, .int .i64 lm, .bool ls, .slice na ns.length nc, .slice ga gs.length gc, .int .i64 sk, .int .i64 oop, .string ⟨onm.toArray⟩, .string ⟨otx.toArray⟩, .int .i64 onum, .slice oa on oc, .string ⟨ky.toArray⟩, .int .i64 wi] #[.int .i64 op2, .string ⟨nm2.toArray⟩, .string ⟨tx2.toArray⟩, .int .i64 num2, .slice a2 n2 c2, .slice sa2 ss.length sc2, .int .i64 kd, .int .i64 lm, .bool ls2, .slice na2 ns2.length nc2, .slice ga2 gs2.length gc2, .int .i64 sk2, .int .i64 oop2, .string ⟨onm2.toArray⟩, .string ⟨otx2.toArray⟩, .int .i64 onum2, .slice oa2 on2 oc2, .string ⟨ky2.toArray⟩, .int .i64 wi2])
  have HW := Lib.hid hW
  clear hW
  have HT := Lib.hid fun W' (hb : Below w.heap.size w W') => same_aux _ t t _ _ W' (Nat.lt_succ_self _) (TAt.later hb _ _ t1) (TAt.later hb _ _ t2')
  clear t1 s1 n1 g1 o1 t2' s2 n2' g2 o2'
  have HB := Lib.hid (Below.refl W.heap.size W)
  rw [eqT_yes rfl] at HT
  have z1 : (ls != ls2) = true := by simp [h]
  have z2 : (!ls == ls2) = true := by simp [h]
  clear h
  go_enter Try.func10, Try.ntmps10
  go_wp2_with (first | (go_at_call 24; (try rw [HW.out]); refine (HT.out _ (HP.out.below.trans (HB.out.mono HP.out.below.size))).mono ?_; rintro e w2 ⟨rfl, hb2⟩; clear HT; have HB := Lib.hid (HB.out.trans (hb2.mono HB.out.size)); clear hb2; have x5' := HP.out.c1 _ HB.out 5 _ rfl; have y5' := HP.out.c2 _ HB.out 5 _ rfl; have x6' := HP.out.c1 _ HB.out 6 _ rfl; have y6' := HP.out.c2 _ HB.out 6 _ rfl; have x7' := HP.out.c1 _ HB.out 7 _ rfl; have y7' := HP.out.c2 _ HB.out 7 _ rfl; have x8' := HP.out.c1 _ HB.out 8 _ rfl; have y8' := HP.out.c2 _ HB.out 8 _ rfl))
  go_ret
  exact ⟨rfl, HP.out.below.trans (HB.out.mono HP.out.below.size)⟩

end Go.Proofs.Ytmcnhphmglmmeaa

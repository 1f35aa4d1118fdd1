/-
  Same of the reference where its first condition lets it go on: the three loops.
-/
import Derived.Test.YtmcnhphmglmmeaaQryK
import Derived.BigQuiet
import Derived.BigRegion
import Derived.RegionTactic
namespace Go.Proofs.Ytmcnhphmglmmeaa
open Go.RowKit

theorem two_allocs {B : Nat} {w wr : World} {o1 o2 : Obj} (h : Below B w wr) (hs : B ≤ wr.heap.size) : Below B w ((wr.alloc o1).alloc o2).drew := Below.drew ((h.alloc hs _).alloc (by simp; omega) _)

set_option maxRecDepth 100000 in
set_option maxHeartbeats 8000000 in
theorem rsame_eq (p q : QQ) (u v : Value) (w : World) (hs : QAt w p u) (ht : QAt w q v) (e0 : p.t = q.t) (e1 : p.ss.length = q.ss.length) (e2 : p.kd = q.kd) (e3 : p.lm = q.lm) (e4 : p.ls = q.ls) (e5 : p.ns.length = q.ns.length) (e6 : p.gs.length = q.gs.length) (e7 : p.sk = q.sk) (e8 : p.o = q.o) (e9 : p.ky = q.ky) (e10 : p.wi = q.wi) :
    Calls Try.prog 10 #[u, v] w fun e w' => e = .returned (.bool (eqL p.ss q.ss && eqL p.ns q.ns && eqL p.gs q.gs)) ∧ Below w.heap.size w w' := by
  obtain ⟨t, ss, kd, lm, ls, ns, gs, sk, o, ky, wi⟩ := p
  obtain ⟨t2, ss2, kd2, lm2, ls2, ns2, gs2, sk2, o2, ky2, wi2⟩ := q
  obtain ⟨op, nm, tx, num, a, n, c, sa, sn, sc, na, nn, nc, ga, gn, gc, oop, onm, otx, onum, oa, on, oc, rfl, t1, s1, n1, g1, o1⟩ := hs
  obtain ⟨op2, nm2, tx2, num2, a2, n2, c2, sa2, sn2, sc2, na2, nn2, nc2, ga2, gn2, gc2, oop2, onm2, otx2, onum2, oa2, on2, oc2, rfl, t2', s2, n2', g2, o2'⟩ := ht
  simp only at t1 s1 n1 g1 o1 t2' s2 n2' g2 o2' e0 e1 e2 e3 e4 e5 e6 e7 e8 e9 e10 ⊢
  have es := s1
  obtain ⟨a9, c9, e9, esm, k9⟩ := es
  simp only [Value.slice.injEq] at e9
  obtain ⟨f9, rfl, g9⟩ := e9
  clear f9 g9 k9
  have es2 := s2
  obtain ⟨a9, c9, e9, esm2, k9⟩ := es2
  simp only [Value.slice.injEq] at e9
  obtain ⟨f9, rfl, g9⟩ := e9
  clear f9 g9 k9
  have en := n1
  obtain ⟨a9, c9, e9, enm, k9⟩ := en
  simp only [Value.slice.injEq] at e9
  obtain ⟨f9, rfl, g9⟩ := e9
  clear f9 g9 k9
  have en2 := n2'
  obtain ⟨a9, c9, e9, enm2, k9⟩ := en2
  simp only [Value.slice.injEq] at e9
  obtain ⟨f9, rfl, g9⟩ := e9
  clear f9 g9 k9
  have eg := g1
  obtain ⟨a9, c9, e9, egm, k9⟩ := eg
  simp only [Value.slice.injEq] at e9
  obtain ⟨f9, rfl, g9⟩ := e9
  clear f9 g9 k9
  have eg2 := g2
  obtain ⟨a9, c9, e9, egm2, k9⟩ := eg2
  simp only [Value.slice.injEq] at e9
  obtain ⟨f9, rfl, g9⟩ := e9
  clear f9 g9 k9
  subst e0 e2 e3 e4 e7 e8 e9 e10
  simp only [qVal]
  have Ess := Lib.hid e1
  rw [← e1] at s2
  try rw [← e1]
  clear e1
  have Ens := Lib.hid e5
  rw [← e5] at n2'
  try rw [← e5]
  clear e5
  have Egs := Lib.hid e6
  rw [← e6] at g2
  try rw [← e6]
  clear e6
  obtain ⟨W, hW⟩ : ∃ W, ((w.alloc (.cells #[.int .i64 op, .string ⟨nm.toArray⟩, .string ⟨tx.toArray⟩, .int .i64 num, .slice a n c, .slice sa ss.length sc, .int .i64 kd, .int .i64 lm, .bool ls, .slice na ns.length nc, .slice ga gs.length gc, .int .i64 sk, .int .i64 oop, .string ⟨onm.toArray⟩, .string ⟨otx.toArray⟩, .int .i64 onum, .slice oa on oc, .string ⟨ky.toArray⟩, .int .i64 wi] 29)).alloc (.cells #[.int .i64 op2, .string ⟨nm2.toArray⟩, .string ⟨tx2.toArray⟩, .int .i64 num2, .slice a2 n2 c2, .slice sa2 ss.length sc2, .int .i64 kd, .int .i64 lm, .bool ls, .slice na2 ns.length nc2, .slice ga2 gs.length gc2, .int .i64 sk, .int .i64 oop2, .string ⟨onm2.toArray⟩, .string ⟨otx2.toArray⟩, .int .i64 onum2, .slice oa2 on2 oc2, .string ⟨ky.toArray⟩, .int .i64 wi] 29)) = W := ⟨_, rfl⟩
  have HP := Lib.hid (hW ▸ qpre w #[.int .i64 op, .string ⟨nm.toArray⟩, .string ⟨tx.toArray⟩, .int .i64 num, .slice a n c, .slice sa ss.length sc, .int .i64 kd, .int .i64 lm, .bool ls, .slice na ns.length nc, .slice ga gs.length gc, .int .i64 sk, .int .i64 oop, .string ⟨onm.toArray⟩, .string ⟨otx.toArray⟩, .int .i64 onum, .slice oa on oc, .string ⟨ky.toArray⟩, .int .i64 wi] #[.int .i64 op2, .string ⟨nm2.toArray⟩, .string ⟨tx2.toArray⟩, .int .i64 num2, .slice a2 n2 c2, .slice sa2 ss.length sc2, .int .i64 kd, .int .i64 lm, .bool ls, .slice na2 ns.length nc2, .slice ga2 gs.length gc2, .int .i64 sk, .int .i64 oop2, .string ⟨onm2.toArray⟩, .string ⟨otx2.toArray⟩, .int .i64 onum2, .slice oa2 on2 oc2, .string ⟨ky.toArray⟩, .int .i64 wi])
  have HW := Lib.hid hW
  clear hW
  have HL1 := Lib.hid s1
  have HL2 := Lib.hid s2
  have HN1 := Lib.hid n1
  have HN2 := Lib.hid n2'
  have HG1 := Lib.hid g1
  have HG2 := Lib.hid g2
  have HT := Lib.hid fun W' (hb : Below w.heap.size w W') => same_aux _ t t _ _ W' (Nat.lt_succ_self _) (TAt.later hb _ _ t1) (TAt.later hb _ _ t2')
  have HO := Lib.hid fun W' (hb : Below w.heap.size w W') => same_aux _ o o _ _ W' (Nat.lt_succ_self _) (TAt.later hb _ _ o1) (TAt.later hb _ _ o2')
  clear t1 o1 t2' o2' s1 n1 g1 s2 n2' g2
  have HB := Lib.hid (Below.refl W.heap.size W)
  rw [eqT_yes rfl] at HT
  have z0 : (ls != ls) = false := by simp
  rw [eqT_yes rfl] at HO
  go_enter Try.func10, Try.ntmps10
  go_wp2_with (first | (go_at_call 24; (try rw [HW.out]); refine (HT.out _ (HP.out.below.trans (HB.out.mono HP.out.below.size))).mono ?_; rintro e w2 ⟨rfl, hb2⟩; clear HT; have HB := Lib.hid (HB.out.trans (hb2.mono HB.out.size)); clear hb2; have x5' := HP.out.c1 _ HB.out 5 _ rfl; have y5' := HP.out.c2 _ HB.out 5 _ rfl; have x6' := HP.out.c1 _ HB.out 6 _ rfl; have y6' := HP.out.c2 _ HB.out 6 _ rfl; have x7' := HP.out.c1 _ HB.out 7 _ rfl; have y7' := HP.out.c2 _ HB.out 7 _ rfl; have x8' := HP.out.c1 _ HB.out 8 _ rfl; have y8' := HP.out.c2 _ HB.out 8 _ rfl; have x9' := HP.out.c1 _ HB.out 9 _ rfl; have y9' := HP.out.c2 _ HB.out 9 _ rfl; have x10' := HP.out.c1 _ HB.out 10 _ rfl; have y10' := HP.out.c2 _ HB.out 10 _ rfl; have x11' := HP.out.c1 _ HB.out 11 _ rfl; have y11' := HP.out.c2 _ HB.out 11 _ rfl; have x12' := HP.out.c1 _ HB.out 12 _ rfl; have y12' := HP.out.c2 _ HB.out 12 _ rfl; have x13' := HP.out.c1 _ HB.out 13 _ rfl; have y13' := HP.out.c2 _ HB.out 13 _ rfl; have x14' := HP.out.c1 _ HB.out 14 _ rfl; have y14' := HP.out.c2 _ HB.out 14 _ rfl; have x15' := HP.out.c1 _ HB.out 15 _ rfl; have y15' := HP.out.c2 _ HB.out 15 _ rfl; have x16' := HP.out.c1 _ HB.out 16 _ rfl; have y16' := HP.out.c2 _ HB.out 16 _ rfl) | (go_at_call 24; (try rw [HW.out]); refine (HO.out _ (HP.out.below.trans (HB.out.mono HP.out.below.size))).mono ?_; rintro e w2 ⟨rfl, hb2⟩; clear HO; (try clear x5' y5' x6' y6' x7' y7' x8' y8' x9' y9' x10' y10' x11' y11' x12' y12' x13' y13' x14' y14' x15' y15' x16' y16'); have HB := Lib.hid (HB.out.trans (hb2.mono HB.out.size)); clear hb2; have x5' := HP.out.c1 _ HB.out 5 _ rfl; have y5' := HP.out.c2 _ HB.out 5 _ rfl; have x9' := HP.out.c1 _ HB.out 9 _ rfl; have y9' := HP.out.c2 _ HB.out 9 _ rfl; have x10' := HP.out.c1 _ HB.out 10 _ rfl; have y10' := HP.out.c2 _ HB.out 10 _ rfl; have x17' := HP.out.c1 _ HB.out 17 _ rfl; have y17' := HP.out.c2 _ HB.out 17 _ rfl; have x18' := HP.out.c1 _ HB.out 18 _ rfl; have y18' := HP.out.c2 _ HB.out 18 _ rfl))
  (try clear x5' y5' x9' y9' x10' y10' x11' y11' x12' y12' x13' y13' x14' y14' x15' y15' x16' y16' x17' y17' x18' y18')
  go_loopw [5] (fun i wr => ∃ (k : Nat), i = .int .i64 k ∧ k ≤ ss.length ∧ (∀ j (h : j < ss.length) (h' : j < ss2.length), j < k → ss[j] = ss2[j]) ∧ Below W.heap.size W wr) (fun i _ => ss.length - (intOf i).toNat)
  case atStart => exact ⟨0, rfl, by omega, fun j _ _ h => absurd h (by omega), HB.out⟩
  case round =>
    obtain ⟨k, rfl, hkl, hq, hb⟩ := hrel
    have HQ := Lib.hid hq
    have HBR := Lib.hid hb
    have HBW := Lib.hid (HP.out.below.trans (hb.mono HP.out.below.size))
    have cb1 := HP.out.c1 _ hb 5 _ rfl
    have cb2 := HP.out.c2 _ hb 5 _ rfl
    clear hq HB
    by_cases hlt : k < ss.length
    · have hlt2 : k < ss2.length := Ess.out ▸ hlt
      obtain ⟨a8, c8, e8, _, hk8⟩ := HL1.out
      simp only [Value.slice.injEq] at e8
      obtain ⟨rfl, q8, rfl⟩ := e8
      clear q8
      obtain ⟨a7, c7, e7, _, hk7⟩ := HL2.out
      simp only [Value.slice.injEq] at e7
      obtain ⟨rfl, q9, rfl⟩ := e7
      clear q9
      obtain ⟨blk, off, ex1, src1, op1, nm1, tx1, num1, a1, n1, c1, rfl, hl, p0, p1, p2, p3, p4, p5, p6, x1, x2, ht⟩ := hk8 k hlt
      obtain ⟨blk2, off2, ex3, src3, op3, nm3, tx3, num3, a3, n3, c3, rfl, hl2, q0, q1, q2, q3, q4, q5, q6, y1, y2, ht2⟩ := hk7 k hlt2
      have e0 := (HBW.out.cell (p := ⟨blk, off + k * 7, none⟩) hl).trans p0
      have e1 := (HBW.out.cell (p := ⟨blk, off + k * 7 + 1, none⟩) hl).trans p1
      have e2 := (HBW.out.cell (p := ⟨blk, off + k * 7 + 2, none⟩) hl).trans p2
      have e3 := (HBW.out.cell (p := ⟨blk, off + k * 7 + 3, none⟩) hl).trans p3
      have e4 := (HBW.out.cell (p := ⟨blk, off + k * 7 + 4, none⟩) hl).trans p4
      have e5 := (HBW.out.cell (p := ⟨blk, off + k * 7 + 5, none⟩) hl).trans p5
      have e6 := (HBW.out.cell (p := ⟨blk, off + k * 7 + 6, none⟩) hl).trans p6
      have f0 := (HBW.out.cell (p := ⟨blk2, off2 + k * 7, none⟩) hl2).trans q0
      have f1 := (HBW.out.cell (p := ⟨blk2, off2 + k * 7 + 1, none⟩) hl2).trans q1
      have f2 := (HBW.out.cell (p := ⟨blk2, off2 + k * 7 + 2, none⟩) hl2).trans q2
      have f3 := (HBW.out.cell (p := ⟨blk2, off2 + k * 7 + 3, none⟩) hl2).trans q3
      have f4 := (HBW.out.cell (p := ⟨blk2, off2 + k * 7 + 4, none⟩) hl2).trans q4
      have f5 := (HBW.out.cell (p := ⟨blk2, off2 + k * 7 + 5, none⟩) hl2).trans q5
      have f6 := (HBW.out.cell (p := ⟨blk2, off2 + k * 7 + 6, none⟩) hl2).trans q6
      have i1 : (k : Int) < (ss.length : Int) := by omega
      have i2 : (0 : Int) ≤ (k : Int) := by omega
      have HT1 := Lib.hid ht
      have HT2 := Lib.hid ht2
      have HSE : Hid (ss[k] = ⟨ex1, src1, ss[k].t⟩) := Lib.hid (by rw [← x1, ← x2])
      have HSE2 : Hid (ss2[k] = ⟨ex3, src3, ss2[k].t⟩) := Lib.hid (by rw [← y1, ← y2])
      generalize ss[k].t = T1 at *
      generalize ss2[k].t = T2 at *
      have HNO : Hid (ss[k] ≠ ss2[k] → (eqL ss ss2 && eqL ns ns2 && eqL gs gs2) = false) := Lib.hid fun hne => by rw [eqL_no (fun e => hne (by subst e; rfl))]; rfl
      clear p0 p1 p2 p3 p4 p5 p6 q0 q1 q2 q3 q4 q5 q6 x1 x2 y1 y2 ht ht2 hb hk8 hk7
      have hlt1 : blk < wr.heap.size := Nat.lt_of_lt_of_le hl HBW.out.size
      have hlt3 : blk2 < wr.heap.size := Nat.lt_of_lt_of_le hl2 HBW.out.size
      have hlw1 : w.heap.size < wr.heap.size := by have := HBR.out.size; have := HP.out.size; omega
      have hlw2 : w.heap.size + 1 < wr.heap.size := by have := HBR.out.size; have := HP.out.size; omega
      clear hl hl2
      have HC := Lib.hid fun W' (hb : Below w.heap.size w W') => same_aux _ T1 T2 _ _ W' (Nat.lt_succ_self _) (TAt.later hb _ _ HT1.out) (TAt.later hb _ _ HT2.out)
      clear HT1 HT2
      by_cases h1 : ¬ ex1 = ex3
      · have z1 : (ex1 != ex3) = true := by simp [h1]
        have z2 : (!ex1 == ex3) = true := by simp [h1]
        have HE := Lib.hid (HNO.out (by rw [HSE.out, HSE2.out]; exact fun e => h1 (by injection e)))
        clear h1 HNO HC
        go_wp2_with fail
        go_region
        all_goals
          go_wp2_with fail
          go_ret
          exact ⟨ret_bool HE.out.symm, two_allocs HBW.out HBW.out.size⟩
      obtain rfl := Classical.not_not.1 h1
      clear h1
      have z0 : (ex1 != ex1) = false := by simp
      by_cases h1 : ¬ src1 = src3
      · have z1 : (!src1 == src3) = true := by simp [h1]
        have HE := Lib.hid (HNO.out (by rw [HSE.out, HSE2.out]; exact fun e => h1 (by injection e)))
        clear h1 HNO HC
        go_wp2_with fail
        go_region
        all_goals
          go_wp2_with fail
          go_ret
          exact ⟨ret_bool HE.out.symm, two_allocs HBW.out HBW.out.size⟩
      obtain rfl := Classical.not_not.1 h1
      clear h1
      by_cases h1 : ¬ T1 = T2
      · have HE := Lib.hid (HNO.out (by rw [HSE.out, HSE2.out]; exact fun e => h1 (by injection e)))
        have HC2 := Lib.hid (eqT_no h1 ▸ HC.out)
        clear h1 HNO HC
        go_wp2_with fail
        go_region
        all_goals
          go_wp2_with (go_at_call 24; refine (HC2.out _ (two_allocs HBW.out HBW.out.size)).mono ?_; rintro e w3 ⟨rfl, hb3⟩; have HB3 := Lib.hid ((two_allocs HBW.out HBW.out.size).trans (hb3.mono (two_allocs HBW.out HBW.out.size).size)); clear hb3)
          go_ret
          exact ⟨ret_bool HE.out.symm, HB3.out⟩
      obtain rfl := Classical.not_not.1 h1
      clear h1 HNO
      have HEQ := Lib.hid (HSE.out.trans HSE2.out.symm)
      have HC2 := Lib.hid (eqT_yes (rfl : T1 = T1) ▸ HC.out)
      clear HC HSE HSE2
      go_wp2_with fail
      go_region
      all_goals
        go_wp2_with (go_at_call 24; refine (HC2.out _ (two_allocs HBW.out HBW.out.size)).mono ?_; rintro e w3 ⟨rfl, hb3⟩; have HB3 := Lib.hid ((two_allocs HBR.out HBR.out.size).trans (hb3.mono (two_allocs HBR.out HBR.out.size).size)); clear hb3)
        go_roundw
        case rel =>
          refine ⟨k + 1, by go_num, by omega, fun j h h' hj => ?_, HB3.out⟩
          by_cases hjk : j = k
          · subst hjk
            exact HEQ.out
          · exact HQ.out j h h' (by omega)
        case measure => simp [intOf]; omega
    · have HSS := Lib.hid (eqL_yes (List.ext_getElem Ess.out (fun j h h' => HQ.out j h h' (by omega))))
      obtain rfl : k = ss.length := by omega
      clear HQ HL1 HL2
      go_wp2_with fail
      clear cb1 cb2
      go_loopw [8] (fun i wr => ∃ (k : Nat), i = .int .i64 k ∧ k ≤ ns.length ∧ (∀ j (h : j < ns.length) (h' : j < ns2.length), j < k → ns[j] = ns2[j]) ∧ Below W.heap.size W wr) (fun i _ => ns.length - (intOf i).toNat)
      case atStart => exact ⟨0, rfl, by omega, fun j _ _ h => absurd h (by omega), HBR.out⟩
      case round =>
        obtain ⟨k, rfl, hkl, hq, hb⟩ := hrel
        have HQ := Lib.hid hq
        clear HBR HBW
        have HBR := Lib.hid hb
        have HBW := Lib.hid (HP.out.below.trans (hb.mono HP.out.below.size))
        have cb1 := HP.out.c1 _ hb 9 _ rfl
        have cb2 := HP.out.c2 _ hb 9 _ rfl
        clear hq hb
        by_cases hlt : k < ns.length
        · have hlt2 : k < ns2.length := Ens.out ▸ hlt
          obtain ⟨a8, c8, e8, _, hk8⟩ := HN1.out
          simp only [Value.slice.injEq] at e8
          obtain ⟨rfl, q8, rfl⟩ := e8
          clear q8
          obtain ⟨a7, c7, e7, _, hk7⟩ := HN2.out
          simp only [Value.slice.injEq] at e7
          obtain ⟨rfl, q9, rfl⟩ := e7
          clear q9
          obtain ⟨blk, off, rfl, hl, p0⟩ := hk8 k hlt
          obtain ⟨blk2, off2, rfl, hl2, q0⟩ := hk7 k hlt2
          have e0 := (HBW.out.cell (p := ⟨blk, off + k, none⟩) hl).trans p0
          have f0 := (HBW.out.cell (p := ⟨blk2, off2 + k, none⟩) hl2).trans q0
          have i1 : (k : Int) < (ns.length : Int) := by omega
          have i2 : (0 : Int) ≤ (k : Int) := by omega
          have HX : Hid (ns[k] = ns2[k] → ∀ j (h : j < ns.length) (h' : j < ns2.length), j < k + 1 → ns[j] = ns2[j]) := Lib.hid fun he j h h' hj => by
            by_cases hjk : j = k
            · subst hjk
              exact he
            · exact HQ.out j h h' (by omega)
          have HN : Hid (ns[k] ≠ ns2[k] → (eqL ss ss2 && eqL ns ns2 && eqL gs gs2) = false) := Lib.hid fun hne => by rw [eqL_no (s := ns) (t := ns2) (fun e => hne (by subst e; rfl))]; simp
          generalize ns[k] = x at *
          generalize ns2[k] = y at *
          clear p0 q0 hl hl2 hk7 hk8
          by_cases heq : x = y
          · have HX2 := Lib.hid (HX.out heq)
            subst heq
            clear HX HN
            go_wp2_with fail
            go_quiet (fail)
            go_wp2_with fail
            go_roundw
            case rel => exact ⟨k + 1, by go_num, by omega, HX2.out, below_drewN HBR.out _⟩
            case measure => simp [intOf]; omega
          · have HE := Lib.hid (HN.out heq)
            have z1 : (!x == y) = true := by simp [heq]
            clear HX HN heq
            go_wp2_with fail
            go_quiet (fail)
            go_wp2_with fail
            go_ret
            exact ⟨ret_bool HE.out.symm, below_drewN HBW.out _⟩
        · have HNN := Lib.hid (eqL_yes (List.ext_getElem Ens.out (fun j h h' => HQ.out j h h' (by omega))))
          obtain rfl : k = ns.length := by omega
          clear HQ HN1 HN2
          go_wp2_with fail
          clear cb1 cb2
          go_loopw [9] (fun i wr => ∃ (k : Nat), i = .int .i64 k ∧ k ≤ gs.length ∧ (∀ j (h : j < gs.length) (h' : j < gs2.length), j < k → gs[j] = gs2[j]) ∧ Below W.heap.size W wr) (fun i _ => gs.length - (intOf i).toNat)
          case atStart => exact ⟨0, rfl, by omega, fun j _ _ h => absurd h (by omega), HBR.out⟩
          case round =>
            obtain ⟨k, rfl, hkl, hq, hb⟩ := hrel
            have HQ := Lib.hid hq
            clear HBR HBW
            have HBR := Lib.hid hb
            have HBW := Lib.hid (HP.out.below.trans (hb.mono HP.out.below.size))
            have cb1 := HP.out.c1 _ hb 10 _ rfl
            have cb2 := HP.out.c2 _ hb 10 _ rfl
            clear hq hb
            by_cases hlt : k < gs.length
            · have hlt2 : k < gs2.length := Egs.out ▸ hlt
              obtain ⟨a8, c8, e8, _, hk8⟩ := HG1.out
              simp only [Value.slice.injEq] at e8
              obtain ⟨rfl, q8, rfl⟩ := e8
              clear q8
              obtain ⟨a7, c7, e7, _, hk7⟩ := HG2.out
              simp only [Value.slice.injEq] at e7
              obtain ⟨rfl, q9, rfl⟩ := e7
              clear q9
              obtain ⟨blk, off, rfl, hl, p0, p1⟩ := hk8 k hlt
              obtain ⟨blk2, off2, rfl, hl2, q0, q1⟩ := hk7 k hlt2
              have e0 := (HBW.out.cell (p := ⟨blk, off + k * 2, none⟩) hl).trans p0
              have e1 := (HBW.out.cell (p := ⟨blk, off + k * 2 + 1, none⟩) hl).trans p1
              have f0 := (HBW.out.cell (p := ⟨blk2, off2 + k * 2, none⟩) hl2).trans q0
              have f1 := (HBW.out.cell (p := ⟨blk2, off2 + k * 2 + 1, none⟩) hl2).trans q1
              have i1 : (k : Int) < (gs.length : Int) := by omega
              have i2 : (0 : Int) ≤ (k : Int) := by omega
              have HX : Hid (gs[k] = gs2[k] → ∀ j (h : j < gs.length) (h' : j < gs2.length), j < k + 1 → gs[j] = gs2[j]) := Lib.hid fun he j h h' hj => by
                by_cases hjk : j = k
                · subst hjk
                  exact he
                · exact HQ.out j h h' (by omega)
              have HN : Hid (gs[k] ≠ gs2[k] → (eqL ss ss2 && eqL ns ns2 && eqL gs gs2) = false) := Lib.hid fun hne => by rw [eqL_no (s := gs) (t := gs2) (fun e => hne (by subst e; rfl))]; simp
              generalize gs[k] = x at *
              generalize gs2[k] = y at *
              clear p0 q0 p1 q1 hl hl2 hk7 hk8
              by_cases heq : x = y
              · have HX2 := Lib.hid (HX.out heq)
                subst heq
                clear HX HN
                go_wp2_with fail
                go_quiet (fail)
                go_wp2_with fail
                go_roundw
                case rel => exact ⟨k + 1, by go_num, by omega, HX2.out, below_drewN HBR.out _⟩
                case measure => simp [intOf]; omega
              · have HE := Lib.hid (HN.out heq)
                obtain ⟨x1, x2⟩ := x
                obtain ⟨y1, y2⟩ := y
                clear HX HN
                simp only at e0 e1 f0 f1
                by_cases h1 : x1 = y1
                · have z1 : (x2 == y2) = false := by rw [beq_eq_false_iff_ne]; exact fun e => heq (by rw [h1, e])
                  subst h1
                  clear heq
                  go_wp2_with fail
                  go_quiet (fail)
                  go_wp2_with fail
                  go_ret
                  exact ⟨ret_bool HE.out.symm, below_drewN HBW.out _⟩
                · have z1 : (x1 == y1) = false := by rw [beq_eq_false_iff_ne]; exact h1
                  clear heq h1
                  go_wp2_with fail
                  go_quiet (fail)
                  go_wp2_with fail
                  go_ret
                  exact ⟨ret_bool HE.out.symm, below_drewN HBW.out _⟩
            · have HGG := Lib.hid (eqL_yes (List.ext_getElem Egs.out (fun j h h' => HQ.out j h h' (by omega))))
              obtain rfl : k = gs.length := by omega
              have HE := Lib.hid (show (eqL ss ss2 && eqL ns ns2 && eqL gs gs2) = true by rw [HSS.out, HNN.out, HGG.out]; rfl)
              go_wp2_with fail
              go_ret
              exact ⟨ret_bool HE.out.symm, HBW.out⟩

end Go.Proofs.Ytmcnhphmglmmeaa

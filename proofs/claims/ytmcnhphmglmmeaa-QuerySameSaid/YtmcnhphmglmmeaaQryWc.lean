/-
  QuerySame: for every two queries and every list of choices the law's answer is yes.
-/
import Derived.Test.YtmcnhphmglmmeaaQryWa
import Derived.Test.YtmcnhphmglmmeaaQryWb
import Derived.Test.YtmcnhphmglmmeaaQryR
import Derived.Test.YtmcnhphmglmmeaaQryT
import Derived.Test.YtmcnhphmglmmeaaQryOd
import Derived.Test.YtmcnhphmglmmeaaFactsG
namespace Go.Proofs.Ytmcnhphmglmmeaa
open Go.RowKit

theorem qat_test {w : World} {q : QQ} {op : Int} {nm tx : List UInt8} {num : Int} {a : Option Addr} {n c : Nat} {sa : Option Addr} {sn sc : Nat} {kd lm : Int} {ls : Bool} {na : Option Addr} {nn nc : Nat} {ga : Option Addr} {gn gc : Nat} {sk : Int} {oop : Int} {onm otx : List UInt8} {onum : Int} {oa : Option Addr} {on oc : Nat} {ky : List UInt8} {wi : Int} (h : QAt w q (.agg #[.int .i64 op, .string ⟨nm.toArray⟩, .string ⟨tx.toArray⟩, .int .i64 num, .slice a n c, .slice sa sn sc, .int .i64 kd, .int .i64 lm, .bool ls, .slice na nn nc, .slice ga gn gc, .int .i64 sk, .int .i64 oop, .string ⟨onm.toArray⟩, .string ⟨otx.toArray⟩, .int .i64 onum, .slice oa on oc, .string ⟨ky.toArray⟩, .int .i64 wi])) : TAt w q.t (.agg #[.int .i64 op, .string ⟨nm.toArray⟩, .string ⟨tx.toArray⟩, .int .i64 num, .slice a n c]) := by
  obtain ⟨op', nm', tx', num', a', n', c', sa', sn', sc', na', nn', nc', ga', gn', gc', oop', onm', otx', onum', oa', on', oc', e, h1, _⟩ := h
  injection e with e
  have := congrArg (fun x : Array Value => (x[0]!, x[1]!, x[2]!, x[3]!, x[4]!)) e
  simp only [Prod.mk.injEq] at this
  obtain ⟨e0, e1, e2, e3, e4⟩ := this
  have e0 : Value.int .i64 op = .int .i64 op' := e0
  have e1 : Value.string ⟨nm.toArray⟩ = .string ⟨nm'.toArray⟩ := e1
  have e2 : Value.string ⟨tx.toArray⟩ = .string ⟨tx'.toArray⟩ := e2
  have e3 : Value.int .i64 num = .int .i64 num' := e3
  have e4 : Value.slice a n c = .slice a' n' c' := e4
  rw [e0, e1, e2, e3, e4]
  exact h1
set_option maxRecDepth 100000 in
set_option maxHeartbeats 20000000 in
theorem law_any (qa qb : QQ) (va vb vc : Value) (cs : List UInt8) (w : World) (ha : QAt w qa va) (hb : QAt w qb vb) (hc : BS w vc cs) :
    Calls Try.prog 3 #[va, vb, vc] w fun e w' => e = .returned (.bool true) ∧ Below w.heap.size w w' := by
  have HT := Lib.hid dtest_any
  have HQA := Lib.hid ha
  have HQB := Lib.hid hb
  have HCS := Lib.hid hc
  obtain ⟨op1, nm1, tx1, num1, a1, n1, c1, sa1, sn1, sc1, na1, nn1, nc1, ga1, gn1, gc1, oop1, onm1, otx1, onum1, oa1, on1, oc1, rfl, _⟩ := ha
  obtain ⟨op2, nm2, tx2, num2, a2, n2, c2, sa2, sn2, sc2, na2, nn2, nc2, ga2, gn2, gc2, oop2, onm2, otx2, onum2, oa2, on2, oc2, rfl, _⟩ := hb
  clear hc
  unfold qVal
  have HBK1 := Lib.hid ((BK.new w #[.int .i64 op1, .string ⟨nm1.toArray⟩, .string ⟨tx1.toArray⟩, .int .i64 num1, .slice a1 n1 c1, .slice sa1 sn1 sc1, .int .i64 (qa.kd), .int .i64 (qa.lm), .bool qa.ls, .slice na1 nn1 nc1, .slice ga1 gn1 gc1, .int .i64 (qa.sk), .int .i64 oop1, .string ⟨onm1.toArray⟩, .string ⟨otx1.toArray⟩, .int .i64 onum1, .slice oa1 on1 oc1, .string ⟨qa.ky.toArray⟩, .int .i64 (qa.wi)] 29 (xE op1 nm1 tx1 num1 a1 n1 c1 sa1 sn1 sc1 (qa.kd) (qa.lm) (qa.ls) na1 nn1 nc1 ga1 gn1 gc1 (qa.sk) oop1 onm1 otx1 onum1 oa1 on1 oc1 (qa.ky) (qa.wi)) 19 (below19 rfl rfl rfl rfl rfl rfl rfl rfl rfl rfl rfl rfl rfl rfl rfl rfl rfl rfl rfl)).al (.cells #[.int .i64 op2, .string ⟨nm2.toArray⟩, .string ⟨tx2.toArray⟩, .int .i64 num2, .slice a2 n2 c2, .slice sa2 sn2 sc2, .int .i64 (qb.kd), .int .i64 (qb.lm), .bool qb.ls, .slice na2 nn2 nc2, .slice ga2 gn2 gc2, .int .i64 (qb.sk), .int .i64 oop2, .string ⟨onm2.toArray⟩, .string ⟨otx2.toArray⟩, .int .i64 onum2, .slice oa2 on2 oc2, .string ⟨qb.ky.toArray⟩, .int .i64 (qb.wi)] 29))
  have HBK2 : Hid (BK (w.heap.size + 1) 19 (xE op2 nm2 tx2 num2 a2 n2 c2 sa2 sn2 sc2 (qb.kd) (qb.lm) (qb.ls) na2 nn2 nc2 ga2 gn2 gc2 (qb.sk) oop2 onm2 otx2 onum2 oa2 on2 oc2 (qb.ky) (qb.wi)) ((w.alloc (.cells #[.int .i64 op1, .string ⟨nm1.toArray⟩, .string ⟨tx1.toArray⟩, .int .i64 num1, .slice a1 n1 c1, .slice sa1 sn1 sc1, .int .i64 (qa.kd), .int .i64 (qa.lm), .bool qa.ls, .slice na1 nn1 nc1, .slice ga1 gn1 gc1, .int .i64 (qa.sk), .int .i64 oop1, .string ⟨onm1.toArray⟩, .string ⟨otx1.toArray⟩, .int .i64 onum1, .slice oa1 on1 oc1, .string ⟨qa.ky.toArray⟩, .int .i64 (qa.wi)] 29)).alloc (.cells #[.int .i64 op2, .string ⟨nm2.toArray⟩, .string ⟨tx2.toArray⟩, .int .i64 num2, .slice a2 n2 c2, .slice sa2 sn2 sc2, .int .i64 (qb.kd), .int .i64 (qb.lm), .bool qb.ls, .slice na2 nn2 nc2, .slice ga2 gn2 gc2, .int .i64 (qb.sk), .int .i64 oop2, .string ⟨onm2.toArray⟩, .string ⟨otx2.toArray⟩, .int .i64 onum2, .slice oa2 on2 oc2, .string ⟨qb.ky.toArray⟩, .int .i64 (qb.wi)] 29))) := Lib.hid (by
    have := BK.new (w.alloc (.cells #[.int .i64 op1, .string ⟨nm1.toArray⟩, .string ⟨tx1.toArray⟩, .int .i64 num1, .slice a1 n1 c1, .slice sa1 sn1 sc1, .int .i64 (qa.kd), .int .i64 (qa.lm), .bool qa.ls, .slice na1 nn1 nc1, .slice ga1 gn1 gc1, .int .i64 (qa.sk), .int .i64 oop1, .string ⟨onm1.toArray⟩, .string ⟨otx1.toArray⟩, .int .i64 onum1, .slice oa1 on1 oc1, .string ⟨qa.ky.toArray⟩, .int .i64 (qa.wi)] 29)) #[.int .i64 op2, .string ⟨nm2.toArray⟩, .string ⟨tx2.toArray⟩, .int .i64 num2, .slice a2 n2 c2, .slice sa2 sn2 sc2, .int .i64 (qb.kd), .int .i64 (qb.lm), .bool qb.ls, .slice na2 nn2 nc2, .slice ga2 gn2 gc2, .int .i64 (qb.sk), .int .i64 oop2, .string ⟨onm2.toArray⟩, .string ⟨otx2.toArray⟩, .int .i64 onum2, .slice oa2 on2 oc2, .string ⟨qb.ky.toArray⟩, .int .i64 (qb.wi)] 29 (xE op2 nm2 tx2 num2 a2 n2 c2 sa2 sn2 sc2 (qb.kd) (qb.lm) (qb.ls) na2 nn2 nc2 ga2 gn2 gc2 (qb.sk) oop2 onm2 otx2 onum2 oa2 on2 oc2 (qb.ky) (qb.wi)) 19 (below19 rfl rfl rfl rfl rfl rfl rfl rfl rfl rfl rfl rfl rfl rfl rfl rfl rfl rfl rfl)
    simpa using this)
  have HB0 := Lib.hid (((Below.refl _ w).alloc (Nat.le_refl _) (.cells #[.int .i64 op1, .string ⟨nm1.toArray⟩, .string ⟨tx1.toArray⟩, .int .i64 num1, .slice a1 n1 c1, .slice sa1 sn1 sc1, .int .i64 (qa.kd), .int .i64 (qa.lm), .bool qa.ls, .slice na1 nn1 nc1, .slice ga1 gn1 gc1, .int .i64 (qa.sk), .int .i64 oop1, .string ⟨onm1.toArray⟩, .string ⟨otx1.toArray⟩, .int .i64 onum1, .slice oa1 on1 oc1, .string ⟨qa.ky.toArray⟩, .int .i64 (qa.wi)] 29)).alloc (by simp) (.cells #[.int .i64 op2, .string ⟨nm2.toArray⟩, .string ⟨tx2.toArray⟩, .int .i64 num2, .slice a2 n2 c2, .slice sa2 sn2 sc2, .int .i64 (qb.kd), .int .i64 (qb.lm), .bool qb.ls, .slice na2 nn2 nc2, .slice ga2 gn2 gc2, .int .i64 (qb.sk), .int .i64 oop2, .string ⟨onm2.toArray⟩, .string ⟨otx2.toArray⟩, .int .i64 onum2, .slice oa2 on2 oc2, .string ⟨qb.ky.toArray⟩, .int .i64 (qb.wi)] 29))
  have hs0 : w.heap.size + 2 = ((w.alloc (.cells #[.int .i64 op1, .string ⟨nm1.toArray⟩, .string ⟨tx1.toArray⟩, .int .i64 num1, .slice a1 n1 c1, .slice sa1 sn1 sc1, .int .i64 (qa.kd), .int .i64 (qa.lm), .bool qa.ls, .slice na1 nn1 nc1, .slice ga1 gn1 gc1, .int .i64 (qa.sk), .int .i64 oop1, .string ⟨onm1.toArray⟩, .string ⟨otx1.toArray⟩, .int .i64 onum1, .slice oa1 on1 oc1, .string ⟨qa.ky.toArray⟩, .int .i64 (qa.wi)] 29)).alloc (.cells #[.int .i64 op2, .string ⟨nm2.toArray⟩, .string ⟨tx2.toArray⟩, .int .i64 num2, .slice a2 n2 c2, .slice sa2 sn2 sc2, .int .i64 (qb.kd), .int .i64 (qb.lm), .bool qb.ls, .slice na2 nn2 nc2, .slice ga2 gn2 gc2, .int .i64 (qb.sk), .int .i64 oop2, .string ⟨onm2.toArray⟩, .string ⟨otx2.toArray⟩, .int .i64 onum2, .slice oa2 on2 oc2, .string ⟨qb.ky.toArray⟩, .int .i64 (qb.wi)] 29)).heap.size := by simp
  obtain ⟨W0, hW0⟩ : ∃ W0, ((w.alloc (.cells #[.int .i64 op1, .string ⟨nm1.toArray⟩, .string ⟨tx1.toArray⟩, .int .i64 num1, .slice a1 n1 c1, .slice sa1 sn1 sc1, .int .i64 (qa.kd), .int .i64 (qa.lm), .bool qa.ls, .slice na1 nn1 nc1, .slice ga1 gn1 gc1, .int .i64 (qa.sk), .int .i64 oop1, .string ⟨onm1.toArray⟩, .string ⟨otx1.toArray⟩, .int .i64 onum1, .slice oa1 on1 oc1, .string ⟨qa.ky.toArray⟩, .int .i64 (qa.wi)] 29)).alloc (.cells #[.int .i64 op2, .string ⟨nm2.toArray⟩, .string ⟨tx2.toArray⟩, .int .i64 num2, .slice a2 n2 c2, .slice sa2 sn2 sc2, .int .i64 (qb.kd), .int .i64 (qb.lm), .bool qb.ls, .slice na2 nn2 nc2, .slice ga2 gn2 gc2, .int .i64 (qb.sk), .int .i64 oop2, .string ⟨onm2.toArray⟩, .string ⟨otx2.toArray⟩, .int .i64 onum2, .slice oa2 on2 oc2, .string ⟨qb.ky.toArray⟩, .int .i64 (qb.wi)] 29)) = W0 := ⟨_, rfl⟩
  rw [hW0] at HBK1 HBK2 HB0 hs0
  go_enter Try.func3, Try.ntmps3
  go_wp2_with fail
  clear hW0
  refine (awake_any _).mono ?_
  rintro e w1 ⟨rfl, hb1⟩
  have HB1 := Lib.hid hb1
  clear hb1
  have hlda1 : (load19 ⟨w.heap.size, 0, none⟩).run Try.prog w1 = .ok #[.int .i64 op1, .string ⟨nm1.toArray⟩, .string ⟨tx1.toArray⟩, .int .i64 num1, .slice a1 n1 c1, .slice sa1 sn1 sc1, .int .i64 (qa.kd), .int .i64 (qa.lm), .bool qa.ls, .slice na1 nn1 nc1, .slice ga1 gn1 gc1, .int .i64 (qa.sk), .int .i64 oop1, .string ⟨onm1.toArray⟩, .string ⟨otx1.toArray⟩, .int .i64 onum1, .slice oa1 on1 oc1, .string ⟨qa.ky.toArray⟩, .int .i64 (qa.wi)] w1 := run_load19 (HBK1.out.on HB1.out (by omega))
  have hldb1 : (load19 ⟨w.heap.size + 1, 0, none⟩).run Try.prog w1 = .ok #[.int .i64 op2, .string ⟨nm2.toArray⟩, .string ⟨tx2.toArray⟩, .int .i64 num2, .slice a2 n2 c2, .slice sa2 sn2 sc2, .int .i64 (qb.kd), .int .i64 (qb.lm), .bool qb.ls, .slice na2 nn2 nc2, .slice ga2 gn2 gc2, .int .i64 (qb.sk), .int .i64 oop2, .string ⟨onm2.toArray⟩, .string ⟨otx2.toArray⟩, .int .i64 onum2, .slice oa2 on2 oc2, .string ⟨qb.ky.toArray⟩, .int .i64 (qb.wi)] w1 := run_load19 (HBK2.out.on HB1.out (by omega))
  have HQA1 : Hid (QAt w1 qa (.agg #[.int .i64 op1, .string ⟨nm1.toArray⟩, .string ⟨tx1.toArray⟩, .int .i64 num1, .slice a1 n1 c1, .slice sa1 sn1 sc1, .int .i64 (qa.kd), .int .i64 (qa.lm), .bool qa.ls, .slice na1 nn1 nc1, .slice ga1 gn1 gc1, .int .i64 (qa.sk), .int .i64 oop1, .string ⟨onm1.toArray⟩, .string ⟨otx1.toArray⟩, .int .i64 onum1, .slice oa1 on1 oc1, .string ⟨qa.ky.toArray⟩, .int .i64 (qa.wi)])) := Lib.hid (HQA.out.later (HB0.out.trans (HB1.out.mono (by omega))))
  have HQB1 : Hid (QAt w1 qb (.agg #[.int .i64 op2, .string ⟨nm2.toArray⟩, .string ⟨tx2.toArray⟩, .int .i64 num2, .slice a2 n2 c2, .slice sa2 sn2 sc2, .int .i64 (qb.kd), .int .i64 (qb.lm), .bool qb.ls, .slice na2 nn2 nc2, .slice ga2 gn2 gc2, .int .i64 (qb.sk), .int .i64 oop2, .string ⟨onm2.toArray⟩, .string ⟨otx2.toArray⟩, .int .i64 onum2, .slice oa2 on2 oc2, .string ⟨qb.ky.toArray⟩, .int .i64 (qb.wi)])) := Lib.hid (HQB.out.later (HB0.out.trans (HB1.out.mono (by omega))))
  by_cases fa : fineN qa < 300
  · have HFA := Lib.hid (decide_eq_true fa)
    clear fa
    go_wp2_with fail
    refine (fine_any qa _ w1 HQA1.out true HFA.out).mono ?_
    rintro e w2 ⟨rfl, hb2⟩
    have HB2 := Lib.hid (HB1.out.trans (hb2.mono HB1.out.size))
    clear hb2 hlda1 hldb1
    have hlda2 : (load19 ⟨w.heap.size, 0, none⟩).run Try.prog w2 = .ok #[.int .i64 op1, .string ⟨nm1.toArray⟩, .string ⟨tx1.toArray⟩, .int .i64 num1, .slice a1 n1 c1, .slice sa1 sn1 sc1, .int .i64 (qa.kd), .int .i64 (qa.lm), .bool qa.ls, .slice na1 nn1 nc1, .slice ga1 gn1 gc1, .int .i64 (qa.sk), .int .i64 oop1, .string ⟨onm1.toArray⟩, .string ⟨otx1.toArray⟩, .int .i64 onum1, .slice oa1 on1 oc1, .string ⟨qa.ky.toArray⟩, .int .i64 (qa.wi)] w2 := run_load19 (HBK1.out.on HB2.out (by omega))
    have hldb2 : (load19 ⟨w.heap.size + 1, 0, none⟩).run Try.prog w2 = .ok #[.int .i64 op2, .string ⟨nm2.toArray⟩, .string ⟨tx2.toArray⟩, .int .i64 num2, .slice a2 n2 c2, .slice sa2 sn2 sc2, .int .i64 (qb.kd), .int .i64 (qb.lm), .bool qb.ls, .slice na2 nn2 nc2, .slice ga2 gn2 gc2, .int .i64 (qb.sk), .int .i64 oop2, .string ⟨onm2.toArray⟩, .string ⟨otx2.toArray⟩, .int .i64 onum2, .slice oa2 on2 oc2, .string ⟨qb.ky.toArray⟩, .int .i64 (qb.wi)] w2 := run_load19 (HBK2.out.on HB2.out (by omega))
    have HQA2 : Hid (QAt w2 qa (.agg #[.int .i64 op1, .string ⟨nm1.toArray⟩, .string ⟨tx1.toArray⟩, .int .i64 num1, .slice a1 n1 c1, .slice sa1 sn1 sc1, .int .i64 (qa.kd), .int .i64 (qa.lm), .bool qa.ls, .slice na1 nn1 nc1, .slice ga1 gn1 gc1, .int .i64 (qa.sk), .int .i64 oop1, .string ⟨onm1.toArray⟩, .string ⟨otx1.toArray⟩, .int .i64 onum1, .slice oa1 on1 oc1, .string ⟨qa.ky.toArray⟩, .int .i64 (qa.wi)])) := Lib.hid (HQA.out.later (HB0.out.trans (HB2.out.mono (by omega))))
    have HQB2 : Hid (QAt w2 qb (.agg #[.int .i64 op2, .string ⟨nm2.toArray⟩, .string ⟨tx2.toArray⟩, .int .i64 num2, .slice a2 n2 c2, .slice sa2 sn2 sc2, .int .i64 (qb.kd), .int .i64 (qb.lm), .bool qb.ls, .slice na2 nn2 nc2, .slice ga2 gn2 gc2, .int .i64 (qb.sk), .int .i64 oop2, .string ⟨onm2.toArray⟩, .string ⟨otx2.toArray⟩, .int .i64 onum2, .slice oa2 on2 oc2, .string ⟨qb.ky.toArray⟩, .int .i64 (qb.wi)])) := Lib.hid (HQB.out.later (HB0.out.trans (HB2.out.mono (by omega))))
    by_cases fb : fineN qb < 300
    · have HFB := Lib.hid (decide_eq_true fb)
      clear fb
      go_wp2_with fail
      refine (fine_any qb _ w2 HQB2.out true HFB.out).mono ?_
      rintro e w3 ⟨rfl, hb3⟩
      have HB3 := Lib.hid (HB2.out.trans (hb3.mono HB2.out.size))
      clear hb3 hlda2 hldb2
      go_wp2_with fail
      refine (new_any vc cs 300 w3 (HCS.out.below (HB0.out.trans (HB3.out.mono (by omega)))) (by omega)).mono ?_
      rintro e w4 ⟨rfl, hca, hb4⟩
      obtain ⟨g, hg⟩ : ∃ g, g = w3.heap.size := ⟨_, rfl⟩
      have hgW : W0.heap.size ≤ g := by have := HB3.out.size; omega
      have HB4 := Lib.hid (HB3.out.trans (hb4.mono HB3.out.size))
      rw [← hg] at hca ⊢
      have HCA := Lib.hid hca
      have hg4 : g < w4.heap.size := hca.1
      clear hg hb4 hca
      go_wp2_with fail
      refine (dquery_aux HT.out g w4 HCA.out).mono ?_
      rintro e w5 ⟨E, rfl, hqx, hgd5, hsm⟩
      obtain ⟨op3, nm3, tx3, num3, a3, n3, c3, sa3, sn3, sc3, kd3, lm3, ls3, na3, nn3, nc3, ga3, gn3, gc3, sk3, oop3, onm3, otx3, onum3, oa3, on3, oc3, ky3, wi3, hE⟩ := hqx.open
      have hV : QV E = .agg #[.int .i64 op3, .string ⟨nm3.toArray⟩, .string ⟨tx3.toArray⟩, .int .i64 num3, .slice a3 n3 c3, .slice sa3 sn3 sc3, .int .i64 kd3, .int .i64 lm3, .bool ls3, .slice na3 nn3 nc3, .slice ga3 gn3 gc3, .int .i64 sk3, .int .i64 oop3, .string ⟨onm3.toArray⟩, .string ⟨otx3.toArray⟩, .int .i64 onum3, .slice oa3 on3 oc3, .string ⟨ky3.toArray⟩, .int .i64 wi3] := by
        unfold QV
        rw [hE 0 (by omega), hE 1 (by omega), hE 2 (by omega), hE 3 (by omega), hE 4 (by omega), hE 5 (by omega), hE 6 (by omega), hE 7 (by omega), hE 8 (by omega), hE 9 (by omega), hE 10 (by omega), hE 11 (by omega), hE 12 (by omega), hE 13 (by omega), hE 14 (by omega), hE 15 (by omega), hE 16 (by omega), hE 17 (by omega), hE 18 (by omega)]
        rfl
      have HX5 := Lib.hid (hqx.cong hE)
      have HSM := Lib.hid (hsm.cong hE)
      have HG5 := Lib.hid hgd5
      rw [hV]
      clear hqx hgd5 hsm hE hV
      have HBX := Lib.hid (BK.new w5 #[.int .i64 op3, .string ⟨nm3.toArray⟩, .string ⟨tx3.toArray⟩, .int .i64 num3, .slice a3 n3 c3, .slice sa3 sn3 sc3, .int .i64 kd3, .int .i64 lm3, .bool ls3, .slice na3 nn3 nc3, .slice ga3 gn3 gc3, .int .i64 sk3, .int .i64 oop3, .string ⟨onm3.toArray⟩, .string ⟨otx3.toArray⟩, .int .i64 onum3, .slice oa3 on3 oc3, .string ⟨ky3.toArray⟩, .int .i64 wi3] 29 (xE op3 nm3 tx3 num3 a3 n3 c3 sa3 sn3 sc3 kd3 lm3 ls3 na3 nn3 nc3 ga3 gn3 gc3 sk3 oop3 onm3 otx3 onum3 oa3 on3 oc3 ky3 wi3) 19 (below19 rfl rfl rfl rfl rfl rfl rfl rfl rfl rfl rfl rfl rfl rfl rfl rfl rfl rfl rfl))
      have HG6 := Lib.hid (HG5.out.al (.cells #[.int .i64 op3, .string ⟨nm3.toArray⟩, .string ⟨tx3.toArray⟩, .int .i64 num3, .slice a3 n3 c3, .slice sa3 sn3 sc3, .int .i64 kd3, .int .i64 lm3, .bool ls3, .slice na3 nn3 nc3, .slice ga3 gn3 gc3, .int .i64 sk3, .int .i64 oop3, .string ⟨onm3.toArray⟩, .string ⟨otx3.toArray⟩, .int .i64 onum3, .slice oa3 on3 oc3, .string ⟨ky3.toArray⟩, .int .i64 wi3] 29))
      have HX6 := Lib.hid (HX5.out.go (F' := fun k => w4.heap.size ≤ k) ⟨by simp, fun k hk hl => ⟨hk, ((Below.refl _ w5).alloc (Nat.le_refl _) (.cells #[.int .i64 op3, .string ⟨nm3.toArray⟩, .string ⟨tx3.toArray⟩, .int .i64 num3, .slice a3 n3 c3, .slice sa3 sn3 sc3, .int .i64 kd3, .int .i64 lm3, .bool ls3, .slice na3 nn3 nc3, .slice ga3 gn3 gc3, .int .i64 sk3, .int .i64 oop3, .string ⟨onm3.toArray⟩, .string ⟨otx3.toArray⟩, .int .i64 onum3, .slice oa3 on3 oc3, .string ⟨ky3.toArray⟩, .int .i64 wi3] 29)).block k hl⟩⟩)
      obtain ⟨w6, hw6⟩ : ∃ w6, w5.alloc (.cells #[.int .i64 op3, .string ⟨nm3.toArray⟩, .string ⟨tx3.toArray⟩, .int .i64 num3, .slice a3 n3 c3, .slice sa3 sn3 sc3, .int .i64 kd3, .int .i64 lm3, .bool ls3, .slice na3 nn3 nc3, .slice ga3 gn3 gc3, .int .i64 sk3, .int .i64 oop3, .string ⟨onm3.toArray⟩, .string ⟨otx3.toArray⟩, .int .i64 onum3, .slice oa3 on3 oc3, .string ⟨ky3.toArray⟩, .int .i64 wi3] 29) = w6 := ⟨_, rfl⟩
      have hx6 : w5.heap.size < w6.heap.size := by rw [← hw6]; simp
      have hg5 : g < w5.heap.size := HG5.out.codes.1
      rw [hw6] at HBX HG6 HX6
      have hldx : (load19 ⟨w5.heap.size, 0, none⟩).run Try.prog w6 = .ok #[.int .i64 op3, .string ⟨nm3.toArray⟩, .string ⟨tx3.toArray⟩, .int .i64 num3, .slice a3 n3 c3, .slice sa3 sn3 sc3, .int .i64 kd3, .int .i64 lm3, .bool ls3, .slice na3 nn3 nc3, .slice ga3 gn3 gc3, .int .i64 sk3, .int .i64 oop3, .string ⟨onm3.toArray⟩, .string ⟨otx3.toArray⟩, .int .i64 onum3, .slice oa3 on3 oc3, .string ⟨ky3.toArray⟩, .int .i64 wi3] w6 := run_load19 HBX.out
      go_wp2_with fail
      refine (dodd_aux (HT.out 1 (by omega)) g w4 w6 HG6.out op3 nm3 tx3 num3 a3 n3 c3 sa3 sn3 sc3 kd3 lm3 ls3 na3 nn3 nc3 ga3 gn3 gc3 sk3 oop3 onm3 otx3 onum3 oa3 on3 oc3 ky3 wi3 HX6.out HSM.out).mono ?_
      rintro e w7 ⟨E, rfl, hqy, hqx, hgd7, hsz7, hfr⟩
      have HX7 := Lib.hid hqx.at
      obtain ⟨qy, hqy⟩ := hqy.at
      have HQY := Lib.hid hqy
      obtain ⟨op4, nm4, tx4, num4, a4, n4, c4, sa4, sn4, sc4, na4, nn4, nc4, ga4, gn4, gc4, oop4, onm4, otx4, onum4, oa4, on4, oc4, hV, _⟩ := hqy
      unfold qVal at hV
      rw [hV] at HQY ⊢
      have HBX7 := Lib.hid (HBX.out.keep (hfr _ hx6 (by omega) (fun e => by have := HX5.out.lt (j := w5.heap.size) e; omega)) hsz7)
      have HG7 := Lib.hid hgd7
      have HBY := Lib.hid (BK.new w7 #[.int .i64 op4, .string ⟨nm4.toArray⟩, .string ⟨tx4.toArray⟩, .int .i64 num4, .slice a4 n4 c4, .slice sa4 sn4 sc4, .int .i64 (qy.kd), .int .i64 (qy.lm), .bool qy.ls, .slice na4 nn4 nc4, .slice ga4 gn4 gc4, .int .i64 (qy.sk), .int .i64 oop4, .string ⟨onm4.toArray⟩, .string ⟨otx4.toArray⟩, .int .i64 onum4, .slice oa4 on4 oc4, .string ⟨qy.ky.toArray⟩, .int .i64 (qy.wi)] 29 (xE op4 nm4 tx4 num4 a4 n4 c4 sa4 sn4 sc4 (qy.kd) (qy.lm) (qy.ls) na4 nn4 nc4 ga4 gn4 gc4 (qy.sk) oop4 onm4 otx4 onum4 oa4 on4 oc4 (qy.ky) (qy.wi)) 19 (below19 rfl rfl rfl rfl rfl rfl rfl rfl rfl rfl rfl rfl rfl rfl rfl rfl rfl rfl rfl))
      have HG8 := Lib.hid (HG7.out.al (.cells #[.int .i64 op4, .string ⟨nm4.toArray⟩, .string ⟨tx4.toArray⟩, .int .i64 num4, .slice a4 n4 c4, .slice sa4 sn4 sc4, .int .i64 (qy.kd), .int .i64 (qy.lm), .bool qy.ls, .slice na4 nn4 nc4, .slice ga4 gn4 gc4, .int .i64 (qy.sk), .int .i64 oop4, .string ⟨onm4.toArray⟩, .string ⟨otx4.toArray⟩, .int .i64 onum4, .slice oa4 on4 oc4, .string ⟨qy.ky.toArray⟩, .int .i64 (qy.wi)] 29))
      have hbA := (Below.refl _ w7).alloc (Nat.le_refl _) (.cells #[.int .i64 op4, .string ⟨nm4.toArray⟩, .string ⟨tx4.toArray⟩, .int .i64 num4, .slice a4 n4 c4, .slice sa4 sn4 sc4, .int .i64 (qy.kd), .int .i64 (qy.lm), .bool qy.ls, .slice na4 nn4 nc4, .slice ga4 gn4 gc4, .int .i64 (qy.sk), .int .i64 oop4, .string ⟨onm4.toArray⟩, .string ⟨otx4.toArray⟩, .int .i64 onum4, .slice oa4 on4 oc4, .string ⟨qy.ky.toArray⟩, .int .i64 (qy.wi)] 29)
      have HBX8 := Lib.hid (HBX7.out.al (.cells #[.int .i64 op4, .string ⟨nm4.toArray⟩, .string ⟨tx4.toArray⟩, .int .i64 num4, .slice a4 n4 c4, .slice sa4 sn4 sc4, .int .i64 (qy.kd), .int .i64 (qy.lm), .bool qy.ls, .slice na4 nn4 nc4, .slice ga4 gn4 gc4, .int .i64 (qy.sk), .int .i64 oop4, .string ⟨onm4.toArray⟩, .string ⟨otx4.toArray⟩, .int .i64 onum4, .slice oa4 on4 oc4, .string ⟨qy.ky.toArray⟩, .int .i64 (qy.wi)] 29))
      obtain ⟨qx, hqx⟩ := HX7.out
      have HQX8 := Lib.hid (hqx.later hbA)
      have HQY8 := Lib.hid (HQY.out.later hbA)
      clear hqx hgd7 hsz7 hfr hV HX7 HQY hbA
      obtain ⟨w8, hw8⟩ : ∃ w8, w7.alloc (.cells #[.int .i64 op4, .string ⟨nm4.toArray⟩, .string ⟨tx4.toArray⟩, .int .i64 num4, .slice a4 n4 c4, .slice sa4 sn4 sc4, .int .i64 (qy.kd), .int .i64 (qy.lm), .bool qy.ls, .slice na4 nn4 nc4, .slice ga4 gn4 gc4, .int .i64 (qy.sk), .int .i64 oop4, .string ⟨onm4.toArray⟩, .string ⟨otx4.toArray⟩, .int .i64 onum4, .slice oa4 on4 oc4, .string ⟨qy.ky.toArray⟩, .int .i64 (qy.wi)] 29) = w8 := ⟨_, rfl⟩
      rw [hw8] at HBY HG8 HBX8 HQX8 HQY8
      have HB8 := Lib.hid (Apart.below HB4.out HG8.out.ap hgW)
      have HV8 := Lib.hid (HB0.out.trans (HB8.out.mono (by omega)))
      clear hldx hw6
      go_wp2_with fail
      clear hw8
      obtain ⟨e1, hE1⟩ : ∃ e1, eqQ qa qb = e1 := ⟨_, rfl⟩
      have HE1 := Lib.hid hE1
      obtain ⟨e2, hE2⟩ : ∃ e2, eqQ qx qy = e2 := ⟨_, rfl⟩
      have HE2 := Lib.hid hE2
      clear hE1 hE2
      refine wp_region_slotsG (by rfl) (by kernel_rfl) (by kernel_rfl) 76 [] [(3, .pointer (some ⟨w.heap.size, 0, none⟩)), (4, .pointer (some ⟨w.heap.size + 1, 0, none⟩)), (8, .pointer (some ⟨w5.heap.size, 0, none⟩)), (9, .pointer (some ⟨w7.heap.size, 0, none⟩))] (by kernel_rfl) (fun W => Below w8.heap.size w8 W) (fun _ _ => True) (fun k v _ => v = (#[.agg #[.int .i64 op1, .string ⟨nm1.toArray⟩, .string ⟨tx1.toArray⟩, .int .i64 num1, .slice a1 n1 c1, .slice sa1 sn1 sc1, .int .i64 (qa.kd), .int .i64 (qa.lm), .bool qa.ls, .slice na1 nn1 nc1, .slice ga1 gn1 gc1, .int .i64 (qa.sk), .int .i64 oop1, .string ⟨onm1.toArray⟩, .string ⟨otx1.toArray⟩, .int .i64 onum1, .slice oa1 on1 oc1, .string ⟨qa.ky.toArray⟩, .int .i64 (qa.wi)], .agg #[.int .i64 op2, .string ⟨nm2.toArray⟩, .string ⟨tx2.toArray⟩, .int .i64 num2, .slice a2 n2 c2, .slice sa2 sn2 sc2, .int .i64 (qb.kd), .int .i64 (qb.lm), .bool qb.ls, .slice na2 nn2 nc2, .slice ga2 gn2 gc2, .int .i64 (qb.sk), .int .i64 oop2, .string ⟨onm2.toArray⟩, .string ⟨otx2.toArray⟩, .int .i64 onum2, .slice oa2 on2 oc2, .string ⟨qb.ky.toArray⟩, .int .i64 (qb.wi)], .bool e1, .agg #[.int .i64 op1, .string ⟨nm1.toArray⟩, .string ⟨tx1.toArray⟩, .int .i64 num1, .slice a1 n1 c1, .slice sa1 sn1 sc1, .int .i64 (qa.kd), .int .i64 (qa.lm), .bool qa.ls, .slice na1 nn1 nc1, .slice ga1 gn1 gc1, .int .i64 (qa.sk), .int .i64 oop1, .string ⟨onm1.toArray⟩, .string ⟨otx1.toArray⟩, .int .i64 onum1, .slice oa1 on1 oc1, .string ⟨qa.ky.toArray⟩, .int .i64 (qa.wi)], .agg #[.int .i64 op2, .string ⟨nm2.toArray⟩, .string ⟨tx2.toArray⟩, .int .i64 num2, .slice a2 n2 c2, .slice sa2 sn2 sc2, .int .i64 (qb.kd), .int .i64 (qb.lm), .bool qb.ls, .slice na2 nn2 nc2, .slice ga2 gn2 gc2, .int .i64 (qb.sk), .int .i64 oop2, .string ⟨onm2.toArray⟩, .string ⟨otx2.toArray⟩, .int .i64 onum2, .slice oa2 on2 oc2, .string ⟨qb.ky.toArray⟩, .int .i64 (qb.wi)], .bool e1, .bool true, .bool true, .agg #[.int .i64 op1, .string ⟨nm1.toArray⟩, .string ⟨tx1.toArray⟩, .int .i64 num1, .slice a1 n1 c1, .slice sa1 sn1 sc1, .int .i64 (qa.kd), .int .i64 (qa.lm), .bool qa.ls, .slice na1 nn1 nc1, .slice ga1 gn1 gc1, .int .i64 (qa.sk), .int .i64 oop1, .string ⟨onm1.toArray⟩, .string ⟨otx1.toArray⟩, .int .i64 onum1, .slice oa1 on1 oc1, .string ⟨qa.ky.toArray⟩, .int .i64 (qa.wi)], .agg #[.int .i64 op1, .string ⟨nm1.toArray⟩, .string ⟨tx1.toArray⟩, .int .i64 num1, .slice a1 n1 c1, .slice sa1 sn1 sc1, .int .i64 (qa.kd), .int .i64 (qa.lm), .bool qa.ls, .slice na1 nn1 nc1, .slice ga1 gn1 gc1, .int .i64 (qa.sk), .int .i64 oop1, .string ⟨onm1.toArray⟩, .string ⟨otx1.toArray⟩, .int .i64 onum1, .slice oa1 on1 oc1, .string ⟨qa.ky.toArray⟩, .int .i64 (qa.wi)], .bool true, .bool true, .bool true, .agg #[.int .i64 op3, .string ⟨nm3.toArray⟩, .string ⟨tx3.toArray⟩, .int .i64 num3, .slice a3 n3 c3, .slice sa3 sn3 sc3, .int .i64 kd3, .int .i64 lm3, .bool ls3, .slice na3 nn3 nc3, .slice ga3 gn3 gc3, .int .i64 sk3, .int .i64 oop3, .string ⟨onm3.toArray⟩, .string ⟨otx3.toArray⟩, .int .i64 onum3, .slice oa3 on3 oc3, .string ⟨ky3.toArray⟩, .int .i64 wi3], .agg #[.int .i64 op4, .string ⟨nm4.toArray⟩, .string ⟨tx4.toArray⟩, .int .i64 num4, .slice a4 n4 c4, .slice sa4 sn4 sc4, .int .i64 (qy.kd), .int .i64 (qy.lm), .bool qy.ls, .slice na4 nn4 nc4, .slice ga4 gn4 gc4, .int .i64 (qy.sk), .int .i64 oop4, .string ⟨onm4.toArray⟩, .string ⟨otx4.toArray⟩, .int .i64 onum4, .slice oa4 on4 oc4, .string ⟨qy.ky.toArray⟩, .int .i64 (qy.wi)], .bool e2, .agg #[.int .i64 op3, .string ⟨nm3.toArray⟩, .string ⟨tx3.toArray⟩, .int .i64 num3, .slice a3 n3 c3, .slice sa3 sn3 sc3, .int .i64 kd3, .int .i64 lm3, .bool ls3, .slice na3 nn3 nc3, .slice ga3 gn3 gc3, .int .i64 sk3, .int .i64 oop3, .string ⟨onm3.toArray⟩, .string ⟨otx3.toArray⟩, .int .i64 onum3, .slice oa3 on3 oc3, .string ⟨ky3.toArray⟩, .int .i64 wi3], .agg #[.int .i64 op4, .string ⟨nm4.toArray⟩, .string ⟨tx4.toArray⟩, .int .i64 num4, .slice a4 n4 c4, .slice sa4 sn4 sc4, .int .i64 (qy.kd), .int .i64 (qy.lm), .bool qy.ls, .slice na4 nn4 nc4, .slice ga4 gn4 gc4, .int .i64 (qy.sk), .int .i64 oop4, .string ⟨onm4.toArray⟩, .string ⟨otx4.toArray⟩, .int .i64 onum4, .slice oa4 on4 oc4, .string ⟨qy.ky.toArray⟩, .int .i64 (qy.wi)], .bool e2, .bool true, .bool true, .bool true, .pointer (some ⟨w.heap.size, 0, none⟩), .agg #[.int .i64 op1, .string ⟨nm1.toArray⟩, .string ⟨tx1.toArray⟩, .int .i64 num1, .slice a1 n1 c1], .int .i64 (qSz qa.t), .pointer (some ⟨w.heap.size, 0, none⟩), .agg #[.int .i64 op1, .string ⟨nm1.toArray⟩, .string ⟨tx1.toArray⟩, .int .i64 num1, .slice a1 n1 c1], .int .i64 (qSz qa.t), .bool true, .bool true, .bool true, .pointer (some ⟨w7.heap.size, 0, none⟩), .agg #[.int .i64 op4, .string ⟨nm4.toArray⟩, .string ⟨tx4.toArray⟩, .int .i64 num4, .slice a4 n4 c4], .int .i64 (qSz qy.t), .pointer (some ⟨w7.heap.size, 0, none⟩), .agg #[.int .i64 op4, .string ⟨nm4.toArray⟩, .string ⟨tx4.toArray⟩, .int .i64 num4, .slice a4 n4 c4], .int .i64 (qSz qy.t), .bool true, .bool true, .bool true] : Array Value)[k]!) (fun _ _ _ _ _ h => h) ?_ ?_ ?_ ⟨rfl, rfl, fun s v hs => ?_, (Below.refl _ _).drew⟩
      case refine_1 =>
        intro i o j want ho hgd v W hv
        have hi40 : i < 40 := (Array.getElem?_eq_some_iff.1 ho).1
        rcases (show i = 0 ∨ i = 1 ∨ i = 2 ∨ i = 3 ∨ i = 4 ∨ i = 5 ∨ i = 6 ∨ i = 7 ∨ i = 8 ∨ i = 9 ∨ i = 10 ∨ i = 11 ∨ i = 12 ∨ i = 13 ∨ i = 14 ∨ i = 15 ∨ i = 16 ∨ i = 17 ∨ i = 18 ∨ i = 19 ∨ i = 20 ∨ i = 21 ∨ i = 22 ∨ i = 23 ∨ i = 24 ∨ i = 25 ∨ i = 26 ∨ i = 27 ∨ i = 28 ∨ i = 29 ∨ i = 30 ∨ i = 31 ∨ i = 32 ∨ i = 33 ∨ i = 34 ∨ i = 35 ∨ i = 36 ∨ i = 37 ∨ i = 38 ∨ i = 39 by omega) with rfl | rfl | rfl | rfl | rfl | rfl | rfl | rfl | rfl | rfl | rfl | rfl | rfl | rfl | rfl | rfl | rfl | rfl | rfl | rfl | rfl | rfl | rfl | rfl | rfl | rfl | rfl | rfl | rfl | rfl | rfl | rfl | rfl | rfl | rfl | rfl | rfl | rfl | rfl | rfl
        all_goals
          obtain rfl := Option.some.inj ho
          first
          | (cases hgd; done)
          | (obtain ⟨rfl, rfl⟩ := Prod.mk.inj (Option.some.inj hgd); exact hv)
      case refine_2 =>
        intro i o ho ac W hB hd K hK
        have hi40 : i < 40 := (Array.getElem?_eq_some_iff.1 ho).1
        have h3 : ac.tmps.getD 3 undef = .pointer (some ⟨w.heap.size, 0, none⟩) := hB.fixed 3 _ (by simp)
        have h4 : ac.tmps.getD 4 undef = .pointer (some ⟨w.heap.size + 1, 0, none⟩) := hB.fixed 4 _ (by simp)
        have h8 : ac.tmps.getD 8 undef = .pointer (some ⟨w5.heap.size, 0, none⟩) := hB.fixed 8 _ (by simp)
        have h9 : ac.tmps.getD 9 undef = .pointer (some ⟨w7.heap.size, 0, none⟩) := hB.fixed 9 _ (by simp)
        have HBB : Hid (Below w8.heap.size w8 W) := Lib.hid hB.inv
        have HVW := Lib.hid (HB8.out.trans (HBB.out.mono HB8.out.size))
        have HVV := Lib.hid (HB0.out.trans (HVW.out.mono (by omega)))
        have HAW : Hid (QAt W qa (.agg #[.int .i64 op1, .string ⟨nm1.toArray⟩, .string ⟨tx1.toArray⟩, .int .i64 num1, .slice a1 n1 c1, .slice sa1 sn1 sc1, .int .i64 (qa.kd), .int .i64 (qa.lm), .bool qa.ls, .slice na1 nn1 nc1, .slice ga1 gn1 gc1, .int .i64 (qa.sk), .int .i64 oop1, .string ⟨onm1.toArray⟩, .string ⟨otx1.toArray⟩, .int .i64 onum1, .slice oa1 on1 oc1, .string ⟨qa.ky.toArray⟩, .int .i64 (qa.wi)])) := Lib.hid (HQA.out.later HVV.out)
        have HBW : Hid (QAt W qb (.agg #[.int .i64 op2, .string ⟨nm2.toArray⟩, .string ⟨tx2.toArray⟩, .int .i64 num2, .slice a2 n2 c2, .slice sa2 sn2 sc2, .int .i64 (qb.kd), .int .i64 (qb.lm), .bool qb.ls, .slice na2 nn2 nc2, .slice ga2 gn2 gc2, .int .i64 (qb.sk), .int .i64 oop2, .string ⟨onm2.toArray⟩, .string ⟨otx2.toArray⟩, .int .i64 onum2, .slice oa2 on2 oc2, .string ⟨qb.ky.toArray⟩, .int .i64 (qb.wi)])) := Lib.hid (HQB.out.later HVV.out)
        have HXW : Hid (QAt W qx (.agg #[.int .i64 op3, .string ⟨nm3.toArray⟩, .string ⟨tx3.toArray⟩, .int .i64 num3, .slice a3 n3 c3, .slice sa3 sn3 sc3, .int .i64 kd3, .int .i64 lm3, .bool ls3, .slice na3 nn3 nc3, .slice ga3 gn3 gc3, .int .i64 sk3, .int .i64 oop3, .string ⟨onm3.toArray⟩, .string ⟨otx3.toArray⟩, .int .i64 onum3, .slice oa3 on3 oc3, .string ⟨ky3.toArray⟩, .int .i64 wi3])) := Lib.hid (HQX8.out.later HBB.out)
        have HYW : Hid (QAt W qy (.agg #[.int .i64 op4, .string ⟨nm4.toArray⟩, .string ⟨tx4.toArray⟩, .int .i64 num4, .slice a4 n4 c4, .slice sa4 sn4 sc4, .int .i64 (qy.kd), .int .i64 (qy.lm), .bool qy.ls, .slice na4 nn4 nc4, .slice ga4 gn4 gc4, .int .i64 (qy.sk), .int .i64 oop4, .string ⟨onm4.toArray⟩, .string ⟨otx4.toArray⟩, .int .i64 onum4, .slice oa4 on4 oc4, .string ⟨qy.ky.toArray⟩, .int .i64 (qy.wi)])) := Lib.hid (HQY8.out.later HBB.out)
        have HKA := Lib.hid (HBK1.out.on HVW.out (by omega))
        have HKB := Lib.hid (HBK2.out.on HVW.out (by omega))
        have HKX := Lib.hid (HBX8.out.on HBB.out HBX8.out.lt)
        have HKY := Lib.hid (HBY.out.on HBB.out HBY.out.lt)
        have HKK := Lib.hid hK
        clear hK hB
        rcases (show i = 0 ∨ i = 1 ∨ i = 2 ∨ i = 3 ∨ i = 4 ∨ i = 5 ∨ i = 6 ∨ i = 7 ∨ i = 8 ∨ i = 9 ∨ i = 10 ∨ i = 11 ∨ i = 12 ∨ i = 13 ∨ i = 14 ∨ i = 15 ∨ i = 16 ∨ i = 17 ∨ i = 18 ∨ i = 19 ∨ i = 20 ∨ i = 21 ∨ i = 22 ∨ i = 23 ∨ i = 24 ∨ i = 25 ∨ i = 26 ∨ i = 27 ∨ i = 28 ∨ i = 29 ∨ i = 30 ∨ i = 31 ∨ i = 32 ∨ i = 33 ∨ i = 34 ∨ i = 35 ∨ i = 36 ∨ i = 37 ∨ i = 38 ∨ i = 39 by omega) with rfl | rfl | rfl | rfl | rfl | rfl | rfl | rfl | rfl | rfl | rfl | rfl | rfl | rfl | rfl | rfl | rfl | rfl | rfl | rfl | rfl | rfl | rfl | rfl | rfl | rfl | rfl | rfl | rfl | rfl | rfl | rfl | rfl | rfl | rfl | rfl | rfl | rfl | rfl | rfl
        · obtain rfl := Option.some.inj ho
          have hld : (load19 ⟨w.heap.size, 0, none⟩).run Try.prog W = .ok #[.int .i64 op1, .string ⟨nm1.toArray⟩, .string ⟨tx1.toArray⟩, .int .i64 num1, .slice a1 n1 c1, .slice sa1 sn1 sc1, .int .i64 (qa.kd), .int .i64 (qa.lm), .bool qa.ls, .slice na1 nn1 nc1, .slice ga1 gn1 gc1, .int .i64 (qa.sk), .int .i64 oop1, .string ⟨onm1.toArray⟩, .string ⟨otx1.toArray⟩, .int .i64 onum1, .slice oa1 on1 oc1, .string ⟨qa.ky.toArray⟩, .int .i64 (qa.wi)] W := run_load19 HKA.out
          go_simp
          exact HKK.out _ _ trivial HBB.out rfl
        · obtain rfl := Option.some.inj ho
          have hld : (load19 ⟨w.heap.size + 1, 0, none⟩).run Try.prog W = .ok #[.int .i64 op2, .string ⟨nm2.toArray⟩, .string ⟨tx2.toArray⟩, .int .i64 num2, .slice a2 n2 c2, .slice sa2 sn2 sc2, .int .i64 (qb.kd), .int .i64 (qb.lm), .bool qb.ls, .slice na2 nn2 nc2, .slice ga2 gn2 gc2, .int .i64 (qb.sk), .int .i64 oop2, .string ⟨onm2.toArray⟩, .string ⟨otx2.toArray⟩, .int .i64 onum2, .slice oa2 on2 oc2, .string ⟨qb.ky.toArray⟩, .int .i64 (qb.wi)] W := run_load19 HKB.out
          go_simp
          exact HKK.out _ _ trivial HBB.out rfl
        · obtain rfl := Option.some.inj ho
          have hd0 : ac.tmps.getD 37 undef = .agg #[.int .i64 op1, .string ⟨nm1.toArray⟩, .string ⟨tx1.toArray⟩, .int .i64 num1, .slice a1 n1 c1, .slice sa1 sn1 sc1, .int .i64 (qa.kd), .int .i64 (qa.lm), .bool qa.ls, .slice na1 nn1 nc1, .slice ga1 gn1 gc1, .int .i64 (qa.sk), .int .i64 oop1, .string ⟨onm1.toArray⟩, .string ⟨otx1.toArray⟩, .int .i64 onum1, .slice oa1 on1 oc1, .string ⟨qa.ky.toArray⟩, .int .i64 (qa.wi)] := hd ⟨0, .data⟩ (by simp) rfl
          have hd1 : ac.tmps.getD 38 undef = .agg #[.int .i64 op2, .string ⟨nm2.toArray⟩, .string ⟨tx2.toArray⟩, .int .i64 num2, .slice a2 n2 c2, .slice sa2 sn2 sc2, .int .i64 (qb.kd), .int .i64 (qb.lm), .bool qb.ls, .slice na2 nn2 nc2, .slice ga2 gn2 gc2, .int .i64 (qb.sk), .int .i64 oop2, .string ⟨onm2.toArray⟩, .string ⟨otx2.toArray⟩, .int .i64 onum2, .slice oa2 on2 oc2, .string ⟨qb.ky.toArray⟩, .int .i64 (qb.wi)] := hd ⟨1, .data⟩ (by simp) rfl
          go_simp
          refine (qsame_any qa qb _ _ W HAW.out HBW.out).mono ?_
          rintro e W2 ⟨rfl, hb2⟩
          exact HKK.out _ _ trivial (HBB.out.trans (hb2.mono HBB.out.size)) (by rw [HE1.out]; rfl)
        · obtain rfl := Option.some.inj ho
          have hld : (load19 ⟨w.heap.size, 0, none⟩).run Try.prog W = .ok #[.int .i64 op1, .string ⟨nm1.toArray⟩, .string ⟨tx1.toArray⟩, .int .i64 num1, .slice a1 n1 c1, .slice sa1 sn1 sc1, .int .i64 (qa.kd), .int .i64 (qa.lm), .bool qa.ls, .slice na1 nn1 nc1, .slice ga1 gn1 gc1, .int .i64 (qa.sk), .int .i64 oop1, .string ⟨onm1.toArray⟩, .string ⟨otx1.toArray⟩, .int .i64 onum1, .slice oa1 on1 oc1, .string ⟨qa.ky.toArray⟩, .int .i64 (qa.wi)] W := run_load19 HKA.out
          go_simp
          exact HKK.out _ _ trivial HBB.out rfl
        · obtain rfl := Option.some.inj ho
          have hld : (load19 ⟨w.heap.size + 1, 0, none⟩).run Try.prog W = .ok #[.int .i64 op2, .string ⟨nm2.toArray⟩, .string ⟨tx2.toArray⟩, .int .i64 num2, .slice a2 n2 c2, .slice sa2 sn2 sc2, .int .i64 (qb.kd), .int .i64 (qb.lm), .bool qb.ls, .slice na2 nn2 nc2, .slice ga2 gn2 gc2, .int .i64 (qb.sk), .int .i64 oop2, .string ⟨onm2.toArray⟩, .string ⟨otx2.toArray⟩, .int .i64 onum2, .slice oa2 on2 oc2, .string ⟨qb.ky.toArray⟩, .int .i64 (qb.wi)] W := run_load19 HKB.out
          go_simp
          exact HKK.out _ _ trivial HBB.out rfl
        · obtain rfl := Option.some.inj ho
          have hd3 : ac.tmps.getD 40 undef = .agg #[.int .i64 op1, .string ⟨nm1.toArray⟩, .string ⟨tx1.toArray⟩, .int .i64 num1, .slice a1 n1 c1, .slice sa1 sn1 sc1, .int .i64 (qa.kd), .int .i64 (qa.lm), .bool qa.ls, .slice na1 nn1 nc1, .slice ga1 gn1 gc1, .int .i64 (qa.sk), .int .i64 oop1, .string ⟨onm1.toArray⟩, .string ⟨otx1.toArray⟩, .int .i64 onum1, .slice oa1 on1 oc1, .string ⟨qa.ky.toArray⟩, .int .i64 (qa.wi)] := hd ⟨3, .data⟩ (by simp) rfl
          have hd4 : ac.tmps.getD 41 undef = .agg #[.int .i64 op2, .string ⟨nm2.toArray⟩, .string ⟨tx2.toArray⟩, .int .i64 num2, .slice a2 n2 c2, .slice sa2 sn2 sc2, .int .i64 (qb.kd), .int .i64 (qb.lm), .bool qb.ls, .slice na2 nn2 nc2, .slice ga2 gn2 gc2, .int .i64 (qb.sk), .int .i64 oop2, .string ⟨onm2.toArray⟩, .string ⟨otx2.toArray⟩, .int .i64 onum2, .slice oa2 on2 oc2, .string ⟨qb.ky.toArray⟩, .int .i64 (qb.wi)] := hd ⟨4, .data⟩ (by simp) rfl
          go_simp
          refine (rsame_any qa qb _ _ W HAW.out HBW.out).mono ?_
          rintro e W2 ⟨rfl, hb2⟩
          exact HKK.out _ _ trivial (HBB.out.trans (hb2.mono HBB.out.size)) (by rw [HE1.out]; rfl)
        · obtain rfl := Option.some.inj ho
          have hd2 : ac.tmps.getD 39 undef = .bool e1 := hd ⟨2, .data⟩ (by simp) rfl
          have hd5 : ac.tmps.getD 42 undef = .bool e1 := hd ⟨5, .data⟩ (by simp) rfl
          go_simp
          exact HKK.out _ _ trivial HBB.out rfl
        · obtain rfl := Option.some.inj ho
          have hd6 : ac.tmps.getD 43 undef = .bool true := hd ⟨6, .data⟩ (by simp) rfl
          go_simp
          exact HKK.out _ _ trivial HBB.out rfl
        · obtain rfl := Option.some.inj ho
          have hld : (load19 ⟨w.heap.size, 0, none⟩).run Try.prog W = .ok #[.int .i64 op1, .string ⟨nm1.toArray⟩, .string ⟨tx1.toArray⟩, .int .i64 num1, .slice a1 n1 c1, .slice sa1 sn1 sc1, .int .i64 (qa.kd), .int .i64 (qa.lm), .bool qa.ls, .slice na1 nn1 nc1, .slice ga1 gn1 gc1, .int .i64 (qa.sk), .int .i64 oop1, .string ⟨onm1.toArray⟩, .string ⟨otx1.toArray⟩, .int .i64 onum1, .slice oa1 on1 oc1, .string ⟨qa.ky.toArray⟩, .int .i64 (qa.wi)] W := run_load19 HKA.out
          go_simp
          exact HKK.out _ _ trivial HBB.out rfl
        · obtain rfl := Option.some.inj ho
          have hld : (load19 ⟨w.heap.size, 0, none⟩).run Try.prog W = .ok #[.int .i64 op1, .string ⟨nm1.toArray⟩, .string ⟨tx1.toArray⟩, .int .i64 num1, .slice a1 n1 c1, .slice sa1 sn1 sc1, .int .i64 (qa.kd), .int .i64 (qa.lm), .bool qa.ls, .slice na1 nn1 nc1, .slice ga1 gn1 gc1, .int .i64 (qa.sk), .int .i64 oop1, .string ⟨onm1.toArray⟩, .string ⟨otx1.toArray⟩, .int .i64 onum1, .slice oa1 on1 oc1, .string ⟨qa.ky.toArray⟩, .int .i64 (qa.wi)] W := run_load19 HKA.out
          go_simp
          exact HKK.out _ _ trivial HBB.out rfl
        · obtain rfl := Option.some.inj ho
          have hd8 : ac.tmps.getD 45 undef = .agg #[.int .i64 op1, .string ⟨nm1.toArray⟩, .string ⟨tx1.toArray⟩, .int .i64 num1, .slice a1 n1 c1, .slice sa1 sn1 sc1, .int .i64 (qa.kd), .int .i64 (qa.lm), .bool qa.ls, .slice na1 nn1 nc1, .slice ga1 gn1 gc1, .int .i64 (qa.sk), .int .i64 oop1, .string ⟨onm1.toArray⟩, .string ⟨otx1.toArray⟩, .int .i64 onum1, .slice oa1 on1 oc1, .string ⟨qa.ky.toArray⟩, .int .i64 (qa.wi)] := hd ⟨8, .data⟩ (by simp) rfl
          have hd9 : ac.tmps.getD 46 undef = .agg #[.int .i64 op1, .string ⟨nm1.toArray⟩, .string ⟨tx1.toArray⟩, .int .i64 num1, .slice a1 n1 c1, .slice sa1 sn1 sc1, .int .i64 (qa.kd), .int .i64 (qa.lm), .bool qa.ls, .slice na1 nn1 nc1, .slice ga1 gn1 gc1, .int .i64 (qa.sk), .int .i64 oop1, .string ⟨onm1.toArray⟩, .string ⟨otx1.toArray⟩, .int .i64 onum1, .slice oa1 on1 oc1, .string ⟨qa.ky.toArray⟩, .int .i64 (qa.wi)] := hd ⟨9, .data⟩ (by simp) rfl
          go_simp
          refine (qsame_any qa qa _ _ W HAW.out HAW.out).mono ?_
          rintro e W2 ⟨rfl, hb2⟩
          exact HKK.out _ _ trivial (HBB.out.trans (hb2.mono HBB.out.size)) (by rw [eqQ_yes rfl]; rfl)
        · obtain rfl := Option.some.inj ho
          have hd7 : ac.tmps.getD 44 undef = .bool true := hd ⟨7, .data⟩ (by simp) rfl
          have hd10 : ac.tmps.getD 47 undef = .bool true := hd ⟨10, .data⟩ (by simp) rfl
          go_simp
          exact HKK.out _ _ trivial HBB.out rfl
        · obtain rfl := Option.some.inj ho
          have hd11 : ac.tmps.getD 48 undef = .bool true := hd ⟨11, .data⟩ (by simp) rfl
          go_simp
          exact HKK.out _ _ trivial HBB.out rfl
        · obtain rfl := Option.some.inj ho
          have hld : (load19 ⟨w5.heap.size, 0, none⟩).run Try.prog W = .ok #[.int .i64 op3, .string ⟨nm3.toArray⟩, .string ⟨tx3.toArray⟩, .int .i64 num3, .slice a3 n3 c3, .slice sa3 sn3 sc3, .int .i64 kd3, .int .i64 lm3, .bool ls3, .slice na3 nn3 nc3, .slice ga3 gn3 gc3, .int .i64 sk3, .int .i64 oop3, .string ⟨onm3.toArray⟩, .string ⟨otx3.toArray⟩, .int .i64 onum3, .slice oa3 on3 oc3, .string ⟨ky3.toArray⟩, .int .i64 wi3] W := run_load19 HKX.out
          go_simp
          exact HKK.out _ _ trivial HBB.out rfl
        · obtain rfl := Option.some.inj ho
          have hld : (load19 ⟨w7.heap.size, 0, none⟩).run Try.prog W = .ok #[.int .i64 op4, .string ⟨nm4.toArray⟩, .string ⟨tx4.toArray⟩, .int .i64 num4, .slice a4 n4 c4, .slice sa4 sn4 sc4, .int .i64 (qy.kd), .int .i64 (qy.lm), .bool qy.ls, .slice na4 nn4 nc4, .slice ga4 gn4 gc4, .int .i64 (qy.sk), .int .i64 oop4, .string ⟨onm4.toArray⟩, .string ⟨otx4.toArray⟩, .int .i64 onum4, .slice oa4 on4 oc4, .string ⟨qy.ky.toArray⟩, .int .i64 (qy.wi)] W := run_load19 HKY.out
          go_simp
          exact HKK.out _ _ trivial HBB.out rfl
        · obtain rfl := Option.some.inj ho
          have hd13 : ac.tmps.getD 50 undef = .agg #[.int .i64 op3, .string ⟨nm3.toArray⟩, .string ⟨tx3.toArray⟩, .int .i64 num3, .slice a3 n3 c3, .slice sa3 sn3 sc3, .int .i64 kd3, .int .i64 lm3, .bool ls3, .slice na3 nn3 nc3, .slice ga3 gn3 gc3, .int .i64 sk3, .int .i64 oop3, .string ⟨onm3.toArray⟩, .string ⟨otx3.toArray⟩, .int .i64 onum3, .slice oa3 on3 oc3, .string ⟨ky3.toArray⟩, .int .i64 wi3] := hd ⟨13, .data⟩ (by simp) rfl
          have hd14 : ac.tmps.getD 51 undef = .agg #[.int .i64 op4, .string ⟨nm4.toArray⟩, .string ⟨tx4.toArray⟩, .int .i64 num4, .slice a4 n4 c4, .slice sa4 sn4 sc4, .int .i64 (qy.kd), .int .i64 (qy.lm), .bool qy.ls, .slice na4 nn4 nc4, .slice ga4 gn4 gc4, .int .i64 (qy.sk), .int .i64 oop4, .string ⟨onm4.toArray⟩, .string ⟨otx4.toArray⟩, .int .i64 onum4, .slice oa4 on4 oc4, .string ⟨qy.ky.toArray⟩, .int .i64 (qy.wi)] := hd ⟨14, .data⟩ (by simp) rfl
          go_simp
          refine (qsame_any qx qy _ _ W HXW.out HYW.out).mono ?_
          rintro e W2 ⟨rfl, hb2⟩
          exact HKK.out _ _ trivial (HBB.out.trans (hb2.mono HBB.out.size)) (by rw [HE2.out]; rfl)
        · obtain rfl := Option.some.inj ho
          have hld : (load19 ⟨w5.heap.size, 0, none⟩).run Try.prog W = .ok #[.int .i64 op3, .string ⟨nm3.toArray⟩, .string ⟨tx3.toArray⟩, .int .i64 num3, .slice a3 n3 c3, .slice sa3 sn3 sc3, .int .i64 kd3, .int .i64 lm3, .bool ls3, .slice na3 nn3 nc3, .slice ga3 gn3 gc3, .int .i64 sk3, .int .i64 oop3, .string ⟨onm3.toArray⟩, .string ⟨otx3.toArray⟩, .int .i64 onum3, .slice oa3 on3 oc3, .string ⟨ky3.toArray⟩, .int .i64 wi3] W := run_load19 HKX.out
          go_simp
          exact HKK.out _ _ trivial HBB.out rfl
        · obtain rfl := Option.some.inj ho
          have hld : (load19 ⟨w7.heap.size, 0, none⟩).run Try.prog W = .ok #[.int .i64 op4, .string ⟨nm4.toArray⟩, .string ⟨tx4.toArray⟩, .int .i64 num4, .slice a4 n4 c4, .slice sa4 sn4 sc4, .int .i64 (qy.kd), .int .i64 (qy.lm), .bool qy.ls, .slice na4 nn4 nc4, .slice ga4 gn4 gc4, .int .i64 (qy.sk), .int .i64 oop4, .string ⟨onm4.toArray⟩, .string ⟨otx4.toArray⟩, .int .i64 onum4, .slice oa4 on4 oc4, .string ⟨qy.ky.toArray⟩, .int .i64 (qy.wi)] W := run_load19 HKY.out
          go_simp
          exact HKK.out _ _ trivial HBB.out rfl
        · obtain rfl := Option.some.inj ho
          have hd16 : ac.tmps.getD 53 undef = .agg #[.int .i64 op3, .string ⟨nm3.toArray⟩, .string ⟨tx3.toArray⟩, .int .i64 num3, .slice a3 n3 c3, .slice sa3 sn3 sc3, .int .i64 kd3, .int .i64 lm3, .bool ls3, .slice na3 nn3 nc3, .slice ga3 gn3 gc3, .int .i64 sk3, .int .i64 oop3, .string ⟨onm3.toArray⟩, .string ⟨otx3.toArray⟩, .int .i64 onum3, .slice oa3 on3 oc3, .string ⟨ky3.toArray⟩, .int .i64 wi3] := hd ⟨16, .data⟩ (by simp) rfl
          have hd17 : ac.tmps.getD 54 undef = .agg #[.int .i64 op4, .string ⟨nm4.toArray⟩, .string ⟨tx4.toArray⟩, .int .i64 num4, .slice a4 n4 c4, .slice sa4 sn4 sc4, .int .i64 (qy.kd), .int .i64 (qy.lm), .bool qy.ls, .slice na4 nn4 nc4, .slice ga4 gn4 gc4, .int .i64 (qy.sk), .int .i64 oop4, .string ⟨onm4.toArray⟩, .string ⟨otx4.toArray⟩, .int .i64 onum4, .slice oa4 on4 oc4, .string ⟨qy.ky.toArray⟩, .int .i64 (qy.wi)] := hd ⟨17, .data⟩ (by simp) rfl
          go_simp
          refine (rsame_any qx qy _ _ W HXW.out HYW.out).mono ?_
          rintro e W2 ⟨rfl, hb2⟩
          exact HKK.out _ _ trivial (HBB.out.trans (hb2.mono HBB.out.size)) (by rw [HE2.out]; rfl)
        · obtain rfl := Option.some.inj ho
          have hd15 : ac.tmps.getD 52 undef = .bool e2 := hd ⟨15, .data⟩ (by simp) rfl
          have hd18 : ac.tmps.getD 55 undef = .bool e2 := hd ⟨18, .data⟩ (by simp) rfl
          go_simp
          exact HKK.out _ _ trivial HBB.out rfl
        · obtain rfl := Option.some.inj ho
          have hd12 : ac.tmps.getD 49 undef = .bool true := hd ⟨12, .data⟩ (by simp) rfl
          have hd19 : ac.tmps.getD 56 undef = .bool true := hd ⟨19, .data⟩ (by simp) rfl
          go_simp
          exact HKK.out _ _ trivial HBB.out rfl
        · obtain rfl := Option.some.inj ho
          have hd20 : ac.tmps.getD 57 undef = .bool true := hd ⟨20, .data⟩ (by simp) rfl
          go_simp
          exact HKK.out _ _ trivial HBB.out rfl
        · obtain rfl := Option.some.inj ho
          go_simp
          exact HKK.out _ _ trivial HBB.out rfl
        · obtain rfl := Option.some.inj ho
          have hd22 : ac.tmps.getD 59 undef = .pointer (some ⟨w.heap.size, 0, none⟩) := hd ⟨22, .data⟩ (by simp) rfl
          have cq0 : W.cell? ⟨w.heap.size, 0, none⟩ = some (.int .i64 op1) := HKA.out.ev 0 (by omega)
          have cq1 : W.cell? ⟨w.heap.size, 1, none⟩ = some (.string ⟨nm1.toArray⟩) := HKA.out.ev 1 (by omega)
          have cq2 : W.cell? ⟨w.heap.size, 2, none⟩ = some (.string ⟨tx1.toArray⟩) := HKA.out.ev 2 (by omega)
          have cq3 : W.cell? ⟨w.heap.size, 3, none⟩ = some (.int .i64 num1) := HKA.out.ev 3 (by omega)
          have cq4 : W.cell? ⟨w.heap.size, 4, none⟩ = some (.slice a1 n1 c1) := HKA.out.ev 4 (by omega)
          go_simp
          exact HKK.out _ _ trivial HBB.out rfl
        · obtain rfl := Option.some.inj ho
          have hd23 : ac.tmps.getD 60 undef = .agg #[.int .i64 op1, .string ⟨nm1.toArray⟩, .string ⟨tx1.toArray⟩, .int .i64 num1, .slice a1 n1 c1] := hd ⟨23, .data⟩ (by simp) rfl
          go_simp
          refine (qsize_aux _ _ _ W (Nat.lt_succ_self _) (qat_test HAW.out)).mono ?_
          rintro e W2 ⟨rfl, hb2⟩
          exact HKK.out _ _ trivial (HBB.out.trans (hb2.mono HBB.out.size)) rfl
        · obtain rfl := Option.some.inj ho
          go_simp
          exact HKK.out _ _ trivial HBB.out rfl
        · obtain rfl := Option.some.inj ho
          have hd25 : ac.tmps.getD 62 undef = .pointer (some ⟨w.heap.size, 0, none⟩) := hd ⟨25, .data⟩ (by simp) rfl
          have cq0 : W.cell? ⟨w.heap.size, 0, none⟩ = some (.int .i64 op1) := HKA.out.ev 0 (by omega)
          have cq1 : W.cell? ⟨w.heap.size, 1, none⟩ = some (.string ⟨nm1.toArray⟩) := HKA.out.ev 1 (by omega)
          have cq2 : W.cell? ⟨w.heap.size, 2, none⟩ = some (.string ⟨tx1.toArray⟩) := HKA.out.ev 2 (by omega)
          have cq3 : W.cell? ⟨w.heap.size, 3, none⟩ = some (.int .i64 num1) := HKA.out.ev 3 (by omega)
          have cq4 : W.cell? ⟨w.heap.size, 4, none⟩ = some (.slice a1 n1 c1) := HKA.out.ev 4 (by omega)
          go_simp
          exact HKK.out _ _ trivial HBB.out rfl
        · obtain rfl := Option.some.inj ho
          have hd26 : ac.tmps.getD 63 undef = .agg #[.int .i64 op1, .string ⟨nm1.toArray⟩, .string ⟨tx1.toArray⟩, .int .i64 num1, .slice a1 n1 c1] := hd ⟨26, .data⟩ (by simp) rfl
          go_simp
          refine (ref_size _ _ W (qat_test HAW.out)).mono ?_
          rintro e W2 ⟨rfl, hb2⟩
          exact HKK.out _ _ trivial (HBB.out.trans (hb2.mono HBB.out.size)) rfl
        · obtain rfl := Option.some.inj ho
          have hd24 : ac.tmps.getD 61 undef = .int .i64 (qSz qa.t) := hd ⟨24, .data⟩ (by simp) rfl
          have hd27 : ac.tmps.getD 64 undef = .int .i64 (qSz qa.t) := hd ⟨27, .data⟩ (by simp) rfl
          go_simp
          exact HKK.out _ _ trivial HBB.out rfl
        · obtain rfl := Option.some.inj ho
          have hd21 : ac.tmps.getD 58 undef = .bool true := hd ⟨21, .data⟩ (by simp) rfl
          have hd28 : ac.tmps.getD 65 undef = .bool true := hd ⟨28, .data⟩ (by simp) rfl
          go_simp
          exact HKK.out _ _ trivial HBB.out rfl
        · obtain rfl := Option.some.inj ho
          have hd29 : ac.tmps.getD 66 undef = .bool true := hd ⟨29, .data⟩ (by simp) rfl
          go_simp
          exact HKK.out _ _ trivial HBB.out rfl
        · obtain rfl := Option.some.inj ho
          go_simp
          exact HKK.out _ _ trivial HBB.out rfl
        · obtain rfl := Option.some.inj ho
          have hd31 : ac.tmps.getD 68 undef = .pointer (some ⟨w7.heap.size, 0, none⟩) := hd ⟨31, .data⟩ (by simp) rfl
          have cq0 : W.cell? ⟨w7.heap.size, 0, none⟩ = some (.int .i64 op4) := HKY.out.ev 0 (by omega)
          have cq1 : W.cell? ⟨w7.heap.size, 1, none⟩ = some (.string ⟨nm4.toArray⟩) := HKY.out.ev 1 (by omega)
          have cq2 : W.cell? ⟨w7.heap.size, 2, none⟩ = some (.string ⟨tx4.toArray⟩) := HKY.out.ev 2 (by omega)
          have cq3 : W.cell? ⟨w7.heap.size, 3, none⟩ = some (.int .i64 num4) := HKY.out.ev 3 (by omega)
          have cq4 : W.cell? ⟨w7.heap.size, 4, none⟩ = some (.slice a4 n4 c4) := HKY.out.ev 4 (by omega)
          go_simp
          exact HKK.out _ _ trivial HBB.out rfl
        · obtain rfl := Option.some.inj ho
          have hd32 : ac.tmps.getD 69 undef = .agg #[.int .i64 op4, .string ⟨nm4.toArray⟩, .string ⟨tx4.toArray⟩, .int .i64 num4, .slice a4 n4 c4] := hd ⟨32, .data⟩ (by simp) rfl
          go_simp
          refine (qsize_aux _ _ _ W (Nat.lt_succ_self _) (qat_test HYW.out)).mono ?_
          rintro e W2 ⟨rfl, hb2⟩
          exact HKK.out _ _ trivial (HBB.out.trans (hb2.mono HBB.out.size)) rfl
        · obtain rfl := Option.some.inj ho
          go_simp
          exact HKK.out _ _ trivial HBB.out rfl
        · obtain rfl := Option.some.inj ho
          have hd34 : ac.tmps.getD 71 undef = .pointer (some ⟨w7.heap.size, 0, none⟩) := hd ⟨34, .data⟩ (by simp) rfl
          have cq0 : W.cell? ⟨w7.heap.size, 0, none⟩ = some (.int .i64 op4) := HKY.out.ev 0 (by omega)
          have cq1 : W.cell? ⟨w7.heap.size, 1, none⟩ = some (.string ⟨nm4.toArray⟩) := HKY.out.ev 1 (by omega)
          have cq2 : W.cell? ⟨w7.heap.size, 2, none⟩ = some (.string ⟨tx4.toArray⟩) := HKY.out.ev 2 (by omega)
          have cq3 : W.cell? ⟨w7.heap.size, 3, none⟩ = some (.int .i64 num4) := HKY.out.ev 3 (by omega)
          have cq4 : W.cell? ⟨w7.heap.size, 4, none⟩ = some (.slice a4 n4 c4) := HKY.out.ev 4 (by omega)
          go_simp
          exact HKK.out _ _ trivial HBB.out rfl
        · obtain rfl := Option.some.inj ho
          have hd35 : ac.tmps.getD 72 undef = .agg #[.int .i64 op4, .string ⟨nm4.toArray⟩, .string ⟨tx4.toArray⟩, .int .i64 num4, .slice a4 n4 c4] := hd ⟨35, .data⟩ (by simp) rfl
          go_simp
          refine (ref_size _ _ W (qat_test HYW.out)).mono ?_
          rintro e W2 ⟨rfl, hb2⟩
          exact HKK.out _ _ trivial (HBB.out.trans (hb2.mono HBB.out.size)) rfl
        · obtain rfl := Option.some.inj ho
          have hd33 : ac.tmps.getD 70 undef = .int .i64 (qSz qy.t) := hd ⟨33, .data⟩ (by simp) rfl
          have hd36 : ac.tmps.getD 73 undef = .int .i64 (qSz qy.t) := hd ⟨36, .data⟩ (by simp) rfl
          go_simp
          exact HKK.out _ _ trivial HBB.out rfl
        · obtain rfl := Option.some.inj ho
          have hd30 : ac.tmps.getD 67 undef = .bool true := hd ⟨30, .data⟩ (by simp) rfl
          have hd37 : ac.tmps.getD 74 undef = .bool true := hd ⟨37, .data⟩ (by simp) rfl
          go_simp
          exact HKK.out _ _ trivial HBB.out rfl
        · obtain rfl := Option.some.inj ho
          have hd38 : ac.tmps.getD 75 undef = .bool true := hd ⟨38, .data⟩ (by simp) rfl
          go_simp
          exact HKK.out _ _ trivial HBB.out rfl
      case refine_3 =>
        intro ac W hB hG
        have h6 : ac.tmps.getD 6 undef = .bool true := hG 39 (by decide)
        have h6b := (Array.getD_eq_getD_getElem? (xs := ac.tmps) (i := 6) (d := undef)).symm.trans h6
        have HVV := Lib.hid (HV8.out.trans (hB.inv.mono HV8.out.size))
        go_wp2_with fail
        refine bodyPost_ret (v := .bool true) (by simp [results, Try.results3, go_sem, h6b]) hB.defers ⟨rfl, HVV.out⟩
      · simp only [List.mem_cons, Prod.mk.injEq, List.not_mem_nil, or_false] at hs
        rcases hs with ⟨rfl, rfl⟩ | ⟨rfl, rfl⟩ | ⟨rfl, rfl⟩ | ⟨rfl, rfl⟩ <;> rfl
    · have HFB := Lib.hid (decide_eq_false fb)
      clear fb
      go_wp2_with fail
      refine (fine_any qb _ w2 HQB2.out false HFB.out).mono ?_
      rintro e w3 ⟨rfl, hb3⟩
      have HB3 := Lib.hid (HB2.out.trans (hb3.mono HB2.out.size))
      clear hb3 hlda2 hldb2
      have hlda3 : (load19 ⟨w.heap.size, 0, none⟩).run Try.prog w3 = .ok #[.int .i64 op1, .string ⟨nm1.toArray⟩, .string ⟨tx1.toArray⟩, .int .i64 num1, .slice a1 n1 c1, .slice sa1 sn1 sc1, .int .i64 (qa.kd), .int .i64 (qa.lm), .bool qa.ls, .slice na1 nn1 nc1, .slice ga1 gn1 gc1, .int .i64 (qa.sk), .int .i64 oop1, .string ⟨onm1.toArray⟩, .string ⟨otx1.toArray⟩, .int .i64 onum1, .slice oa1 on1 oc1, .string ⟨qa.ky.toArray⟩, .int .i64 (qa.wi)] w3 := run_load19 (HBK1.out.on HB3.out (by omega))
      have hldb3 : (load19 ⟨w.heap.size + 1, 0, none⟩).run Try.prog w3 = .ok #[.int .i64 op2, .string ⟨nm2.toArray⟩, .string ⟨tx2.toArray⟩, .int .i64 num2, .slice a2 n2 c2, .slice sa2 sn2 sc2, .int .i64 (qb.kd), .int .i64 (qb.lm), .bool qb.ls, .slice na2 nn2 nc2, .slice ga2 gn2 gc2, .int .i64 (qb.sk), .int .i64 oop2, .string ⟨onm2.toArray⟩, .string ⟨otx2.toArray⟩, .int .i64 onum2, .slice oa2 on2 oc2, .string ⟨qb.ky.toArray⟩, .int .i64 (qb.wi)] w3 := run_load19 (HBK2.out.on HB3.out (by omega))
      have HQA3 : Hid (QAt w3 qa (.agg #[.int .i64 op1, .string ⟨nm1.toArray⟩, .string ⟨tx1.toArray⟩, .int .i64 num1, .slice a1 n1 c1, .slice sa1 sn1 sc1, .int .i64 (qa.kd), .int .i64 (qa.lm), .bool qa.ls, .slice na1 nn1 nc1, .slice ga1 gn1 gc1, .int .i64 (qa.sk), .int .i64 oop1, .string ⟨onm1.toArray⟩, .string ⟨otx1.toArray⟩, .int .i64 onum1, .slice oa1 on1 oc1, .string ⟨qa.ky.toArray⟩, .int .i64 (qa.wi)])) := Lib.hid (HQA.out.later (HB0.out.trans (HB3.out.mono (by omega))))
      have HQB3 : Hid (QAt w3 qb (.agg #[.int .i64 op2, .string ⟨nm2.toArray⟩, .string ⟨tx2.toArray⟩, .int .i64 num2, .slice a2 n2 c2, .slice sa2 sn2 sc2, .int .i64 (qb.kd), .int .i64 (qb.lm), .bool qb.ls, .slice na2 nn2 nc2, .slice ga2 gn2 gc2, .int .i64 (qb.sk), .int .i64 oop2, .string ⟨onm2.toArray⟩, .string ⟨otx2.toArray⟩, .int .i64 onum2, .slice oa2 on2 oc2, .string ⟨qb.ky.toArray⟩, .int .i64 (qb.wi)])) := Lib.hid (HQB.out.later (HB0.out.trans (HB3.out.mono (by omega))))
      go_wp2_with fail
      refine (fine_any qa _ w3 HQA3.out true HFA.out).mono ?_
      rintro e w4 ⟨rfl, hb4⟩
      have HB4 := Lib.hid (HB3.out.trans (hb4.mono HB3.out.size))
      clear hb4 hlda3 hldb3
      have hlda4 : (load19 ⟨w.heap.size, 0, none⟩).run Try.prog w4 = .ok #[.int .i64 op1, .string ⟨nm1.toArray⟩, .string ⟨tx1.toArray⟩, .int .i64 num1, .slice a1 n1 c1, .slice sa1 sn1 sc1, .int .i64 (qa.kd), .int .i64 (qa.lm), .bool qa.ls, .slice na1 nn1 nc1, .slice ga1 gn1 gc1, .int .i64 (qa.sk), .int .i64 oop1, .string ⟨onm1.toArray⟩, .string ⟨otx1.toArray⟩, .int .i64 onum1, .slice oa1 on1 oc1, .string ⟨qa.ky.toArray⟩, .int .i64 (qa.wi)] w4 := run_load19 (HBK1.out.on HB4.out (by omega))
      have hldb4 : (load19 ⟨w.heap.size + 1, 0, none⟩).run Try.prog w4 = .ok #[.int .i64 op2, .string ⟨nm2.toArray⟩, .string ⟨tx2.toArray⟩, .int .i64 num2, .slice a2 n2 c2, .slice sa2 sn2 sc2, .int .i64 (qb.kd), .int .i64 (qb.lm), .bool qb.ls, .slice na2 nn2 nc2, .slice ga2 gn2 gc2, .int .i64 (qb.sk), .int .i64 oop2, .string ⟨onm2.toArray⟩, .string ⟨otx2.toArray⟩, .int .i64 onum2, .slice oa2 on2 oc2, .string ⟨qb.ky.toArray⟩, .int .i64 (qb.wi)] w4 := run_load19 (HBK2.out.on HB4.out (by omega))
      have HQA4 : Hid (QAt w4 qa (.agg #[.int .i64 op1, .string ⟨nm1.toArray⟩, .string ⟨tx1.toArray⟩, .int .i64 num1, .slice a1 n1 c1, .slice sa1 sn1 sc1, .int .i64 (qa.kd), .int .i64 (qa.lm), .bool qa.ls, .slice na1 nn1 nc1, .slice ga1 gn1 gc1, .int .i64 (qa.sk), .int .i64 oop1, .string ⟨onm1.toArray⟩, .string ⟨otx1.toArray⟩, .int .i64 onum1, .slice oa1 on1 oc1, .string ⟨qa.ky.toArray⟩, .int .i64 (qa.wi)])) := Lib.hid (HQA.out.later (HB0.out.trans (HB4.out.mono (by omega))))
      have HQB4 : Hid (QAt w4 qb (.agg #[.int .i64 op2, .string ⟨nm2.toArray⟩, .string ⟨tx2.toArray⟩, .int .i64 num2, .slice a2 n2 c2, .slice sa2 sn2 sc2, .int .i64 (qb.kd), .int .i64 (qb.lm), .bool qb.ls, .slice na2 nn2 nc2, .slice ga2 gn2 gc2, .int .i64 (qb.sk), .int .i64 oop2, .string ⟨onm2.toArray⟩, .string ⟨otx2.toArray⟩, .int .i64 onum2, .slice oa2 on2 oc2, .string ⟨qb.ky.toArray⟩, .int .i64 (qb.wi)])) := Lib.hid (HQB.out.later (HB0.out.trans (HB4.out.mono (by omega))))
      go_wp2_with fail
      refine (fine_any qb _ w4 HQB4.out false HFB.out).mono ?_
      rintro e w5 ⟨rfl, hb5⟩
      have HV5 := Lib.hid (HB0.out.trans ((HB4.out.trans (hb5.mono HB4.out.size)).mono (by omega)))
      go_wp2_with fail
      go_ret
      exact ⟨rfl, HV5.out⟩
  · have HFA := Lib.hid (decide_eq_false fa)
    clear fa
    go_wp2_with fail
    refine (fine_any qa _ w1 HQA1.out false HFA.out).mono ?_
    rintro e w2 ⟨rfl, hb2⟩
    have HB2 := Lib.hid (HB1.out.trans (hb2.mono HB1.out.size))
    clear hb2 hlda1 hldb1
    have hlda2 : (load19 ⟨w.heap.size, 0, none⟩).run Try.prog w2 = .ok #[.int .i64 op1, .string ⟨nm1.toArray⟩, .string ⟨tx1.toArray⟩, .int .i64 num1, .slice a1 n1 c1, .slice sa1 sn1 sc1, .int .i64 (qa.kd), .int .i64 (qa.lm), .bool qa.ls, .slice na1 nn1 nc1, .slice ga1 gn1 gc1, .int .i64 (qa.sk), .int .i64 oop1, .string ⟨onm1.toArray⟩, .string ⟨otx1.toArray⟩, .int .i64 onum1, .slice oa1 on1 oc1, .string ⟨qa.ky.toArray⟩, .int .i64 (qa.wi)] w2 := run_load19 (HBK1.out.on HB2.out (by omega))
    have hldb2 : (load19 ⟨w.heap.size + 1, 0, none⟩).run Try.prog w2 = .ok #[.int .i64 op2, .string ⟨nm2.toArray⟩, .string ⟨tx2.toArray⟩, .int .i64 num2, .slice a2 n2 c2, .slice sa2 sn2 sc2, .int .i64 (qb.kd), .int .i64 (qb.lm), .bool qb.ls, .slice na2 nn2 nc2, .slice ga2 gn2 gc2, .int .i64 (qb.sk), .int .i64 oop2, .string ⟨onm2.toArray⟩, .string ⟨otx2.toArray⟩, .int .i64 onum2, .slice oa2 on2 oc2, .string ⟨qb.ky.toArray⟩, .int .i64 (qb.wi)] w2 := run_load19 (HBK2.out.on HB2.out (by omega))
    have HQA2 : Hid (QAt w2 qa (.agg #[.int .i64 op1, .string ⟨nm1.toArray⟩, .string ⟨tx1.toArray⟩, .int .i64 num1, .slice a1 n1 c1, .slice sa1 sn1 sc1, .int .i64 (qa.kd), .int .i64 (qa.lm), .bool qa.ls, .slice na1 nn1 nc1, .slice ga1 gn1 gc1, .int .i64 (qa.sk), .int .i64 oop1, .string ⟨onm1.toArray⟩, .string ⟨otx1.toArray⟩, .int .i64 onum1, .slice oa1 on1 oc1, .string ⟨qa.ky.toArray⟩, .int .i64 (qa.wi)])) := Lib.hid (HQA.out.later (HB0.out.trans (HB2.out.mono (by omega))))
    have HQB2 : Hid (QAt w2 qb (.agg #[.int .i64 op2, .string ⟨nm2.toArray⟩, .string ⟨tx2.toArray⟩, .int .i64 num2, .slice a2 n2 c2, .slice sa2 sn2 sc2, .int .i64 (qb.kd), .int .i64 (qb.lm), .bool qb.ls, .slice na2 nn2 nc2, .slice ga2 gn2 gc2, .int .i64 (qb.sk), .int .i64 oop2, .string ⟨onm2.toArray⟩, .string ⟨otx2.toArray⟩, .int .i64 onum2, .slice oa2 on2 oc2, .string ⟨qb.ky.toArray⟩, .int .i64 (qb.wi)])) := Lib.hid (HQB.out.later (HB0.out.trans (HB2.out.mono (by omega))))
    go_wp2_with fail
    refine (fine_any qa _ w2 HQA2.out false HFA.out).mono ?_
    rintro e w3 ⟨rfl, hb3⟩
    have HV3 := Lib.hid (HB0.out.trans ((HB2.out.trans (hb3.mono HB2.out.size)).mono (by omega)))
    go_wp2_with fail
    go_ret
    exact ⟨rfl, HV3.out⟩

end Go.Proofs.Ytmcnhphmglmmeaa

/-
  The list of choices hands out a query.
-/
import Derived.Test.YtmcnhphmglmmeaaQryN
namespace Go.Proofs.Ytmcnhphmglmmeaa
open Go.RowKit

set_option maxRecDepth 100000 in
set_option maxHeartbeats 40000000 in
theorem dquery_aux (HTEST : ∀ depth : Nat, depth ≤ 2 → ∀ (g : Nat) (w : World), CodesAt w g → Calls Try.prog 14 #[.pointer (some ⟨g, 0, none⟩), .int .i64 depth] w (TP g w)) (g : Nat) (w : World) (hc : CodesAt w g) :
    Calls Try.prog 7 #[.pointer (some ⟨g, 0, none⟩)] w (QPost g w (fun k => w.heap.size ≤ k)) := by
  have HT2 : Hid (∀ (g : Nat) (w : World), CodesAt w g → Calls Try.prog 14 #[.pointer (some ⟨g, 0, none⟩), .int .i64 2] w (TP g w)) := Lib.hid (HTEST 2 (by omega))
  have HT1 : Hid (∀ (g : Nat) (w : World), CodesAt w g → Calls Try.prog 14 #[.pointer (some ⟨g, 0, none⟩), .int .i64 1] w (TP g w)) := Lib.hid (HTEST 1 (by omega))
  have HG0 := Lib.hid (GD.start hc)
  have HR0 : Hid (BK w.heap.size 19 zE (w.alloc (.cells (qVal 0 [] [] 0 none 0 0 none 0 0 0 0 false none 0 0 none 0 0 0 0 [] [] 0 none 0 0 [] 0) 29))) := BK.new w _ _ _ 19 (below19 rfl rfl rfl rfl rfl rfl rfl rfl rfl rfl rfl rfl rfl rfl rfl rfl rfl rfl rfl)
  clear hc HTEST
  go_enter Try.func7, Try.ntmps7
  go_wp2_with fail
  refine (HT2.out g _ (HG0.out.al _).codes).mono ?_
  rintro e w1 ⟨v, t, rfl, hT, hg1, hk1⟩
  obtain ⟨op, nm, tx, num, kids, a, c, rfl, _⟩ := hT.open
  have HG1 := Lib.hid ((HG0.out.al _).go hg1.ap hg1.codes)
  have HL0 := q_start HG1.out (HR0.out.go hg1.ap (Nat.ne_of_gt HG0.out.hg)) op nm tx num a kids.length c (TG.go ⟨Nat.le_refl _, fun k hk _ => ⟨by simp at hk; omega, rfl⟩⟩ _ _ hT) hk1
  have HBL := Lib.hid (show w.heap.size < w1.heap.size by have := hg1.le; simp at this; omega)
  obtain ⟨E0, hL0, he10, hsm⟩ := HL0
  have HL := Lib.hid hL0
  have HE10 := Lib.hid he10
  have HSM := Lib.hid hsm
  clear hT hg1 hk1 hL0 he10 hsm HG1 HR0 HG0
  go_wp2_with fail
  refine (next_any g 3 _ HL.out.gd.codes (by omega) (by omega)).mono ?_
  rintro e w2 ⟨n, hn, rfl, hca, hap⟩
  have HL2 := Lib.hid (HL.out.go sr_go hap hca)
  clear hca hap HL
  go_wp2_with fail
  go_loopw [4] (fun i wr => ∃ (j : Nat) (ss : List QS) (v : Value), i = .int .i64 j ∧ j + ss.length ≤ 2 ∧ LX SR g w (GQf w w1.heap.size) w1.heap.size w.heap.size E0 5 (w1.heap.size + 1) 41 7 ss v wr) (fun i _ => (intOf i).toNat)
  case atStart => exact ⟨n, [], _, rfl, by simp; omega, HL2.out⟩
  case round =>
    obtain ⟨j, ss, v, rfl, hjs, hL⟩ := hrel
    have HLR := Lib.hid hL
    clear hL HL2
    cases j with
    | zero =>
      have HQ := Lib.hid (HLR.out.fin5 (fun k hk => ⟨by have := HBL.out; omega, by omega⟩))
      have HS1 : Hid (Small (Upd E0 5 v)) := Lib.hid ⟨HSM.out.1, by have := (HLR.out.kl.row.rw (F := fun _ => True) (fun _ _ => trivial)).len; show sliceLen v ≤ 1000; omega, HSM.out.2.2.1, HSM.out.2.2.2.1, HSM.out.2.2.2.2⟩
      have HX10 : Hid (Upd E0 5 v 10 = .slice none 0 0) := Lib.hid HE10.out
      clear HLR HSM HE10
      generalize Upd E0 5 v = E1 at *
      obtain ⟨op2, nm2, tx2, num2, a2, n2, c2, sa2, sn2, sc2, kd2, lm2, ls2, na2, nn2, nc2, ga2, gn2, gc2, sk2, oop2, onm2, otx2, onum2, oa2, on2, oc2, ky2, wi2, he2⟩ := HQ.out.qe.open
      have HP := Lib.hid (HQ.out.cong he2)
      have HPS := Lib.hid (small_iff.1 (HS1.out.cong he2))
      have hx := (he2 10 (by omega)).symm.trans HX10.out
      injection hx with hx1 hx2 hx3
      subst hx1 hx2 hx3
      clear he2
      have hne : ¬ (w.heap.size = w1.heap.size) := by have := HBL.out; omega
      clear HS1 HX10 HQ
      go_wp2_with fail
      refine (next_any g 5 _ HP.out.gd.codes (by omega) (by omega)).mono ?_
      rintro e w3 ⟨q, hq, rfl, hca, hap⟩
      have HP3 := Lib.hid (HP.out.go hap hca)
      clear hca hap HP
      rcases (show q = 0 ∨ q = 1 ∨ q = 2 ∨ q = 3 ∨ q = 4 by omega) with rfl | rfl | rfl | rfl | rfl
      · go_wp2_with fail
        refine (next_any g 2 _ HP3.out.gd.codes (by omega) (by omega)).mono ?_
        rintro e w4 ⟨x, hx, rfl, hca, hap⟩
        have HP4 := Lib.hid (HP3.out.go hap hca)
        clear hca hap HP3
        go_wp2_with fail
        refine (next_any g 4 _ HP4.out.gd.codes (by omega) (by omega)).mono ?_
        rintro e w5 ⟨y, hy, rfl, hca, hap⟩
        have HP5 := Lib.hid (HP4.out.go hap hca)
        clear hca hap HP4
        have k7 : w5.cell? ⟨w1.heap.size, 7, none⟩ = some (.int .i64 lm2) := HP5.out.bk.ev 7 (by omega)
        have k8 : w5.cell? ⟨w1.heap.size, 8, none⟩ = some (.bool ls2) := HP5.out.bk.ev 8 (by omega)
        have f7 : w5.frozen? ⟨w1.heap.size, 7, none⟩ = false := HP5.out.bk.fz 7
        have f8 : w5.frozen? ⟨w1.heap.size, 8, none⟩ = false := HP5.out.bk.fz 8
        have hld : ∀ (u : Bool) (v : Int), (load19 ⟨w1.heap.size, 0, none⟩).run Try.prog ((w5.setCell ⟨w1.heap.size, 8, none⟩ (.bool u)).setCell ⟨w1.heap.size, 7, none⟩ (.int .i64 v)) = .ok #[.int .i64 op2, .string ⟨nm2.toArray⟩, .string ⟨tx2.toArray⟩, .int .i64 num2, .slice a2 n2 c2, .slice sa2 sn2 sc2, .int .i64 kd2, .int .i64 v, .bool u, .slice na2 nn2 nc2, .slice none 0 0, .int .i64 sk2, .int .i64 oop2, .string ⟨onm2.toArray⟩, .string ⟨otx2.toArray⟩, .int .i64 onum2, .slice oa2 on2 oc2, .string ⟨ky2.toArray⟩, .int .i64 wi2] ((w5.setCell ⟨w1.heap.size, 8, none⟩ (.bool u)).setCell ⟨w1.heap.size, 7, none⟩ (.int .i64 v)) := fun u v => run_load19 (RQ.cong (E' := (xE op2 nm2 tx2 num2 a2 n2 c2 sa2 sn2 sc2 kd2 v u na2 nn2 nc2 none 0 0 sk2 oop2 onm2 otx2 onum2 oa2 on2 oc2 ky2 wi2)) ((HP5.out.s8 u).s7 v) (below19 rfl rfl rfl rfl rfl rfl rfl rfl rfl rfl rfl rfl rfl rfl rfl rfl rfl rfl rfl)).bk
        have hrb : ∀ u v, BK w.heap.size 19 zE ((w5.setCell ⟨w1.heap.size, 8, none⟩ u).setCell ⟨w1.heap.size, 7, none⟩ v) := fun u v => (HP5.out.rb.other hne 8 u).other hne 7 v
        go_wp2_with fail
        refine q_ret (fn := Try.f7) (P := 2) rfl (RQ.cong (E' := (xE op2 nm2 tx2 num2 a2 n2 c2 sa2 sn2 sc2 kd2 (y : Int) ((x : Int) == 1) na2 nn2 nc2 none 0 0 sk2 oop2 onm2 otx2 onum2 oa2 on2 oc2 ky2 wi2)) ((HP5.out.s8 ((x : Int) == 1)).s7 (y : Int)) (below19 rfl rfl rfl rfl rfl rfl rfl rfl rfl rfl rfl rfl rfl rfl rfl rfl rfl rfl rfl)) (fun k hk => Nat.le_of_lt hk.1) (small_iff.2 HPS.out) _ _ rfl ?_
        rfl
      · go_wp2_with fail
        refine (dnames_any g _ HP3.out.gd.codes).mono ?_
        rintro e w4 ⟨v4, ns, rfl, hrw, hgd, hnl⟩
        have HP4 := Lib.hid (HP3.out.go hgd.ap hgd.codes)
        have HLT3 := Lib.hid HP3.out.bk.lt
        have HN4 := Lib.hid (hrw.go (F' := FF (GQf w w1.heap.size) (.slice sa2 sn2 sc2)) ⟨Nat.le_refl _, fun k hk _ => ⟨⟨⟨by have := HLT3.out; have := HBL.out; omega, by have := HLT3.out; omega⟩, fun e => by have := HP3.out.qe.lt e; omega⟩, rfl⟩⟩ (fun _ _ h => h))
        obtain ⟨na4, nc4, rfl, _⟩ := HN4.out
        have HNL := Lib.hid hnl
        clear hrw hgd hnl HP3
        have k6 : w4.cell? ⟨w1.heap.size, 6, none⟩ = some (.int .i64 kd2) := HP4.out.bk.ev 6 (by omega)
        have k9 : w4.cell? ⟨w1.heap.size, 9, none⟩ = some (.slice na2 nn2 nc2) := HP4.out.bk.ev 9 (by omega)
        have f6 : w4.frozen? ⟨w1.heap.size, 6, none⟩ = false := HP4.out.bk.fz 6
        have f9 : w4.frozen? ⟨w1.heap.size, 9, none⟩ = false := HP4.out.bk.fz 9
        have HP5 := Lib.hid (RQ.cong (E' := (xE op2 nm2 tx2 num2 a2 n2 c2 sa2 sn2 sc2 1 lm2 ls2 na4 (ns.length) nc4 none 0 0 sk2 oop2 onm2 otx2 onum2 oa2 on2 oc2 ky2 wi2)) ((HP4.out.s6 1).s9 (HN4.out.go (FF.stay (HP4.out.stay 6 (.int .i64 1)) _) (fun _ _ h => h))) (below19 rfl rfl rfl rfl rfl rfl rfl rfl rfl rfl rfl rfl rfl rfl rfl rfl rfl rfl rfl))
        go_wp2_with fail
        clear k6 k9 f6 f9
        refine (next_any g 3 _ HP5.out.gd.codes (by omega) (by omega)).mono ?_
        rintro e w6 ⟨m, hm, rfl, hca, hap⟩
        have HP6 := Lib.hid (HP5.out.go hap hca)
        clear hca hap HP5 HP4 HN4
        have HL6 := Lib.hid (LX.start (RR := GRR) (c := 10) (B := w6.heap.size) (e := 48) (k := 2) HP6.out rfl HP6.out.bk.lt HP6.out.rb.lt (Nat.le_refl _) (HP6.out.qe.go ⟨Nat.le_refl _, fun k hk hl => ⟨⟨hk, hl⟩, rfl⟩⟩))
        have HLT6 := Lib.hid HP6.out.bk.lt
        clear HP6
        go_wp2_with fail
        go_loopw [5] (fun i wr => ∃ (j : Nat) (gs : List (Int × List UInt8)) (v : Value), i = .int .i64 j ∧ j + gs.length ≤ 3 ∧ LX GRR g w (GQf w w1.heap.size) w1.heap.size w.heap.size (xE op2 nm2 tx2 num2 a2 n2 c2 sa2 sn2 sc2 1 lm2 ls2 na4 (ns.length) nc4 none 0 0 sk2 oop2 onm2 otx2 onum2 oa2 on2 oc2 ky2 wi2) 10 w6.heap.size 48 2 gs v wr) (fun i _ => (intOf i).toNat)
        case atStart => exact ⟨1 + m, [], _, by go_num, by simp; omega, HL6.out⟩
        case round =>
          obtain ⟨j, gs, v7, rfl, hjg, hL⟩ := hrel
          have HLR := Lib.hid hL
          clear hL HL6
          cases j with
          | zero =>
            obtain ⟨ga7, gc7, rfl, _⟩ := HLR.out.kl.row.rw (F := fun _ => True) (fun _ _ => trivial)
            have HP7 := Lib.hid (RQ.cong (E' := (xE op2 nm2 tx2 num2 a2 n2 c2 sa2 sn2 sc2 1 lm2 ls2 na4 (ns.length) nc4 ga7 (gs.length) gc7 sk2 oop2 onm2 otx2 onum2 oa2 on2 oc2 ky2 wi2)) (HLR.out.fin10 (fun k hk => ⟨by have := HLT6.out; have := HBL.out; omega, by have := HLT6.out; omega⟩)) (below19 rfl rfl rfl rfl rfl rfl rfl rfl rfl rfl rfl rfl rfl rfl rfl rfl rfl rfl rfl))
            clear HLR
            have hrb := HP7.out.rb
            have hld : (load19 ⟨w1.heap.size, 0, none⟩).run Try.prog (wr) = .ok #[.int .i64 op2, .string ⟨nm2.toArray⟩, .string ⟨tx2.toArray⟩, .int .i64 num2, .slice a2 n2 c2, .slice sa2 sn2 sc2, .int .i64 (1), .int .i64 lm2, .bool ls2, .slice na4 ns.length nc4, .slice ga7 gs.length gc7, .int .i64 sk2, .int .i64 oop2, .string ⟨onm2.toArray⟩, .string ⟨otx2.toArray⟩, .int .i64 onum2, .slice oa2 on2 oc2, .string ⟨ky2.toArray⟩, .int .i64 wi2] (wr) := run_load19 HP7.out.bk
            go_wp2_with fail
            refine q_ret (fn := Try.f7) (P := 2) rfl HP7.out (fun k hk => Nat.le_of_lt hk.1) (small_iff.2 ⟨HPS.out.1, HPS.out.2.1, HNL.out, by omega, HPS.out.2.2.2.2⟩) _ _ rfl ?_
            rfl
          | succ j =>
            have hj0 : (0 : Int) < (j : Int) + 1 := by omega
            go_wp2_with fail
            refine (next_any g 5 _ HLR.out.gd.codes (by omega) (by omega)).mono ?_
            rintro e w7 ⟨k, hk, rfl, hca, hap⟩
            have HL7 := Lib.hid (HLR.out.go gr_go hap hca)
            clear hca hap HLR
            have HA := Lib.hid (HL7.out.al gr_go (.cells #[.int .i64 k, .string ⟨#[]⟩] 48))
            have hlt7 : w1.heap.size < w7.heap.size := HL7.out.kl.bk.lt
            have hc7 : w7.cell? ⟨w1.heap.size, 10, none⟩ = some v7 := HL7.out.kl.cell (by omega)
            obtain ⟨i0, hi, hz0, hz1, hz2⟩ := info_parts infoG
            by_cases k0 : k = 0
            · have z0 : ((k : Int) != 0) = false := by rw [bne_eq_false_iff_eq]; omega
              clear k0
              obtain ⟨cs, hown, hpush⟩ := HA.out.kl.row.cells
              have HPU := Lib.hid hpush
              clear hpush
              go_wp2_with (at_builtin; refine wpList_append_lies _ rfl _ _ 27 rfl w6.heap.size 48 i0 (.agg #[.int .i64 0, .string ⟨#[]⟩]) 2 24 Try.underlying27 hi hz0 hz1 hz2 rfl (by decide) v7 gs.length cs rfl (hown.alloc _) ⟨w7.heap.size + 1, 0, none⟩ 1 1 [.int .i64 k, .string ⟨#[]⟩] rfl rfl (World.news_of_block (heap_alloc_new2 w7 _ _)) (agg_one k []) (by omega) (by unfold maxLen; omega) (by omega) (Nat.le_trans HA.out.kl.BW (by simp)) _ rfl ?_; intro g9 cap9 w9 hown9 hgrow9 hat9 hlt9; obtain ⟨hP9, hc9, hf9⟩ := HA.out.push (by omega) hgrow9 hat9 rfl cs hown HPU.out gr_go (k, []) _ rfl rfl (by omega) hown9; have HP9 := Lib.hid hP9; clear hP9 hown9 hgrow9)
              refine ⟨⟨j, gs ++ [((k : Int), [])], _, by go_num, by simp; omega, HP9.out⟩, by simp [intOf]⟩
            · have z0 : ((k : Int) != 0) = true := by rw [bne_iff_ne]; omega
              have HAA := Lib.hid (HA.out.al gr_go fldsO)
              go_wp2_with fail
              refine (next_any g 4 _ HAA.out.gd.codes (by omega) (by omega)).mono ?_
              rintro e w8 ⟨m8, hm8, rfl, hca, hap⟩
              obtain ⟨y, hyw, _⟩ := flds_at m8 hm8
              have hgb : g < w7.heap.size := HL7.out.gd.codes.1
              have hy8 := ((Has.new2 (W := w7) (o' := .cells #[.int .i64 k, .string ⟨#[]⟩] 48) hyw).go hap (by omega)).2
              have HB8 := Lib.hid (((BK.new w7 #[.int .i64 k, .string ⟨#[]⟩] 48 (fun i => (#[.int .i64 k, .string ⟨#[]⟩] : Array Value)[i]!) 2 (fun i hi => by
                match i, hi with
                | 0, _ => rfl
                | 1, _ => rfl)).al fldsO).go hap (by omega))
              have cA0 : w8.cell? ⟨w7.heap.size, 0, none⟩ = some (.int .i64 k) := HB8.out.ev 0 (by omega)
              have cA1 : w8.cell? ⟨w7.heap.size, 1, none⟩ = some (.string ⟨#[]⟩) := HB8.out.ev 1 (by omega)
              have fA1 : w8.frozen? ⟨w7.heap.size, 1, none⟩ = false := HB8.out.fz 1
              have HL8 := Lib.hid (HAA.out.go gr_go hap hca)
              have hv7 : v7.ownBlock ≠ some w7.heap.size := fun e => by
                obtain ⟨cs, hown, _⟩ := HL7.out.kl.row.cells
                have := (hown.lt _ e).2
                omega
              have HL9 := Lib.hid (HL8.out.other HL7.out.kl.BW hv7 1 (.string ⟨y.toArray⟩))
              have hc8 : w8.cell? ⟨w1.heap.size, 10, none⟩ = some v7 := HL8.out.kl.cell (by omega)
              have j1 : (m8 : Int) < 4 := by omega
              have j2 : (0 : Int) ≤ (m8 : Int) := by omega
              have hneA : ¬ (w7.heap.size = w1.heap.size) := by omega
              clear hca hap hyw HB8 HL7 HA HAA HL8 hv7
              obtain ⟨cs, hown, hpush⟩ := HL9.out.kl.row.cells
              have HPU := Lib.hid hpush
              clear hpush
              go_wp2_with (at_builtin; refine wpList_append_lies _ rfl _ _ 27 rfl w6.heap.size 48 i0 (.agg #[.int .i64 0, .string ⟨#[]⟩]) 2 24 Try.underlying27 hi hz0 hz1 hz2 rfl (by decide) v7 gs.length cs rfl (hown.alloc _) ⟨w8.heap.size, 0, none⟩ 1 1 [.int .i64 k, .string ⟨y.toArray⟩] rfl rfl (World.news_of_block (by simpa using heap_alloc_new (w8.setCell ⟨w7.heap.size, 1, none⟩ (.string ⟨y.toArray⟩)) _)) (agg_one k y) (by omega) (by unfold maxLen; omega) (by omega) (Nat.le_trans HL9.out.kl.BW (by simp)) _ rfl ?_; intro g9 cap9 w9 hown9 hgrow9 hat9 hlt9; obtain ⟨hP9, hc9, hf9⟩ := HL9.out.push (by omega) hgrow9 hat9 rfl cs hown HPU.out gr_go (k, y) _ rfl rfl (by omega) hown9; have HP9 := Lib.hid hP9; clear hP9 hown9 hgrow9)
              refine ⟨⟨j, gs ++ [((k : Int), y)], _, by go_num, by simp; omega, HP9.out⟩, by simp [intOf]⟩
      · go_wp2_with fail
        refine (dnames_any g _ HP3.out.gd.codes).mono ?_
        rintro e w4 ⟨v4, ns, rfl, hrw, hgd, hnl⟩
        have HP4 := Lib.hid (HP3.out.go hgd.ap hgd.codes)
        have HLT3 := Lib.hid HP3.out.bk.lt
        have HN4 := Lib.hid (hrw.go (F' := FF (GQf w w1.heap.size) (.slice sa2 sn2 sc2)) ⟨Nat.le_refl _, fun k hk _ => ⟨⟨⟨by have := HLT3.out; have := HBL.out; omega, by have := HLT3.out; omega⟩, fun e => by have := HP3.out.qe.lt e; omega⟩, rfl⟩⟩ (fun _ _ h => h))
        obtain ⟨na4, nc4, rfl, _⟩ := HN4.out
        have HNL := Lib.hid hnl
        clear hrw hgd hnl HP3
        go_wp2_with fail
        refine (next_any g 4 _ HP4.out.gd.codes (by omega) (by omega)).mono ?_
        rintro e w5 ⟨y, hy, rfl, hca, hap⟩
        have HP5 := Lib.hid (HP4.out.go hap hca)
        have HN5 := Lib.hid (HN4.out.go (F' := FF (GQf w w1.heap.size) (.slice sa2 sn2 sc2)) ⟨hap.1.size, fun k hk hl => ⟨hk, hap.block (HP4.out.hG k hk.1).1 hl⟩⟩ (fun _ _ h => h))
        have hlt5 : w1.heap.size < w5.heap.size := HP5.out.bk.lt
        have hne5 : ¬ (w5.heap.size = w1.heap.size) := by omega
        clear hca hap HP4 HN4
        have k6 : w5.cell? ⟨w1.heap.size, 6, none⟩ = some (.int .i64 kd2) := HP5.out.bk.ev 6 (by omega)
        have k7 : w5.cell? ⟨w1.heap.size, 7, none⟩ = some (.int .i64 lm2) := HP5.out.bk.ev 7 (by omega)
        have k9 : w5.cell? ⟨w1.heap.size, 9, none⟩ = some (.slice na2 nn2 nc2) := HP5.out.bk.ev 9 (by omega)
        have k10 : w5.cell? ⟨w1.heap.size, 10, none⟩ = some (.slice none 0 0) := HP5.out.bk.ev 10 (by omega)
        have f6 : w5.frozen? ⟨w1.heap.size, 6, none⟩ = false := HP5.out.bk.fz 6
        have f7 : w5.frozen? ⟨w1.heap.size, 7, none⟩ = false := HP5.out.bk.fz 7
        have f9 : w5.frozen? ⟨w1.heap.size, 9, none⟩ = false := HP5.out.bk.fz 9
        have f10 : w5.frozen? ⟨w1.heap.size, 10, none⟩ = false := HP5.out.bk.fz 10
        have HP6 := Lib.hid (RQ.cong (E' := (xE op2 nm2 tx2 num2 a2 n2 c2 sa2 sn2 sc2 2 (1 + y : Int) ls2 na4 (ns.length) nc4 none 0 0 sk2 oop2 onm2 otx2 onum2 oa2 on2 oc2 ky2 wi2)) (((HP5.out.s6 2).s9 (HN5.out.go (FF.stay (HP5.out.stay 6 (.int .i64 2)) _) (fun _ _ h => h))).s7 (1 + y)) (below19 rfl rfl rfl rfl rfl rfl rfl rfl rfl rfl rfl rfl rfl rfl rfl rfl rfl rfl rfl))
        have HQ6 := Lib.hid (HP6.out.qe.go (F' := fun k => GQf w w1.heap.size k ∧ k ≠ w5.heap.size) (w' := (((w5.setCell ⟨w1.heap.size, 6, none⟩ (.int .i64 2)).setCell ⟨w1.heap.size, 9, none⟩ (.slice na4 ns.length nc4)).setCell ⟨w1.heap.size, 7, none⟩ (.int .i64 (1 + y))).alloc (.cells #[.int .i64 0, .string ⟨#[]⟩] 48)) ⟨by simp, fun k hk hl => ⟨⟨hk, by simp at hl; omega⟩, ((Below.refl _ (((w5.setCell ⟨w1.heap.size, 6, none⟩ (.int .i64 2)).setCell ⟨w1.heap.size, 9, none⟩ (.slice na4 ns.length nc4)).setCell ⟨w1.heap.size, 7, none⟩ (.int .i64 (1 + y)))).alloc (Nat.le_refl _) _).block k hl⟩⟩)
        have HB6 := Lib.hid (BK.new (((w5.setCell ⟨w1.heap.size, 6, none⟩ (.int .i64 2)).setCell ⟨w1.heap.size, 9, none⟩ (.slice na4 ns.length nc4)).setCell ⟨w1.heap.size, 7, none⟩ (.int .i64 (1 + y))) #[.int .i64 0, .string ⟨#[]⟩] 48 (fun i => (#[.int .i64 0, .string ⟨#[]⟩] : Array Value)[i]!) 2 (fun i hi => by
          match i, hi with
          | 0, _ => rfl
          | 1, _ => rfl))
        have HB7 : Hid (BK w5.heap.size 2 (fun i => (#[.int .i64 0, .string ⟨#[]⟩] : Array Value)[i]!) ((((w5.setCell ⟨w1.heap.size, 6, none⟩ (.int .i64 2)).setCell ⟨w1.heap.size, 9, none⟩ (.slice na4 ns.length nc4)).setCell ⟨w1.heap.size, 7, none⟩ (.int .i64 (1 + y))).alloc (.cells #[.int .i64 0, .string ⟨#[]⟩] 48))) := Lib.hid (by simpa using HB6.out)
        have HP7 := Lib.hid (HP6.out.al (.cells #[.int .i64 0, .string ⟨#[]⟩] 48))
        have HRW : Hid (RW (FF (GQf w w1.heap.size) (.slice sa2 sn2 sc2)) 2 GR ((((w5.setCell ⟨w1.heap.size, 6, none⟩ (.int .i64 2)).setCell ⟨w1.heap.size, 9, none⟩ (.slice na4 ns.length nc4)).setCell ⟨w1.heap.size, 7, none⟩ (.int .i64 (1 + y))).alloc (.cells #[.int .i64 0, .string ⟨#[]⟩] 48)) [(0, [])] (.slice (some ⟨w5.heap.size, 0, none⟩) 1 1)) := Lib.hid (by
          have h := (OR.lit (B := w5.heap.size) (e := 48) (k := 2) (R := GR) (((w5.setCell ⟨w1.heap.size, 6, none⟩ (.int .i64 2)).setCell ⟨w1.heap.size, 9, none⟩ (.slice na4 ns.length nc4)).setCell ⟨w1.heap.size, 7, none⟩ (.int .i64 (1 + y))) ((0 : Int), ([] : List UInt8)) [.int .i64 0, .string ⟨#[]⟩] (by simp) rfl rfl).rw (F := FF (GQf w w1.heap.size) (.slice sa2 sn2 sc2)) (fun k hk => ⟨⟨by have := HBL.out; omega, by omega⟩, fun e => by have := HP5.out.qe.lt e; omega⟩)
          simpa using h)
        have HP8 := Lib.hid (RQ.cong (E' := (xE op2 nm2 tx2 num2 a2 n2 c2 sa2 sn2 sc2 2 (1 + y : Int) ls2 na4 (ns.length) nc4 (some ⟨w5.heap.size, 0, none⟩) 1 1 sk2 oop2 onm2 otx2 onum2 oa2 on2 oc2 ky2 wi2)) (HP7.out.s10 HRW.out) (below19 rfl rfl rfl rfl rfl rfl rfl rfl rfl rfl rfl rfl rfl rfl rfl rfl rfl rfl rfl))
        have HB8 := Lib.hid (HB7.out.other hne5 10 (.slice (some ⟨w5.heap.size, 0, none⟩) 1 1))
        have HQ8 := Lib.hid ((HQ6.out.go (F' := fun k => GQf w w1.heap.size k ∧ k ≠ w5.heap.size) (w' := ((((w5.setCell ⟨w1.heap.size, 6, none⟩ (.int .i64 2)).setCell ⟨w1.heap.size, 9, none⟩ (.slice na4 ns.length nc4)).setCell ⟨w1.heap.size, 7, none⟩ (.int .i64 (1 + y))).alloc (.cells #[.int .i64 0, .string ⟨#[]⟩] 48)).setCell ⟨w1.heap.size, 10, none⟩ (.slice (some ⟨w5.heap.size, 0, none⟩) 1 1)) ⟨by simp, fun k hk _ => ⟨hk, Below.heap_setCell _ _ _ k (by have := (HP7.out.hG k hk.1).2.1; simpa using this)⟩⟩))
        rw [World.setCell_alloc_past _ _ _ _ (by simpa using hlt5)] at HP8 HB8 HQ8
        clear HP6 HQ6 HB6 HB7 HP7 HRW HP5 HN5
        go_wp2_with fail
        refine (next_any g 2 _ HP8.out.gd.codes (by omega) (by omega)).mono ?_
        rintro e w9 ⟨q1, hq1, rfl, hca, hap⟩
        have HP9 := Lib.hid (HP8.out.go hap hca)
        have HB9 := Lib.hid (HB8.out.go hap (by have := HP8.out.gd.hg; have := HBL.out; omega))
        have HQ9 := Lib.hid (HQ8.out.go (F' := fun k => GQf w w1.heap.size k ∧ k ≠ w5.heap.size) ⟨hap.1.size, fun k hk hl => ⟨hk, hap.block (HP8.out.hG k hk.1).1 hl⟩⟩)
        clear hca hap HP8 HB8 HQ8
        by_cases e1 : q1 = 1
        · subst e1
          go_wp2_with fail
          refine (next_any g 4 _ HP9.out.gd.codes (by omega) (by omega)).mono ?_
          rintro e wa ⟨z, hz, rfl, hca, hap⟩
          have HPa := Lib.hid (HP9.out.go hap hca)
          clear hca hap HP9 HB9 HQ9
          have s11 : wa.cell? ⟨w1.heap.size, 11, none⟩ = some (.int .i64 sk2) := HPa.out.bk.ev 11 (by omega)
          have t11 : wa.frozen? ⟨w1.heap.size, 11, none⟩ = false := HPa.out.bk.fz 11
          have hld : ∀ (v : Int), (load19 ⟨w1.heap.size, 0, none⟩).run Try.prog (wa.setCell ⟨w1.heap.size, 11, none⟩ (.int .i64 v)) = .ok #[.int .i64 op2, .string ⟨nm2.toArray⟩, .string ⟨tx2.toArray⟩, .int .i64 num2, .slice a2 n2 c2, .slice sa2 sn2 sc2, .int .i64 (2), .int .i64 ((1 + y : Int)), .bool ls2, .slice na4 ns.length nc4, .slice (some ⟨w5.heap.size, 0, none⟩) 1 1, .int .i64 v, .int .i64 oop2, .string ⟨onm2.toArray⟩, .string ⟨otx2.toArray⟩, .int .i64 onum2, .slice oa2 on2 oc2, .string ⟨ky2.toArray⟩, .int .i64 wi2] (wa.setCell ⟨w1.heap.size, 11, none⟩ (.int .i64 v)) := fun v => run_load19 (RQ.cong (E' := (xE op2 nm2 tx2 num2 a2 n2 c2 sa2 sn2 sc2 2 (1 + y : Int) ls2 na4 (ns.length) nc4 (some ⟨w5.heap.size, 0, none⟩) 1 1 v oop2 onm2 otx2 onum2 oa2 on2 oc2 ky2 wi2)) (HPa.out.s11 v) (below19 rfl rfl rfl rfl rfl rfl rfl rfl rfl rfl rfl rfl rfl rfl rfl rfl rfl rfl rfl)).bk
          have hrb : ∀ v, BK w.heap.size 19 zE (wa.setCell ⟨w1.heap.size, 11, none⟩ v) := fun v => HPa.out.rb.other hne 11 v
          go_wp2_with fail
          refine q_ret (fn := Try.f7) (P := 2) rfl (RQ.cong (E' := (xE op2 nm2 tx2 num2 a2 n2 c2 sa2 sn2 sc2 2 (1 + y : Int) ls2 na4 (ns.length) nc4 (some ⟨w5.heap.size, 0, none⟩) 1 1 (1 + (z : Int)) oop2 onm2 otx2 onum2 oa2 on2 oc2 ky2 wi2)) (HPa.out.s11 (1 + (z : Int))) (below19 rfl rfl rfl rfl rfl rfl rfl rfl rfl rfl rfl rfl rfl rfl rfl rfl rfl rfl rfl)) (fun k hk => Nat.le_of_lt hk.1) (small_iff.2 ⟨HPS.out.1, HPS.out.2.1, HNL.out, by omega, HPS.out.2.2.2.2⟩) _ _ rfl ?_
          rfl
        · have z1 : ((q1 : Int) == 1) = false := by rw [beq_eq_false_iff_ne]; omega
          go_wp2_with fail
          refine (next_any g 2 _ HP9.out.gd.codes (by omega) (by omega)).mono ?_
          rintro e wa ⟨q2, hq2, rfl, hca, hap⟩
          have HPa := Lib.hid (HP9.out.go hap hca)
          have HBa := Lib.hid (HB9.out.go hap (by have := HP9.out.gd.hg; have := HBL.out; omega))
          have HQa := Lib.hid (HQ9.out.go (F' := fun k => GQf w w1.heap.size k ∧ k ≠ w5.heap.size) ⟨hap.1.size, fun k hk hl => ⟨hk, hap.block (HP9.out.hG k hk.1).1 hl⟩⟩)
          clear hca hap HP9 HB9 HQ9
          by_cases e2 : q2 = 1
          · subst e2
            have s10 : wa.cell? ⟨w1.heap.size, 10, none⟩ = some (.slice (some ⟨w5.heap.size, 0, none⟩) 1 1) := HPa.out.bk.ev 10 (by omega)
            have cA0 : wa.cell? ⟨w5.heap.size, 0, none⟩ = some (.int .i64 0) := HBa.out.ev 0 (by omega)
            have cA1 : wa.cell? ⟨w5.heap.size, 1, none⟩ = some (.string ⟨#[]⟩) := HBa.out.ev 1 (by omega)
            have fA0 : wa.frozen? ⟨w5.heap.size, 0, none⟩ = false := HBa.out.fz 0
            have fA1 : wa.frozen? ⟨w5.heap.size, 1, none⟩ = false := HBa.out.fz 1
            have HPb := Lib.hid (HPa.out.agg (QX.cong (E' := Upd (xE op2 nm2 tx2 num2 a2 n2 c2 sa2 sn2 sc2 2 (1 + y : Int) ls2 na4 (ns.length) nc4 (some ⟨w5.heap.size, 0, none⟩) 1 1 sk2 oop2 onm2 otx2 onum2 oa2 on2 oc2 ky2 wi2) 10 (.slice none 0 0)) HQa.out (below19 rfl rfl rfl rfl rfl rfl rfl rfl rfl rfl rfl rfl rfl rfl rfl rfl rfl rfl rfl)) rfl HBa.out ⟨by have := HBL.out; omega, by omega⟩ (by have := HBL.out; omega) 1 [109, 115])
            have hrb := HPb.out.rb
            have hld : (load19 ⟨w1.heap.size, 0, none⟩).run Try.prog ((wa.setCell ⟨w5.heap.size, 0, none⟩ (.int .i64 1)).setCell ⟨w5.heap.size, 1, none⟩ (.string ⟨#[109, 115]⟩)) = .ok #[.int .i64 op2, .string ⟨nm2.toArray⟩, .string ⟨tx2.toArray⟩, .int .i64 num2, .slice a2 n2 c2, .slice sa2 sn2 sc2, .int .i64 (2), .int .i64 ((1 + y : Int)), .bool ls2, .slice na4 ns.length nc4, .slice (some ⟨w5.heap.size, 0, none⟩) 1 1, .int .i64 sk2, .int .i64 oop2, .string ⟨onm2.toArray⟩, .string ⟨otx2.toArray⟩, .int .i64 onum2, .slice oa2 on2 oc2, .string ⟨ky2.toArray⟩, .int .i64 wi2] ((wa.setCell ⟨w5.heap.size, 0, none⟩ (.int .i64 1)).setCell ⟨w5.heap.size, 1, none⟩ (.string ⟨#[109, 115]⟩)) := run_load19 HPb.out.bk
            go_wp2_with fail
            refine q_ret (fn := Try.f7) (P := 2) rfl HPb.out (fun k hk => Nat.le_of_lt hk.1) (small_iff.2 ⟨HPS.out.1, HPS.out.2.1, HNL.out, by omega, HPS.out.2.2.2.2⟩) _ _ rfl ?_
            rfl
          · have z2 : ((q2 : Int) == 1) = false := by rw [beq_eq_false_iff_ne]; omega
            have hrb := HPa.out.rb
            have hld : (load19 ⟨w1.heap.size, 0, none⟩).run Try.prog (wa) = .ok #[.int .i64 op2, .string ⟨nm2.toArray⟩, .string ⟨tx2.toArray⟩, .int .i64 num2, .slice a2 n2 c2, .slice sa2 sn2 sc2, .int .i64 (2), .int .i64 ((1 + y : Int)), .bool ls2, .slice na4 ns.length nc4, .slice (some ⟨w5.heap.size, 0, none⟩) 1 1, .int .i64 sk2, .int .i64 oop2, .string ⟨onm2.toArray⟩, .string ⟨otx2.toArray⟩, .int .i64 onum2, .slice oa2 on2 oc2, .string ⟨ky2.toArray⟩, .int .i64 wi2] (wa) := run_load19 HPa.out.bk
            go_wp2_with fail
            refine q_ret (fn := Try.f7) (P := 2) rfl HPa.out (fun k hk => Nat.le_of_lt hk.1) (small_iff.2 ⟨HPS.out.1, HPS.out.2.1, HNL.out, by omega, HPS.out.2.2.2.2⟩) _ _ rfl ?_
            rfl
      · have hlt3 : w1.heap.size < w3.heap.size := HP3.out.bk.lt
        have HG3 := Lib.hid (show g < w3.heap.size from HP3.out.gd.codes.1)
        have HPD := Lib.hid HP3.out.dr
        have HPDA := Lib.hid (HPD.out.al keysO)
        go_wp2_with fail
        go_region_law (first
          | (have hz4 := HP4; clear hz4; go_simp; go_at_call 15; refine (next_any g 60 _ (by first | exact HP4.out.gd.codes | exact HP4A.out.gd.codes) (by omega) (by omega)).mono ?_; rintro e w5 ⟨m, hm, rfl, hca, hap⟩; have HAP5 := Lib.hid hap; clear hap; have HP5 := Lib.hid (show RQ g w (GQf w w1.heap.size) w1.heap.size w.heap.size (xE op2 nm2 tx2 num2 a2 n2 c2 sa2 sn2 sc2 kd2 lm2 ls2 na2 nn2 nc2 none 0 0 sk2 oop2 onm2 otx2 onum2 oa2 on2 oc2 ky2 wi2) w5 by first | exact HP4.out.go HAP5.out hca | exact HP4A.out.go HAP5.out hca); clear hca; (try (have hh5 := (HH4.out.go HAP5.out HG3.out).2)); (try (have hh6 := ((Has.new (W := w4) (o := keysO) HYW.out).go HAP5.out HG4.out).2)); have hlt5 : w1.heap.size < w5.heap.size := HP5.out.bk.lt; have k6 : w5.cell? ⟨w1.heap.size, 6, none⟩ = some (.int .i64 kd2) := HP5.out.bk.ev 6 (by omega); have k17 : w5.cell? ⟨w1.heap.size, 17, none⟩ = some (.string ⟨ky2.toArray⟩) := HP5.out.bk.ev 17 (by omega); have k18 : w5.cell? ⟨w1.heap.size, 18, none⟩ = some (.int .i64 wi2) := HP5.out.bk.ev 18 (by omega); have f6 : w5.frozen? ⟨w1.heap.size, 6, none⟩ = false := HP5.out.bk.fz 6; have f17 : w5.frozen? ⟨w1.heap.size, 17, none⟩ = false := HP5.out.bk.fz 17; have f18 : w5.frozen? ⟨w1.heap.size, 18, none⟩ = false := HP5.out.bk.fz 18)
          | (go_simp; go_at_call 15; refine (next_any g 3 _ (by first | exact HPD.out.gd.codes | exact HPDA.out.gd.codes) (by omega) (by omega)).mono ?_; rintro e w4 ⟨k, hk, rfl, hca, hap⟩; have HAP := Lib.hid hap; clear hap; have i1 : (k : Int) < 3 := (by omega); have i2 : (0 : Int) ≤ (k : Int) := (by omega); obtain ⟨y, hyw, hyq⟩ := keys_at k hk; have HYW := Lib.hid hyw; clear hyw; have HP4 := Lib.hid (show RQ g w (GQf w w1.heap.size) w1.heap.size w.heap.size (xE op2 nm2 tx2 num2 a2 n2 c2 sa2 sn2 sc2 kd2 lm2 ls2 na2 nn2 nc2 none 0 0 sk2 oop2 onm2 otx2 onum2 oa2 on2 oc2 ky2 wi2) w4 by first | exact HPD.out.go HAP.out hca | exact HPDA.out.go HAP.out hca); clear hca; have HP4A := Lib.hid (HP4.out.al keysO); have HG4 := Lib.hid (show g < w4.heap.size from HP4.out.gd.codes.1); (try (have HH4 : Hid (Has w4 w3.heap.size k (.string ⟨y.toArray⟩)) := Lib.hid (by first | exact (Has.new (W := w3.drew) (o := keysO) HYW.out).go HAP.out HG3.out); have hh4 := HH4.out.2))))
        all_goals (go_wp2_with fail)
        all_goals
          have HP6 := Lib.hid (RQ.cong (E' := (xE op2 nm2 tx2 num2 a2 n2 c2 sa2 sn2 sc2 3 lm2 ls2 na2 nn2 nc2 none 0 0 sk2 oop2 onm2 otx2 onum2 oa2 on2 oc2 y (m : Int))) (((HP5.out.s6 3).s17 y).s18 (m : Int)) (below19 rfl rfl rfl rfl rfl rfl rfl rfl rfl rfl rfl rfl rfl rfl rfl rfl rfl rfl rfl))
          have HP6A := Lib.hid (HP6.out.al keysO)
          clear HP5 HP3 HPD HPDA HP4 HP4A
          first
            | (refine (HT1.out g _ HP6.out.gd.codes).mono ?_; rintro e w7 ⟨v3, t3, rfl, hT, hg7, hk7⟩; have HP7 := Lib.hid (HP6.out.go hg7.ap hg7.codes); have HT7 := Lib.hid (TG.go (F' := FF (GQf w w1.heap.size) (.slice sa2 sn2 sc2)) ⟨Nat.le_refl _, fun k hk _ => ⟨⟨⟨by simp at hk; have := HBL.out; omega, by simp at hk; omega⟩, fun e => absurd hk (Nat.not_le.2 (HP6.out.qe.lt e))⟩, rfl⟩⟩ _ _ hT))
            | (refine (HT1.out g _ HP6A.out.gd.codes).mono ?_; rintro e w7 ⟨v3, t3, rfl, hT, hg7, hk7⟩; have HP7 := Lib.hid (HP6A.out.go hg7.ap hg7.codes); have HT7 := Lib.hid (TG.go (F' := FF (GQf w w1.heap.size) (.slice sa2 sn2 sc2)) ⟨Nat.le_refl _, fun k hk _ => ⟨⟨⟨by simp at hk; have := HBL.out; omega, by simp at hk; omega⟩, fun e => absurd hk (Nat.not_le.2 (HP6A.out.qe.lt e))⟩, rfl⟩⟩ _ _ hT))
          obtain ⟨op3, nm3, tx3, num3, kk, a3, c3, rfl, _⟩ := HT7.out.open
          have HKK : Hid (kk.length ≤ 1000) := Lib.hid hk7
          clear hT hg7 hk7 HP6 HP6A
          go_wp2_with fail
          refine (next_any g 5 _ HP7.out.gd.codes (by omega) (by omega)).mono ?_
          rintro e w8 ⟨z, hz, rfl, hca, hap⟩
          have HP8 := Lib.hid (HP7.out.go hap hca)
          have HT8 := Lib.hid (TG.go (F' := FF (GQf w w1.heap.size) (.slice sa2 sn2 sc2)) ⟨hap.1.size, fun k hk hl => ⟨hk, hap.block (HP7.out.hG k hk.1).1 hl⟩⟩ _ _ HT7.out)
          clear hca hap HP7 HT7
          have s7 : w8.cell? ⟨w1.heap.size, 7, none⟩ = some (.int .i64 lm2) := HP8.out.bk.ev 7 (by omega)
          have s12 : w8.cell? ⟨w1.heap.size, 12, none⟩ = some (.int .i64 oop2) := HP8.out.bk.ev 12 (by omega)
          have s13 : w8.cell? ⟨w1.heap.size, 13, none⟩ = some (.string ⟨onm2.toArray⟩) := HP8.out.bk.ev 13 (by omega)
          have s14 : w8.cell? ⟨w1.heap.size, 14, none⟩ = some (.string ⟨otx2.toArray⟩) := HP8.out.bk.ev 14 (by omega)
          have s15 : w8.cell? ⟨w1.heap.size, 15, none⟩ = some (.int .i64 onum2) := HP8.out.bk.ev 15 (by omega)
          have s16 : w8.cell? ⟨w1.heap.size, 16, none⟩ = some (.slice oa2 on2 oc2) := HP8.out.bk.ev 16 (by omega)
          have t7 : w8.frozen? ⟨w1.heap.size, 7, none⟩ = false := HP8.out.bk.fz 7
          have t12 : w8.frozen? ⟨w1.heap.size, 12, none⟩ = false := HP8.out.bk.fz 12
          have t13 : w8.frozen? ⟨w1.heap.size, 13, none⟩ = false := HP8.out.bk.fz 13
          have t14 : w8.frozen? ⟨w1.heap.size, 14, none⟩ = false := HP8.out.bk.fz 14
          have t15 : w8.frozen? ⟨w1.heap.size, 15, none⟩ = false := HP8.out.bk.fz 15
          have t16 : w8.frozen? ⟨w1.heap.size, 16, none⟩ = false := HP8.out.bk.fz 16
          have HP9 := Lib.hid (HP8.out.five 12 (by omega) [.int .i64 op3, .string ⟨nm3.toArray⟩, .string ⟨tx3.toArray⟩, .int .i64 num3, .slice a3 kk.length c3] rfl (QX.cong (E' := fun j => if 12 ≤ j ∧ j < 12 + 5 then ([.int .i64 op3, .string ⟨nm3.toArray⟩, .string ⟨tx3.toArray⟩, .int .i64 num3, .slice a3 kk.length c3] : List Value)[j - 12]! else (xE op2 nm2 tx2 num2 a2 n2 c2 sa2 sn2 sc2 3 lm2 ls2 na2 nn2 nc2 none 0 0 sk2 oop2 onm2 otx2 onum2 oa2 on2 oc2 y (m : Int)) j) (HP8.out.qe.sO ⟨t3, HT8.out⟩) (below19 rfl rfl rfl rfl rfl rfl rfl rfl rfl rfl rfl rfl rfl rfl rfl rfl rfl rfl rfl)))
          have HPa := Lib.hid (RQ.cong (E' := (xE op2 nm2 tx2 num2 a2 n2 c2 sa2 sn2 sc2 3 (z : Int) ls2 na2 nn2 nc2 none 0 0 sk2 op3 nm3 tx3 num3 a3 (kk.length) c3 y (m : Int))) (HP9.out.s7 (z : Int)) (below19 rfl rfl rfl rfl rfl rfl rfl rfl rfl rfl rfl rfl rfl rfl rfl rfl rfl rfl rfl))
          have hrb := HPa.out.rb
          have hld : (load19 ⟨w1.heap.size, 0, none⟩).run Try.prog ((setL w8 w1.heap.size [.int .i64 op3, .string ⟨nm3.toArray⟩, .string ⟨tx3.toArray⟩, .int .i64 num3, .slice a3 kk.length c3] 12).setCell ⟨w1.heap.size, 7, none⟩ (.int .i64 z)) = .ok #[.int .i64 op2, .string ⟨nm2.toArray⟩, .string ⟨tx2.toArray⟩, .int .i64 num2, .slice a2 n2 c2, .slice sa2 sn2 sc2, .int .i64 (3), .int .i64 ((z : Int)), .bool ls2, .slice na2 nn2 nc2, .slice none 0 0, .int .i64 sk2, .int .i64 op3, .string ⟨nm3.toArray⟩, .string ⟨tx3.toArray⟩, .int .i64 num3, .slice a3 kk.length c3, .string ⟨y.toArray⟩, .int .i64 ((m : Int))] ((setL w8 w1.heap.size [.int .i64 op3, .string ⟨nm3.toArray⟩, .string ⟨tx3.toArray⟩, .int .i64 num3, .slice a3 kk.length c3] 12).setCell ⟨w1.heap.size, 7, none⟩ (.int .i64 z)) := run_load19 HPa.out.bk
          simp only [setL] at hrb hld
          go_wp2_with fail
          refine q_ret (fn := Try.f7) (P := 2) rfl HPa.out (fun k hk => Nat.le_of_lt hk.1) (small_iff.2 ⟨HPS.out.1, HPS.out.2.1, HPS.out.2.2.1, by omega, HKK.out⟩) _ _ rfl ?_
          rfl
      · have hrb := HP3.out.rb
        have hld : (load19 ⟨w1.heap.size, 0, none⟩).run Try.prog (w3) = .ok #[.int .i64 op2, .string ⟨nm2.toArray⟩, .string ⟨tx2.toArray⟩, .int .i64 num2, .slice a2 n2 c2, .slice sa2 sn2 sc2, .int .i64 kd2, .int .i64 lm2, .bool ls2, .slice na2 nn2 nc2, .slice none 0 0, .int .i64 sk2, .int .i64 oop2, .string ⟨onm2.toArray⟩, .string ⟨otx2.toArray⟩, .int .i64 onum2, .slice oa2 on2 oc2, .string ⟨ky2.toArray⟩, .int .i64 wi2] (w3) := run_load19 HP3.out.bk
        go_wp2_with fail
        refine q_ret (fn := Try.f7) (P := 2) rfl HP3.out (fun k hk => Nat.le_of_lt hk.1) (small_iff.2 HPS.out) _ _ rfl ?_
        rfl
    | succ j =>
      have hj0 : (0 : Int) < (j : Int) + 1 := by omega
      go_wp2_with fail
      refine (next_any g 2 _ HLR.out.gd.codes (by omega) (by omega)).mono ?_
      rintro e w3 ⟨q, hq, rfl, hca, hap⟩
      have HL3 := Lib.hid (HLR.out.go sr_go hap hca)
      clear hca hap HLR
      have HLD := Lib.hid (HL3.out.dr sr_go)
      have hc0 : w3.drew.cell? ⟨w1.heap.size, 5, none⟩ = some v := HLD.out.kl.cell (by omega)
      have hf0 : w3.drew.frozen? ⟨w1.heap.size, 5, none⟩ = false := HLD.out.kl.bk.fz 5
      have hc0b : w3.cell? ⟨w1.heap.size, 5, none⟩ = some v := HL3.out.kl.cell (by omega)
      have hf0b : w3.frozen? ⟨w1.heap.size, 5, none⟩ = false := HL3.out.kl.bk.fz 5
      have hlt3 : w1.heap.size < w3.heap.size := HLD.out.kl.bk.lt
      have HG3 := Lib.hid (show g < w3.heap.size from HL3.out.gd.codes.1)
      obtain ⟨i0, hi, hz0, hz1, hz2⟩ := info_parts infoS
      by_cases q1 : q = 1
      · subst q1
        go_wp2_with fail
        go_region_law (first
          | (refine step_append_lies _ (by rfl) _ _ _ (by rfl) (w1.heap.size + 1) 41 i0 (.agg #[.bool false, .string ⟨#[]⟩, .int .i64 0, .string ⟨#[]⟩, .string ⟨#[]⟩, .int .i64 0, .slice none 0 0]) 7 96 Try.underlying25 hi hz0 hz1 hz2 rfl (by decide) _ _ _ (by rfl) (hown4.alloc _) ⟨w4.heap.size, 0, none⟩ 1 1 [.bool true, .string ⟨y.toArray⟩, .int .i64 0, .string ⟨#[]⟩, .string ⟨#[]⟩, .int .i64 0, .slice none 0 0] (by rfl) rfl (World.news_of_block (heap_alloc_new w4 _)) (stage_one true y 0 [] [] 0 none 0 0) (by omega) (by unfold maxLen; omega) (by omega) (Nat.le_trans HL4.out.kl.BW (by simp)) _ rfl ?_; intro g' cap' w5 hown5 hgrow5 hat5 hlt5; obtain ⟨hP5, hc5, hf5⟩ := HL4.out.push (by omega) hgrow5 hat5 rfl cs hown4 HPU.out sr_go ⟨true, y, .node 0 [] [] 0 []⟩ _ rfl (sr_leaf _ _ true y) (by omega) hown5; have HP5 := Lib.hid hP5; clear hP5 hown5 hgrow5)
          | (refine step_append_lies _ (by rfl) _ _ _ (by rfl) (w1.heap.size + 1) 41 i0 (.agg #[.bool false, .string ⟨#[]⟩, .int .i64 0, .string ⟨#[]⟩, .string ⟨#[]⟩, .int .i64 0, .slice none 0 0]) 7 96 Try.underlying25 hi hz0 hz1 hz2 rfl (by decide) _ _ _ (by rfl) ((hown4.alloc srcsO).alloc _) ⟨w4.heap.size + 1, 0, none⟩ 1 1 [.bool true, .string ⟨y.toArray⟩, .int .i64 0, .string ⟨#[]⟩, .string ⟨#[]⟩, .int .i64 0, .slice none 0 0] (by rfl) rfl (World.news_of_block (heap_alloc_new2 w4 srcsO _)) (stage_one true y 0 [] [] 0 none 0 0) (by omega) (by unfold maxLen; omega) (by omega) (Nat.le_trans (HLA.out srcsO).kl.BW (by simp)) _ rfl ?_; intro g' cap' w5 hown5 hgrow5 hat5 hlt5; obtain ⟨hP5, hc5, hf5⟩ := (HLA.out srcsO).push (by omega) hgrow5 hat5 rfl cs (hown4.alloc srcsO) (fun R W x us vv hR => HPU.out R W x us vv (fun x us hx => hR x us (SR.go ⟨by simp, fun j hj hl => ⟨hj, ((Below.refl _ w4).alloc (Nat.le_refl _) srcsO).block j hl⟩⟩ x us hx))) sr_go ⟨true, y, .node 0 [] [] 0 []⟩ _ rfl (sr_leaf _ _ true y) (by omega) hown5; have HP5 := Lib.hid hP5; clear hP5 hown5 hgrow5)
          | (go_simp; go_at_call 15; refine (next_any g 4 _ (by first | exact HLD.out.gd.codes | exact (HLD.out.gd.al _).codes) (by omega) (by omega)).mono ?_; rintro e w4 ⟨k, hk, rfl, hca, hap⟩; have HAP := Lib.hid hap; clear hap; have i1 : (k : Int) < 4 := (by omega); have i2 : (0 : Int) ≤ (k : Int) := (by omega); obtain ⟨y, hyw, hyq⟩ := srcs_at k hk; have HYW := Lib.hid hyw; clear hyw; have HL4 := Lib.hid (show LX SR g w (GQf w w1.heap.size) w1.heap.size w.heap.size E0 5 (w1.heap.size + 1) 41 7 ss v w4 by first | exact HLD.out.go sr_go HAP.out hca | exact (HLD.out.al sr_go _).go sr_go HAP.out hca); have HLA := Lib.hid (fun o => HL4.out.al sr_go o); clear hca; have hlt4 : w1.heap.size < w4.heap.size := HL4.out.kl.bk.lt; have hc4 : w4.cell? ⟨w1.heap.size, 5, none⟩ = some v := HL4.out.kl.cell (by omega); have hf4 : w4.frozen? ⟨w1.heap.size, 5, none⟩ = false := HL4.out.kl.bk.fz 5; have hca4 : ∀ o, (w4.alloc o).cell? ⟨w1.heap.size, 5, none⟩ = some v := (fun o => HL4.out.kl.cellA (by omega) o); have hfa4 : ∀ o, (w4.alloc o).frozen? ⟨w1.heap.size, 5, none⟩ = false := (fun o => HL4.out.kl.fzA 5 o); have hcb4 : ∀ o oo, ((w4.alloc o).alloc oo).cell? ⟨w1.heap.size, 5, none⟩ = some v := (fun o oo => (HLA.out o).kl.cellA (by omega) oo); have hfb4 : ∀ o oo, ((w4.alloc o).alloc oo).frozen? ⟨w1.heap.size, 5, none⟩ = false := (fun o oo => (HLA.out o).kl.fzA 5 oo); (try (have hp1 : Has w4 (w3.heap.size) k (.string ⟨y.toArray⟩) := (by first | exact (Has.new (W := w3.drew) (o := srcsO) HYW.out).go HAP.out HG3.out); have hp1a := hp1.1; have hp1b := hp1.2)); obtain ⟨cs, hown4, hpush⟩ := HL4.out.kl.row.cells; have HPU := Lib.hid hpush; clear hpush))
        all_goals (go_wp2_with fail)
        all_goals refine ⟨⟨j, ss ++ [⟨true, y, .node 0 [] [] 0 []⟩], _, by go_num, by simp; omega, HP5.out⟩, by simp [intOf]⟩
      · have z1 : ((q : Int) == 1) = false := by rw [beq_eq_false_iff_ne]; omega
        go_wp2_with fail
        go_region_law (first
          | (refine step_append_lies _ (by rfl) _ _ _ (by rfl) (w1.heap.size + 1) 41 i0 (.agg #[.bool false, .string ⟨#[]⟩, .int .i64 0, .string ⟨#[]⟩, .string ⟨#[]⟩, .int .i64 0, .slice none 0 0]) 7 96 Try.underlying25 hi hz0 hz1 hz2 rfl (by decide) _ _ _ (by rfl) (hown4.alloc _) ⟨w4.heap.size, 0, none⟩ 1 1 [.bool false, .string ⟨#[]⟩, .int .i64 op1, .string ⟨nm1.toArray⟩, .string ⟨tx1.toArray⟩, .int .i64 num1, .slice a1 kk.length c1] (by rfl) rfl (World.news_of_block (heap_alloc_new w4 _)) (stage_one false [] _ _ _ _ _ _ _) (by omega) (by unfold maxLen; omega) (by omega) (Nat.le_trans HL4.out.kl.BW (by simp)) _ rfl ?_; intro g' cap' w5 hown5 hgrow5 hat5 hlt5; obtain ⟨hP5, hc5, hf5⟩ := HL4.out.push (by omega) hgrow5 hat5 rfl cs hown4 HPU.out sr_go ⟨false, [], t1⟩ _ rfl HSR.out (by omega) hown5; have HP5 := Lib.hid hP5; clear hP5 hown5 hgrow5)
          | (go_simp; go_at_call 14; refine (HT1.out g _ HLD.out.gd.codes).mono ?_; rintro e w4 ⟨x, t1, rfl, hT, hg4, _⟩; have HL4 := Lib.hid (HLD.out.go sr_go hg4.ap hg4.codes); have hc4 : w4.cell? ⟨w1.heap.size, 5, none⟩ = some v := HL4.out.kl.cell (by omega); have hf4 : w4.frozen? ⟨w1.heap.size, 5, none⟩ = false := HL4.out.kl.bk.fz 5; have hca4 : ∀ o, (w4.alloc o).cell? ⟨w1.heap.size, 5, none⟩ = some v := (fun o => HL4.out.kl.cellA (by omega) o); have hfa4 : ∀ o, (w4.alloc o).frozen? ⟨w1.heap.size, 5, none⟩ = false := (fun o => HL4.out.kl.fzA 5 o); obtain ⟨op1, nm1, tx1, num1, kk, a1, c1, rfl, _⟩ := hT.open; obtain ⟨cs, hown4, hpush⟩ := HL4.out.kl.row.cells; have HPU := Lib.hid hpush; have HSR : Hid (SR (FF (GQf w w1.heap.size) v) w4 ⟨false, [], t1⟩ [.bool false, .string ⟨#[]⟩, .int .i64 op1, .string ⟨nm1.toArray⟩, .string ⟨tx1.toArray⟩, .int .i64 num1, .slice a1 kk.length c1]) := Lib.hid ⟨_, rfl, lx_new HLD.out hT⟩; clear hpush hT hg4))
        all_goals (go_wp2_with fail)
        all_goals refine ⟨⟨j, ss ++ [⟨false, [], t1⟩], _, by go_num, by simp; omega, HP5.out⟩, by simp [intOf]⟩

end Go.Proofs.Ytmcnhphmglmmeaa

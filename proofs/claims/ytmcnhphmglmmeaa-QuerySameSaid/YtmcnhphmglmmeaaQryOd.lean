/-
  The list of choices changes one thing of a query.
-/
import Derived.Test.YtmcnhphmglmmeaaQryOr
import Derived.Deep.DrawnRows
namespace Go.Proofs.Ytmcnhphmglmmeaa
open Go.RowKit

attribute [local go_sem ↓] Go.wp_at_zero Go.wp_at_succ

set_option maxRecDepth 100000 in
set_option maxHeartbeats 40000000 in
theorem dodd_aux (HTEST : ∀ (g : Nat) (w : World), CodesAt w g → Calls Try.prog 14 #[.pointer (some ⟨g, 0, none⟩), .int .i64 1] w (TP g w)) (g : Nat) (w0 w : World) (h0 : GD g w0 w) (op : Int) (nm tx : List UInt8) (num : Int) (a : Option Addr) (n c : Nat) (sa : Option Addr) (sn sc : Nat) (kd lm : Int) (ls : Bool) (na : Option Addr) (nn nc : Nat) (ga : Option Addr) (gn gc : Nat) (sk : Int) (oop : Int) (onm otx : List UInt8) (onum : Int) (oa : Option Addr) (on oc : Nat) (ky : List UInt8) (wi : Int)
    (hx : QX (fun k => w0.heap.size ≤ k) w (xE op nm tx num a n c sa sn sc kd lm ls na nn nc ga gn gc sk oop onm otx onum oa on oc ky wi)) (hs : Small (xE op nm tx num a n c sa sn sc kd lm ls na nn nc ga gn gc sk oop onm otx onum oa on oc ky wi)) : Calls Try.prog 8 #[.pointer (some ⟨g, 0, none⟩), .agg (qVal op nm tx num a n c sa sn sc kd lm ls na nn nc ga gn gc sk oop onm otx onum oa on oc ky wi)] w (OPost g w0 w (xE op nm tx num a n c sa sn sc kd lm ls na nn nc ga gn gc sk oop onm otx onum oa on oc ky wi)) := by
  have HTE := Lib.hid HTEST
  have H0 := Lib.hid h0
  have HX := Lib.hid hx
  have HSM := Lib.hid (small_iff.1 hs)
  have HP0 := Lib.hid (o_start h0.codes (hx.go (F' := fun k => k ≠ g) ⟨Nat.le_refl _, fun k hk _ => ⟨by have := h0.hg; omega, rfl⟩⟩))
  have hne : w.heap.size + 1 ≠ w.heap.size := by omega
  clear h0 hx hs HTEST
  unfold qVal
  go_enter Try.func8, Try.ntmps8
  go_wp2_with fail
  refine (next_any g 14 _ HP0.out.gd.codes (by omega) (by omega)).mono ?_
  rintro e w1 ⟨q, hq, rfl, hca, hap⟩
  have HP := Lib.hid (HP0.out.go hap hca)
  clear hca hap HP0
  rcases (show q = 0 ∨ q = 1 ∨ q = 2 ∨ q = 3 ∨ q = 4 ∨ q = 5 ∨ q = 6 ∨ q = 7 ∨ q = 8 ∨ q = 9 ∨ q = 10 ∨ q = 11 ∨ q = 12 ∨ q = 13 by omega) with rfl | rfl | rfl | rfl | rfl | rfl | rfl | rfl | rfl | rfl | rfl | rfl | rfl | rfl
  · go_wp2_with fail
    refine (dint_any g _ HP.out.gd.codes).mono ?_
    rintro e w2 ⟨i, rfl, hg2⟩
    have HP2 := Lib.hid (HP.out.go hg2.ap hg2.codes)
    clear hg2
    have k6 : w2.cell? ⟨w.heap.size, 6, none⟩ = some (.int .i64 kd) := HP2.out.bk.ev 6 (by omega)
    have f6 : w2.frozen? ⟨w.heap.size, 6, none⟩ = false := HP2.out.bk.fz 6
    have hld : ∀ (v : Int), (load19 ⟨w.heap.size, 0, none⟩).run Try.prog (w2.setCell ⟨w.heap.size, 6, none⟩ (.int .i64 v)) = .ok #[.int .i64 op, .string ⟨nm.toArray⟩, .string ⟨tx.toArray⟩, .int .i64 num, .slice a n c, .slice sa sn sc, .int .i64 v, .int .i64 lm, .bool ls, .slice na nn nc, .slice ga gn gc, .int .i64 sk, .int .i64 oop, .string ⟨onm.toArray⟩, .string ⟨otx.toArray⟩, .int .i64 onum, .slice oa on oc, .string ⟨ky.toArray⟩, .int .i64 wi] (w2.setCell ⟨w.heap.size, 6, none⟩ (.int .i64 v)) := fun v => run_load19 (RQ.cong (E' := (xE op nm tx num a n c sa sn sc v lm ls na nn nc ga gn gc sk oop onm otx onum oa on oc ky wi)) (HP2.out.s6 v) (below19 rfl rfl rfl rfl rfl rfl rfl rfl rfl rfl rfl rfl rfl rfl rfl rfl rfl rfl rfl)).bk
    have hrb : ∀ v, BK (w.heap.size + 1) 19 zE (w2.setCell ⟨w.heap.size, 6, none⟩ v) := fun v => HP2.out.rb.other hne 6 v
    go_wp2_with fail
    refine o_ret H0.out HX.out (RQ.cong (E' := (xE op nm tx num a n c sa sn sc i lm ls na nn nc ga gn gc sk oop onm otx onum oa on oc ky wi)) (HP2.out.s6 i) (below19 rfl rfl rfl rfl rfl rfl rfl rfl rfl rfl rfl rfl rfl rfl rfl rfl rfl rfl rfl)) _ _ rfl ?_
    rfl
  · go_wp2_with fail
    refine (dint_any g _ HP.out.gd.codes).mono ?_
    rintro e w2 ⟨i, rfl, hg2⟩
    have HP2 := Lib.hid (HP.out.go hg2.ap hg2.codes)
    clear hg2
    have k7 : w2.cell? ⟨w.heap.size, 7, none⟩ = some (.int .i64 lm) := HP2.out.bk.ev 7 (by omega)
    have f7 : w2.frozen? ⟨w.heap.size, 7, none⟩ = false := HP2.out.bk.fz 7
    have hld : ∀ (v : Int), (load19 ⟨w.heap.size, 0, none⟩).run Try.prog (w2.setCell ⟨w.heap.size, 7, none⟩ (.int .i64 v)) = .ok #[.int .i64 op, .string ⟨nm.toArray⟩, .string ⟨tx.toArray⟩, .int .i64 num, .slice a n c, .slice sa sn sc, .int .i64 kd, .int .i64 v, .bool ls, .slice na nn nc, .slice ga gn gc, .int .i64 sk, .int .i64 oop, .string ⟨onm.toArray⟩, .string ⟨otx.toArray⟩, .int .i64 onum, .slice oa on oc, .string ⟨ky.toArray⟩, .int .i64 wi] (w2.setCell ⟨w.heap.size, 7, none⟩ (.int .i64 v)) := fun v => run_load19 (RQ.cong (E' := (xE op nm tx num a n c sa sn sc kd v ls na nn nc ga gn gc sk oop onm otx onum oa on oc ky wi)) (HP2.out.s7 v) (below19 rfl rfl rfl rfl rfl rfl rfl rfl rfl rfl rfl rfl rfl rfl rfl rfl rfl rfl rfl)).bk
    have hrb : ∀ v, BK (w.heap.size + 1) 19 zE (w2.setCell ⟨w.heap.size, 7, none⟩ v) := fun v => HP2.out.rb.other hne 7 v
    go_wp2_with fail
    refine o_ret H0.out HX.out (RQ.cong (E' := (xE op nm tx num a n c sa sn sc kd i ls na nn nc ga gn gc sk oop onm otx onum oa on oc ky wi)) (HP2.out.s7 i) (below19 rfl rfl rfl rfl rfl rfl rfl rfl rfl rfl rfl rfl rfl rfl rfl rfl rfl rfl rfl)) _ _ rfl ?_
    rfl
  · go_wp2_with fail
    refine (dint_any g _ HP.out.gd.codes).mono ?_
    rintro e w2 ⟨i, rfl, hg2⟩
    have HP2 := Lib.hid (HP.out.go hg2.ap hg2.codes)
    clear hg2
    have k18 : w2.cell? ⟨w.heap.size, 18, none⟩ = some (.int .i64 wi) := HP2.out.bk.ev 18 (by omega)
    have f18 : w2.frozen? ⟨w.heap.size, 18, none⟩ = false := HP2.out.bk.fz 18
    have hld : ∀ (v : Int), (load19 ⟨w.heap.size, 0, none⟩).run Try.prog (w2.setCell ⟨w.heap.size, 18, none⟩ (.int .i64 v)) = .ok #[.int .i64 op, .string ⟨nm.toArray⟩, .string ⟨tx.toArray⟩, .int .i64 num, .slice a n c, .slice sa sn sc, .int .i64 kd, .int .i64 lm, .bool ls, .slice na nn nc, .slice ga gn gc, .int .i64 sk, .int .i64 oop, .string ⟨onm.toArray⟩, .string ⟨otx.toArray⟩, .int .i64 onum, .slice oa on oc, .string ⟨ky.toArray⟩, .int .i64 v] (w2.setCell ⟨w.heap.size, 18, none⟩ (.int .i64 v)) := fun v => run_load19 (RQ.cong (E' := (xE op nm tx num a n c sa sn sc kd lm ls na nn nc ga gn gc sk oop onm otx onum oa on oc ky v)) (HP2.out.s18 v) (below19 rfl rfl rfl rfl rfl rfl rfl rfl rfl rfl rfl rfl rfl rfl rfl rfl rfl rfl rfl)).bk
    have hrb : ∀ v, BK (w.heap.size + 1) 19 zE (w2.setCell ⟨w.heap.size, 18, none⟩ v) := fun v => HP2.out.rb.other hne 18 v
    go_wp2_with fail
    refine o_ret H0.out HX.out (RQ.cong (E' := (xE op nm tx num a n c sa sn sc kd lm ls na nn nc ga gn gc sk oop onm otx onum oa on oc ky i)) (HP2.out.s18 i) (below19 rfl rfl rfl rfl rfl rfl rfl rfl rfl rfl rfl rfl rfl rfl rfl rfl rfl rfl rfl)) _ _ rfl ?_
    rfl
  · go_wp2_with fail
    refine (dint_any g _ HP.out.gd.codes).mono ?_
    rintro e w2 ⟨i, rfl, hg2⟩
    have HP2 := Lib.hid (HP.out.go hg2.ap hg2.codes)
    clear hg2
    have k11 : w2.cell? ⟨w.heap.size, 11, none⟩ = some (.int .i64 sk) := HP2.out.bk.ev 11 (by omega)
    have f11 : w2.frozen? ⟨w.heap.size, 11, none⟩ = false := HP2.out.bk.fz 11
    have hld : ∀ (v : Int), (load19 ⟨w.heap.size, 0, none⟩).run Try.prog (w2.setCell ⟨w.heap.size, 11, none⟩ (.int .i64 v)) = .ok #[.int .i64 op, .string ⟨nm.toArray⟩, .string ⟨tx.toArray⟩, .int .i64 num, .slice a n c, .slice sa sn sc, .int .i64 kd, .int .i64 lm, .bool ls, .slice na nn nc, .slice ga gn gc, .int .i64 v, .int .i64 oop, .string ⟨onm.toArray⟩, .string ⟨otx.toArray⟩, .int .i64 onum, .slice oa on oc, .string ⟨ky.toArray⟩, .int .i64 wi] (w2.setCell ⟨w.heap.size, 11, none⟩ (.int .i64 v)) := fun v => run_load19 (RQ.cong (E' := (xE op nm tx num a n c sa sn sc kd lm ls na nn nc ga gn gc v oop onm otx onum oa on oc ky wi)) (HP2.out.s11 v) (below19 rfl rfl rfl rfl rfl rfl rfl rfl rfl rfl rfl rfl rfl rfl rfl rfl rfl rfl rfl)).bk
    have hrb : ∀ v, BK (w.heap.size + 1) 19 zE (w2.setCell ⟨w.heap.size, 11, none⟩ v) := fun v => HP2.out.rb.other hne 11 v
    go_wp2_with fail
    refine o_ret H0.out HX.out (RQ.cong (E' := (xE op nm tx num a n c sa sn sc kd lm ls na nn nc ga gn gc i oop onm otx onum oa on oc ky wi)) (HP2.out.s11 i) (below19 rfl rfl rfl rfl rfl rfl rfl rfl rfl rfl rfl rfl rfl rfl rfl rfl rfl rfl rfl)) _ _ rfl ?_
    rfl
  · have hsz : w.heap.size + 2 ≤ w1.heap.size := HP.out.rb.lt
    have HS := Lib.hid HP.out.shut
    have HOL : Hid (∀ j, (Value.slice sa sn sc).ownBlock = some j → j < w1.heap.size) := Lib.hid (fun j hj => HP.out.qe.lt hj)
    have hgw : g < w.heap.size := HP.out.gd.hg
    obtain ⟨rows, hrows⟩ := HP.out.qe.ns
    have HRS : Hid (RW (FF (GO g w) (.slice sa sn sc)) 1 NR w1 rows (.slice na nn nc)) := Lib.hid hrows
    have hrl : rows.length ≤ 1000 := by
      have h := HRS.out.len
      have h2 := HSM.out
      change nn = _ at h
      omega
    clear hrows
    have p9 : w1.cell? ⟨w.heap.size, 9, none⟩ = some (.slice na nn nc) := HP.out.bk.ev 9 (by omega)
    go_wp2_with (at_builtin; refine wpList_append_row rfl _ _ 26 9 (.string ⟨#[]⟩) 1 16 rfl Try.underlying26 infoStr rfl (by decide) w1.heap.size rfl rfl HRS.out nr_one (by omega) (Nat.le_refl _) ?_; intro v2 w2 hor2 hgr2; have HB2 := Lib.hid ((Below.refl w1.heap.size w1).grown hgr2 (Nat.le_refl _) (fun k hk => by cases hk)); have HS2 := Lib.hid (HS.out.onB HB2.out (fun k hk => hk.2) (by omega) (by omega) (by omega)); have HO2 := Lib.hid (hor2.keep (W' := w2) (R' := NR) (fun _ _ _ => rfl) (fun _ _ h => h)); clear hor2 hgr2)
    have HLE2 : Hid (w1.heap.size ≤ w2.heap.size) := Lib.hid HB2.out.size
    clear p9 HRS HS HB2
    have HS2a := Lib.hid (HS2.out.al namsO)
    refine (next_any g 5 _ HS2a.out.gd.codes (by omega) (by omega)).mono ?_
    rintro e w3 ⟨k, hk, rfl, hca, hap⟩
    obtain ⟨y, hyw, _⟩ := nams_at k hk
    have hgs : g < w2.heap.size := HS2.out.gd.codes.1
    have hy3 := ((Has.new (W := w2) (o := namsO) hyw).go hap hgs).2
    have hik : (k : Int) < 5 := by omega
    have hjk : (0 : Int) ≤ (k : Int) := by omega
    have HO3 := Lib.hid (HO2.out.keep (W' := w3) (R' := NR) (fun j h1 h2 => (hap.block (by omega) (by simp; omega)).trans (((Below.refl _ w2).alloc (Nat.le_refl _) namsO).block j h2)) (fun _ _ h => h))
    have HS3 := Lib.hid (HS2a.out.go hap hca)
    have HLE3 : Hid (w1.heap.size ≤ w3.heap.size) := Lib.hid (Nat.le_trans HLE2.out (Nat.le_trans (by simp) hap.1.size))
    clear hca hap hyw HS2 HO2 HLE2 HS2a hgs
    obtain ⟨cs, hown, hpush⟩ := HO3.out.cells
    have HPU := Lib.hid hpush
    clear hpush
    go_wp2_with (at_builtin; refine wpList_append_k rfl _ _ 26 9 (.string ⟨#[]⟩) 1 16 rfl Try.underlying26 infoStr rfl (by decide) w1.heap.size _ rows.length cs rfl hown [.string ⟨y.toArray⟩] rfl _ rfl rfl (str_one y) (by omega) (by omega) HLE3.out ?_; intro v9 w9 hown9 hgr9; have HB9 := Lib.hid (push_below hgr9 hown HLE3.out); have HS9 := Lib.hid (HS3.out.onB HB9.out (fun k hk => hk.2) (by omega) (by omega) (by omega)); have HO9 := Lib.hid (HPU.out NR w9 y _ v9 (fun _ _ h => h) rfl rfl (by omega) hown9); obtain ⟨g9, c9, rfl, _, _⟩ := hown9.form (by omega); have HPE := Lib.hid (RQ.cong (E' := (xE op nm tx num a n c sa sn sc kd lm ls (some ⟨g9, 0, none⟩) (rows.length + 1) c9 ga gn gc sk oop onm otx onum oa on oc ky wi)) ((HS9.out.wide (G' := GO g w) (fun k hk => hk.1) (fun k hk => hk)).s9 (HO9.out.rw (F := (FF (GO g w) (.slice sa sn sc))) (fun k hk => ⟨⟨by omega, by omega, by omega⟩, fun e => by have := HOL.out k e; omega⟩))) (below19 rfl rfl rfl rfl rfl rfl rfl rfl rfl rfl rfl rfl rfl rfl rfl rfl rfl rfl rfl)); have hrb := HPE.out.rb; have p9 : w9.cell? ⟨w.heap.size, 9, none⟩ = some (.slice na nn nc) := HS9.out.bk.ev 9 (by omega); have f9 : w9.frozen? ⟨w.heap.size, 9, none⟩ = false := HS9.out.bk.fz 9; have hld : (load19 ⟨w.heap.size, 0, none⟩).run Try.prog (w9.setCell ⟨w.heap.size, 9, none⟩ (.slice (some ⟨g9, 0, none⟩) (rows.length + 1) c9)) = .ok #[.int .i64 op, .string ⟨nm.toArray⟩, .string ⟨tx.toArray⟩, .int .i64 num, .slice a n c, .slice sa sn sc, .int .i64 kd, .int .i64 lm, .bool ls, .slice (some ⟨g9, 0, none⟩) (rows.length + 1) c9, .slice ga gn gc, .int .i64 sk, .int .i64 oop, .string ⟨onm.toArray⟩, .string ⟨otx.toArray⟩, .int .i64 onum, .slice oa on oc, .string ⟨ky.toArray⟩, .int .i64 wi] (w9.setCell ⟨w.heap.size, 9, none⟩ (.slice (some ⟨g9, 0, none⟩) (rows.length + 1) c9)) := run_load19 HPE.out.bk; clear hown9 hgr9)
    refine o_ret H0.out HX.out HPE.out _ _ rfl ?_
    rfl
  · have hsz : w.heap.size + 2 ≤ w1.heap.size := HP.out.rb.lt
    have HS := Lib.hid HP.out.shut
    have HOL : Hid (∀ j, (Value.slice sa sn sc).ownBlock = some j → j < w1.heap.size) := Lib.hid (fun j hj => HP.out.qe.lt hj)
    have hgw : g < w.heap.size := HP.out.gd.hg
    obtain ⟨rows, hrows⟩ := HP.out.qe.gs
    have HRS : Hid (RW (FF (GO g w) (.slice sa sn sc)) 2 GR w1 rows (.slice ga gn gc)) := Lib.hid hrows
    have hrl : rows.length ≤ 1000 := by
      have h := HRS.out.len
      have h2 := HSM.out
      change gn = _ at h
      omega
    clear hrows
    have p10 : w1.cell? ⟨w.heap.size, 10, none⟩ = some (.slice ga gn gc) := HP.out.bk.ev 10 (by omega)
    go_wp2_with (at_builtin; refine wpList_append_row rfl _ _ 27 48 (.agg #[.int .i64 0, .string ⟨#[]⟩]) 2 24 rfl Try.underlying27 infoG rfl (by decide) w1.heap.size rfl rfl HRS.out gr_one (by omega) (Nat.le_refl _) ?_; intro v2 w2 hor2 hgr2; have HB2 := Lib.hid ((Below.refl w1.heap.size w1).grown hgr2 (Nat.le_refl _) (fun k hk => by cases hk)); have HS2 := Lib.hid (HS.out.onB HB2.out (fun k hk => hk.2) (by omega) (by omega) (by omega)); have HO2 := Lib.hid (hor2.keep (W' := w2) (R' := GR) (fun _ _ _ => rfl) (fun _ _ h => h)); clear hor2 hgr2)
    have HLE2 : Hid (w1.heap.size ≤ w2.heap.size) := Lib.hid HB2.out.size
    clear p10 HRS HS HB2
    refine (next_any g 7 _ HS2.out.gd.codes (by omega) (by omega)).mono ?_
    rintro e w3 ⟨m, hm, rfl, hca, hap⟩
    have HO3 := Lib.hid (HO2.out.keep (W' := w3) (R' := GR) (fun j h1 h2 => hap.block (by omega) h2) (fun _ _ h => h))
    have HS3 := Lib.hid (HS2.out.go hap hca)
    have HLE3 : Hid (w1.heap.size ≤ w3.heap.size) := Lib.hid (Nat.le_trans HLE2.out (Nat.le_trans (by simp) hap.1.size))
    clear hca hap HS2 HO2 HLE2
    go_wp2_with fail
    have HS3a := Lib.hid (HS3.out.al agnsO)
    refine (next_any g 3 _ HS3a.out.gd.codes (by omega) (by omega)).mono ?_
    rintro e w4 ⟨k, hk, rfl, hca, hap⟩
    obtain ⟨y, hyw, _⟩ := agns_at k hk
    have hgs : g < w3.heap.size := HS3.out.gd.codes.1
    have hy4 := ((Has.new (W := w3) (o := agnsO) hyw).go hap hgs).2
    have hik : (k : Int) < 3 := by omega
    have hjk : (0 : Int) ≤ (k : Int) := by omega
    have HO4 := Lib.hid (HO3.out.keep (W' := w4) (R' := GR) (fun j h1 h2 => (hap.block (by omega) (by simp; omega)).trans (((Below.refl _ w3).alloc (Nat.le_refl _) agnsO).block j h2)) (fun _ _ h => h))
    have HS4 := Lib.hid (HS3a.out.go hap hca)
    have HLE4 : Hid (w1.heap.size ≤ w4.heap.size) := Lib.hid (Nat.le_trans HLE3.out (Nat.le_trans (by simp) hap.1.size))
    clear hca hap hyw HS3 HO3 HLE3 HS3a hgs
    obtain ⟨cs, hown, hpush⟩ := HO4.out.cells
    have HPU := Lib.hid hpush
    clear hpush
    go_wp2_with (at_builtin; refine wpList_append_k rfl _ _ 27 48 (.agg #[.int .i64 0, .string ⟨#[]⟩]) 2 24 rfl Try.underlying27 infoG rfl (by decide) w1.heap.size _ rows.length cs rfl hown [.int .i64 _, .string ⟨y.toArray⟩] rfl _ rfl rfl (agg_one _ y) (by omega) (by omega) HLE4.out ?_; intro v9 w9 hown9 hgr9; have HB9 := Lib.hid (push_below hgr9 hown HLE4.out); have HS9 := Lib.hid (HS4.out.onB HB9.out (fun k hk => hk.2) (by omega) (by omega) (by omega)); have HO9 := Lib.hid (HPU.out GR w9 (_, y) _ v9 (fun _ _ h => h) rfl rfl (by omega) hown9); obtain ⟨g9, c9, rfl, _, _⟩ := hown9.form (by omega); have HPE := Lib.hid (RQ.cong (E' := (xE op nm tx num a n c sa sn sc kd lm ls na nn nc (some ⟨g9, 0, none⟩) (rows.length + 1) c9 sk oop onm otx onum oa on oc ky wi)) ((HS9.out.wide (G' := GO g w) (fun k hk => hk.1) (fun k hk => hk)).s10 (HO9.out.rw (F := (FF (GO g w) (.slice sa sn sc))) (fun k hk => ⟨⟨by omega, by omega, by omega⟩, fun e => by have := HOL.out k e; omega⟩))) (below19 rfl rfl rfl rfl rfl rfl rfl rfl rfl rfl rfl rfl rfl rfl rfl rfl rfl rfl rfl)); have hrb := HPE.out.rb; have p10 : w9.cell? ⟨w.heap.size, 10, none⟩ = some (.slice ga gn gc) := HS9.out.bk.ev 10 (by omega); have f10 : w9.frozen? ⟨w.heap.size, 10, none⟩ = false := HS9.out.bk.fz 10; have hld : (load19 ⟨w.heap.size, 0, none⟩).run Try.prog (w9.setCell ⟨w.heap.size, 10, none⟩ (.slice (some ⟨g9, 0, none⟩) (rows.length + 1) c9)) = .ok #[.int .i64 op, .string ⟨nm.toArray⟩, .string ⟨tx.toArray⟩, .int .i64 num, .slice a n c, .slice sa sn sc, .int .i64 kd, .int .i64 lm, .bool ls, .slice na nn nc, .slice (some ⟨g9, 0, none⟩) (rows.length + 1) c9, .int .i64 sk, .int .i64 oop, .string ⟨onm.toArray⟩, .string ⟨otx.toArray⟩, .int .i64 onum, .slice oa on oc, .string ⟨ky.toArray⟩, .int .i64 wi] (w9.setCell ⟨w.heap.size, 10, none⟩ (.slice (some ⟨g9, 0, none⟩) (rows.length + 1) c9)) := run_load19 HPE.out.bk; clear hown9 hgr9)
    refine o_ret H0.out HX.out HPE.out _ _ rfl ?_
    rfl
  · have hsz : w.heap.size + 2 ≤ w1.heap.size := HP.out.rb.lt
    have p0 : w1.cell? ⟨w.heap.size, 0, none⟩ = some (.int .i64 op) := HP.out.bk.ev 0 (by omega)
    have p1 : w1.cell? ⟨w.heap.size, 1, none⟩ = some (.string ⟨nm.toArray⟩) := HP.out.bk.ev 1 (by omega)
    have p2 : w1.cell? ⟨w.heap.size, 2, none⟩ = some (.string ⟨tx.toArray⟩) := HP.out.bk.ev 2 (by omega)
    have p3 : w1.cell? ⟨w.heap.size, 3, none⟩ = some (.int .i64 num) := HP.out.bk.ev 3 (by omega)
    have p4 : w1.cell? ⟨w.heap.size, 4, none⟩ = some (.slice a n c) := HP.out.bk.ev 4 (by omega)
    obtain ⟨t1, ht1⟩ := HP.out.qe.t
    have HT1 : Hid (TG (FF (GO g w) (.slice sa sn sc)) w1 t1 (.agg #[.int .i64 op, .string ⟨nm.toArray⟩, .string ⟨tx.toArray⟩, .int .i64 num, .slice a n c])) := Lib.hid ht1
    clear ht1
    go_wp2_with fail
    refine (dwrong_any (FF (GO g w) (.slice sa sn sc)) g w1 (fun k hk => hk.1.1) HP.out.gd.codes _ t1 HT1.out (by have := HSM.out; show n ≤ 1000; omega)).mono ?_
    rintro e w2 ⟨v2, t2, rfl, hT, hg2⟩
    have HP2 := Lib.hid (HP.out.go hg2.ap hg2.codes)
    have HT2 := Lib.hid (TG.go (F' := (FF (GO g w) (.slice sa sn sc))) ⟨Nat.le_refl _, fun k hk _ => ⟨hk.elim id (fun h => ⟨⟨by have := HP.out.gd.hg; omega, by omega, by omega⟩, fun e => by have := HP.out.qe.lt (j := k) e; omega⟩), rfl⟩⟩ _ _ hT)
    obtain ⟨op2, nm2, tx2, num2, kk, a2, c2, rfl, _⟩ := HT2.out.open
    clear hT hg2 p0 p1 p2 p3 p4
    have k0 : w2.cell? ⟨w.heap.size, 0, none⟩ = some (.int .i64 op) := HP2.out.bk.ev 0 (by omega)
    have k1 : w2.cell? ⟨w.heap.size, 1, none⟩ = some (.string ⟨nm.toArray⟩) := HP2.out.bk.ev 1 (by omega)
    have k2 : w2.cell? ⟨w.heap.size, 2, none⟩ = some (.string ⟨tx.toArray⟩) := HP2.out.bk.ev 2 (by omega)
    have k3 : w2.cell? ⟨w.heap.size, 3, none⟩ = some (.int .i64 num) := HP2.out.bk.ev 3 (by omega)
    have k4 : w2.cell? ⟨w.heap.size, 4, none⟩ = some (.slice a n c) := HP2.out.bk.ev 4 (by omega)
    have f0 : w2.frozen? ⟨w.heap.size, 0, none⟩ = false := HP2.out.bk.fz 0
    have f1 : w2.frozen? ⟨w.heap.size, 1, none⟩ = false := HP2.out.bk.fz 1
    have f2 : w2.frozen? ⟨w.heap.size, 2, none⟩ = false := HP2.out.bk.fz 2
    have f3 : w2.frozen? ⟨w.heap.size, 3, none⟩ = false := HP2.out.bk.fz 3
    have f4 : w2.frozen? ⟨w.heap.size, 4, none⟩ = false := HP2.out.bk.fz 4
    have HP3 := Lib.hid (RQ.cong (E' := (xE op2 nm2 tx2 num2 a2 (kk.length) c2 sa sn sc kd lm ls na nn nc ga gn gc sk oop onm otx onum oa on oc ky wi)) (HP2.out.five 0 (by omega) [.int .i64 op2, .string ⟨nm2.toArray⟩, .string ⟨tx2.toArray⟩, .int .i64 num2, .slice a2 kk.length c2] rfl (QX.cong (E' := (fun j => if 0 ≤ j ∧ j < 0 + 5 then ([.int .i64 op2, .string ⟨nm2.toArray⟩, .string ⟨tx2.toArray⟩, .int .i64 num2, .slice a2 kk.length c2] : List Value)[j - 0]! else (xE op nm tx num a n c sa sn sc kd lm ls na nn nc ga gn gc sk oop onm otx onum oa on oc ky wi) j)) (HP2.out.qe.sT ⟨t2, HT2.out⟩) (below19 rfl rfl rfl rfl rfl rfl rfl rfl rfl rfl rfl rfl rfl rfl rfl rfl rfl rfl rfl))) (below19 rfl rfl rfl rfl rfl rfl rfl rfl rfl rfl rfl rfl rfl rfl rfl rfl rfl rfl rfl))
    have hrb := HP3.out.rb
    have hld : (load19 ⟨w.heap.size, 0, none⟩).run Try.prog (setL w2 w.heap.size [.int .i64 op2, .string ⟨nm2.toArray⟩, .string ⟨tx2.toArray⟩, .int .i64 num2, .slice a2 kk.length c2] 0) = .ok #[.int .i64 op2, .string ⟨nm2.toArray⟩, .string ⟨tx2.toArray⟩, .int .i64 num2, .slice a2 kk.length c2, .slice sa sn sc, .int .i64 kd, .int .i64 lm, .bool ls, .slice na nn nc, .slice ga gn gc, .int .i64 sk, .int .i64 oop, .string ⟨onm.toArray⟩, .string ⟨otx.toArray⟩, .int .i64 onum, .slice oa on oc, .string ⟨ky.toArray⟩, .int .i64 wi] (setL w2 w.heap.size [.int .i64 op2, .string ⟨nm2.toArray⟩, .string ⟨tx2.toArray⟩, .int .i64 num2, .slice a2 kk.length c2] 0) := run_load19 HP3.out.bk
    simp only [setL] at hrb hld
    go_wp2_with fail
    refine o_ret H0.out HX.out HP3.out _ _ rfl ?_
    rfl
  · have hsz : w.heap.size + 2 ≤ w1.heap.size := HP.out.rb.lt
    have p12 : w1.cell? ⟨w.heap.size, 12, none⟩ = some (.int .i64 oop) := HP.out.bk.ev 12 (by omega)
    have p13 : w1.cell? ⟨w.heap.size, 13, none⟩ = some (.string ⟨onm.toArray⟩) := HP.out.bk.ev 13 (by omega)
    have p14 : w1.cell? ⟨w.heap.size, 14, none⟩ = some (.string ⟨otx.toArray⟩) := HP.out.bk.ev 14 (by omega)
    have p15 : w1.cell? ⟨w.heap.size, 15, none⟩ = some (.int .i64 onum) := HP.out.bk.ev 15 (by omega)
    have p16 : w1.cell? ⟨w.heap.size, 16, none⟩ = some (.slice oa on oc) := HP.out.bk.ev 16 (by omega)
    obtain ⟨t1, ht1⟩ := HP.out.qe.o
    have HT1 : Hid (TG (FF (GO g w) (.slice sa sn sc)) w1 t1 (.agg #[.int .i64 oop, .string ⟨onm.toArray⟩, .string ⟨otx.toArray⟩, .int .i64 onum, .slice oa on oc])) := Lib.hid ht1
    clear ht1
    go_wp2_with fail
    refine (dwrong_any (FF (GO g w) (.slice sa sn sc)) g w1 (fun k hk => hk.1.1) HP.out.gd.codes _ t1 HT1.out (by have := HSM.out; show on ≤ 1000; omega)).mono ?_
    rintro e w2 ⟨v2, t2, rfl, hT, hg2⟩
    have HP2 := Lib.hid (HP.out.go hg2.ap hg2.codes)
    have HT2 := Lib.hid (TG.go (F' := (FF (GO g w) (.slice sa sn sc))) ⟨Nat.le_refl _, fun k hk _ => ⟨hk.elim id (fun h => ⟨⟨by have := HP.out.gd.hg; omega, by omega, by omega⟩, fun e => by have := HP.out.qe.lt (j := k) e; omega⟩), rfl⟩⟩ _ _ hT)
    obtain ⟨op2, nm2, tx2, num2, kk, a2, c2, rfl, _⟩ := HT2.out.open
    clear hT hg2 p12 p13 p14 p15 p16
    have k12 : w2.cell? ⟨w.heap.size, 12, none⟩ = some (.int .i64 oop) := HP2.out.bk.ev 12 (by omega)
    have k13 : w2.cell? ⟨w.heap.size, 13, none⟩ = some (.string ⟨onm.toArray⟩) := HP2.out.bk.ev 13 (by omega)
    have k14 : w2.cell? ⟨w.heap.size, 14, none⟩ = some (.string ⟨otx.toArray⟩) := HP2.out.bk.ev 14 (by omega)
    have k15 : w2.cell? ⟨w.heap.size, 15, none⟩ = some (.int .i64 onum) := HP2.out.bk.ev 15 (by omega)
    have k16 : w2.cell? ⟨w.heap.size, 16, none⟩ = some (.slice oa on oc) := HP2.out.bk.ev 16 (by omega)
    have f12 : w2.frozen? ⟨w.heap.size, 12, none⟩ = false := HP2.out.bk.fz 12
    have f13 : w2.frozen? ⟨w.heap.size, 13, none⟩ = false := HP2.out.bk.fz 13
    have f14 : w2.frozen? ⟨w.heap.size, 14, none⟩ = false := HP2.out.bk.fz 14
    have f15 : w2.frozen? ⟨w.heap.size, 15, none⟩ = false := HP2.out.bk.fz 15
    have f16 : w2.frozen? ⟨w.heap.size, 16, none⟩ = false := HP2.out.bk.fz 16
    have HP3 := Lib.hid (RQ.cong (E' := (xE op nm tx num a n c sa sn sc kd lm ls na nn nc ga gn gc sk op2 nm2 tx2 num2 a2 (kk.length) c2 ky wi)) (HP2.out.five 12 (by omega) [.int .i64 op2, .string ⟨nm2.toArray⟩, .string ⟨tx2.toArray⟩, .int .i64 num2, .slice a2 kk.length c2] rfl (QX.cong (E' := (fun j => if 12 ≤ j ∧ j < 12 + 5 then ([.int .i64 op2, .string ⟨nm2.toArray⟩, .string ⟨tx2.toArray⟩, .int .i64 num2, .slice a2 kk.length c2] : List Value)[j - 12]! else (xE op nm tx num a n c sa sn sc kd lm ls na nn nc ga gn gc sk oop onm otx onum oa on oc ky wi) j)) (HP2.out.qe.sO ⟨t2, HT2.out⟩) (below19 rfl rfl rfl rfl rfl rfl rfl rfl rfl rfl rfl rfl rfl rfl rfl rfl rfl rfl rfl))) (below19 rfl rfl rfl rfl rfl rfl rfl rfl rfl rfl rfl rfl rfl rfl rfl rfl rfl rfl rfl))
    have hrb := HP3.out.rb
    have hld : (load19 ⟨w.heap.size, 0, none⟩).run Try.prog (setL w2 w.heap.size [.int .i64 op2, .string ⟨nm2.toArray⟩, .string ⟨tx2.toArray⟩, .int .i64 num2, .slice a2 kk.length c2] 12) = .ok #[.int .i64 op, .string ⟨nm.toArray⟩, .string ⟨tx.toArray⟩, .int .i64 num, .slice a n c, .slice sa sn sc, .int .i64 kd, .int .i64 lm, .bool ls, .slice na nn nc, .slice ga gn gc, .int .i64 sk, .int .i64 op2, .string ⟨nm2.toArray⟩, .string ⟨tx2.toArray⟩, .int .i64 num2, .slice a2 kk.length c2, .string ⟨ky.toArray⟩, .int .i64 wi] (setL w2 w.heap.size [.int .i64 op2, .string ⟨nm2.toArray⟩, .string ⟨tx2.toArray⟩, .int .i64 num2, .slice a2 kk.length c2] 12) := run_load19 HP3.out.bk
    simp only [setL] at hrb hld
    go_wp2_with fail
    refine o_ret H0.out HX.out HP3.out _ _ rfl ?_
    rfl
  · have hsz : w.heap.size + 2 ≤ w1.heap.size := HP.out.rb.lt
    have HS := Lib.hid HP.out.shut
    have hgw : g < w.heap.size := HP.out.gd.hg
    have hgw1 : g < w1.heap.size := by omega
    have hbw1 : w.heap.size < w1.heap.size := by omega
    have HOL : Hid (∀ j, (Value.slice sa sn sc).ownBlock = some j → j < w1.heap.size ∧ GO g w j) := Lib.hid (fun j hj => ⟨HP.out.qe.lt hj, HP.out.qe.own j hj⟩)
    obtain ⟨rows, hrows⟩ := HS.out.qe.ss
    have HRS : Hid (OR 0 41 7 (SR (FF (fun k => GO g w k ∧ k < w1.heap.size) (.slice sa sn sc)) w1) w1 rows (.slice sa sn sc)) := Lib.hid hrows
    have hrl : rows.length ≤ 1000 := by
      have h := (HRS.out.rw (F := fun _ => True) (fun _ _ => trivial)).len
      have h2 := HSM.out
      change sn = _ at h
      omega
    clear hrows
    have HG1 : Hid (∀ k, (fun k => GO g w k ∧ k < w1.heap.size) k → k ≠ g ∧ k ≠ w.heap.size) := Lib.hid (fun k hk => ⟨hk.1.1, hk.1.2.1⟩)
    obtain ⟨i0, hi, hz0, hz1, hz2⟩ := info_parts infoS
    go_wp2_with fail
    refine wp_region_slotsD (by rfl) (by kernel_rfl) (by kernel_rfl) 134 [] [(0, .pointer (some ⟨g, 0, none⟩)), (3, .pointer (some ⟨w.heap.size, 0, none⟩)), (4, .pointer (some ⟨w.heap.size + 1, 0, none⟩))] (by kernel_rfl) (OI g w w1 (xE op nm tx num a n c sa sn sc kd lm ls na nn nc ga gn gc sk oop onm otx onum oa on oc ky wi)) (OG g w w1 (.slice sa sn sc) (fun k => GO g w k ∧ k < w1.heap.size) rows) (OX w w1 (xE op nm tx num a n c sa sn sc kd lm ls na nn nc ga gn gc sk oop onm otx onum oa on oc ky wi)) ?_ ?_ ?_ (fun _ => OX.none)
    case refine_1 =>
      intro i o ho a W D hB hcl hnD hX hd hF K hK
      have hi18 : i < 18 := (Array.getElem?_eq_some_iff.1 ho).1
      have h0 : a.tmps.getD 0 undef = .pointer (some ⟨g, 0, none⟩) := hB.fixed 0 _ (by simp)
      have h3 : a.tmps.getD 3 undef = .pointer (some ⟨w.heap.size, 0, none⟩) := hB.fixed 3 _ (by simp)
      have hle : w1.heap.size ≤ W.heap.size := hB.inv.2.1.1
      have hbW : w.heap.size < W.heap.size := Nat.lt_of_lt_of_le hbw1 hle
      have hFW : Stay (FF (fun k => GO g w k ∧ k < w1.heap.size) (.slice sa sn sc)) (FF (fun k => GO g w k ∧ k < w1.heap.size) (.slice sa sn sc)) w1 W := ⟨hle, fun k hk hl => ⟨hk, hB.inv.2.1.2 k hl (HG1.out k hk.1).1 (HG1.out k hk.1).2⟩⟩
      rcases (show i = 0 ∨ i = 1 ∨ i = 2 ∨ i = 3 ∨ i = 4 ∨ i = 5 ∨ i = 6 ∨ i = 7 ∨ i = 8 ∨ i = 9 ∨ i = 10 ∨ i = 11 ∨ i = 12 ∨ i = 13 ∨ i = 14 ∨ i = 15 ∨ i = 16 ∨ i = 17 by omega) with rfl | rfl | rfl | rfl | rfl | rfl | rfl | rfl | rfl | rfl | rfl | rfl | rfl | rfl | rfl | rfl | rfl | rfl
      · obtain rfl := Option.some.inj ho
        go_simp
        exact hK _ _ (hB.inv.keep hB.inv.1 (OS.refl _ _ _) rfl) (fun k u _ _ h => OG.keep hgw1 hbw1 HG1.out (OS.refl _ _ _) h) rfl (fun s hs hs' => hX.keep hgw1 hbw1 (OS.refl _ _ _) rfl hs' (by decide) (by decide) (by decide) (by decide) (by decide))
      · obtain rfl := Option.some.inj ho
        have hn17 : ¬ D 17 := fun h17 => hnD (hcl 2 _ rfl (hcl 15 _ rfl (hcl 17 _ rfl h17 ⟨15, .data⟩ (by simp) rfl) ⟨2, .data⟩ (by simp) rfl) ⟨1, .data⟩ (by simp) rfl)
        have hd0 : OG g w w1 (.slice sa sn sc) (fun k => GO g w k ∧ k < w1.heap.size) rows D 0 (a.tmps.getD 75 undef) W := (hd ⟨0, .data⟩ (by simp) rfl).2
        simp only [OG] at hd0
        have hc5 : W.cell? ⟨w.heap.size, 5, none⟩ = some (.slice sa sn sc) := (hB.inv.2.2 hn17).ev 5 (by omega)
        go_simp
        exact hK _ _ (hB.inv.keep hB.inv.1 (OS.refl _ _ _) rfl) (fun k u _ _ h => OG.keep hgw1 hbw1 HG1.out (OS.refl _ _ _) h) rfl (fun s hs hs' => hX.keep hgw1 hbw1 (OS.refl _ _ _) rfl hs' (by decide) (by decide) (by decide) (by decide) (by decide))
      · obtain rfl := Option.some.inj ho
        have hd1 : OG g w w1 (.slice sa sn sc) (fun k => GO g w k ∧ k < w1.heap.size) rows D 1 (a.tmps.getD 76 undef) W := (hd ⟨1, .data⟩ (by simp) rfl).2
        simp only [OG] at hd1
        have hrw := (HRS.out.own (W' := W) (R' := SR (FF (fun k => GO g w k ∧ k < w1.heap.size) (.slice sa sn sc)) W) (fun j hj => hB.inv.2.1.2 j (HOL.out j hj).1 (HOL.out j hj).2.1 (HOL.out j hj).2.2.1) (fun x us h => SR.go hFW x us h) 0 (Nat.le_refl _)).rw (F := fun _ => True) (fun _ _ => trivial)
        refine wp_append_row _ _ 25 41 (.agg #[.bool false, .string ⟨#[]⟩, .int .i64 0, .string ⟨#[]⟩, .string ⟨#[]⟩, .int .i64 0, .slice none 0 0]) 7 96 rfl Try.underlying25 infoS rfl (by decide) W.heap.size rfl hd1 hrw sr_one (by omega) (Nat.le_refl _) ?_
        intro v2 W2 hor hgr
        have hF2 : Stay (FF (fun k => GO g w k ∧ k < w1.heap.size) (.slice sa sn sc)) (FF (fun k => GO g w k ∧ k < w1.heap.size) (.slice sa sn sc)) W W2 := ⟨hgr.size, fun k hk hl => ⟨hk, hgr.block k hl (by simp)⟩⟩
        refine hK _ _ (hB.inv.keep (hB.inv.1.on ((Below.refl w.heap.size W).grown hgr (Nat.le_of_lt hbW) (fun k hk => by cases hk))) (OS.gr hgr) (hgr.block _ hbW (by simp))) (fun k u _ _ h => OG.keep hgw1 hbw1 HG1.out (OS.gr hgr) h) (fun _ => hor.own (fun _ _ => rfl) (fun x us h => SR.go hF2 x us h) w1.heap.size hle) (fun s hs hs' => hX.c234 hgw1 hbw1 (OS.gr hgr) (hgr.block _ hbW (by simp)) hs' (fun _ d12 d15 => ?_) (by decide) (by decide) (by decide))
        have e12 : D 12 := d12.resolve_right (by decide)
        have h12 : OG g w w1 (.slice sa sn sc) (fun k => GO g w k ∧ k < w1.heap.size) rows D 12 _ W := hF 12 e12
        simp only [OG] at h12
        obtain ⟨t, ht⟩ := h12 (fun h => d15 (.inl h))
        rw [hs, hs' 12 e12]
        exact ⟨t, TG.go ⟨hgr.size, fun k hk hl => ⟨⟨hk, fun e => by have := (hor.lt e).1; omega⟩, hgr.block k hl (by simp)⟩⟩ _ _ ht⟩
      · obtain rfl := Option.some.inj ho
        go_simp
        exact hK _ _ (hB.inv.keep hB.inv.1 (OS.refl _ _ _) rfl) (fun k u _ _ h => OG.keep hgw1 hbw1 HG1.out (OS.refl _ _ _) h) rfl (fun s hs hs' => hX.keep hgw1 hbw1 (OS.refl _ _ _) rfl hs' (by decide) (by decide) (by decide) (by decide) (by decide))
      · obtain rfl := Option.some.inj ho
        have hd1 : OG g w w1 (.slice sa sn sc) (fun k => GO g w k ∧ k < w1.heap.size) rows D 3 (a.tmps.getD 78 undef) W := (hd ⟨3, .data⟩ (by simp) rfl).2
        simp only [OG] at hd1
        go_simp
        refine (next_any g 2 _ hB.inv.1.codes (by omega) (by omega)).mono ?_
        rintro e W2 ⟨k, hk, rfl, hca, hap⟩
        exact hK _ _ (hB.inv.keep (hB.inv.1.go hap hca) (OS.ap hap) (hap.block (by omega) hbW)) (fun k u _ _ h => OG.keep hgw1 hbw1 HG1.out (OS.ap hap) h) ⟨k, hk, rfl⟩ (fun s hs hs' => hX.keep hgw1 hbw1 (OS.ap hap) (hap.block (by omega) hbW) hs' (by decide) (by decide) (by decide) (by decide) (by decide))
      · obtain rfl := Option.some.inj ho
        have hd1 : OG g w w1 (.slice sa sn sc) (fun k => GO g w k ∧ k < w1.heap.size) rows D 4 (a.tmps.getD 79 undef) W := (hd ⟨4, .data⟩ (by simp) rfl).2
        simp only [OG] at hd1
        obtain ⟨k, hk, hv1⟩ := hd1
        go_simp
        exact hK _ _ (hB.inv.keep hB.inv.1 (OS.refl _ _ _) rfl) (fun k u _ _ h => OG.keep hgw1 hbw1 HG1.out (OS.refl _ _ _) h) ⟨_, rfl⟩ (fun s hs hs' => hX.keep hgw1 hbw1 (OS.refl _ _ _) rfl hs' (by decide) (by decide) (by decide) (by decide) (by decide))
      · obtain rfl := Option.some.inj ho
        go_simp
        exact hK _ _ (hB.inv.keep (hB.inv.1.al _) (OS.al _ _ _ _) (((Below.refl _ W).alloc (Nat.le_refl _) _).block _ hbW)) (fun k u _ _ h => OG.keep hgw1 hbw1 HG1.out (OS.al _ _ _ _) h) ⟨_, rfl, fun _ => Bq.new hle srnO⟩ (fun s hs hs' => hX.keep hgw1 hbw1 (OS.al _ _ _ _) (((Below.refl _ W).alloc (Nat.le_refl _) _).block _ hbW) hs' (by decide) (by decide) (by decide) (by decide) (by decide))
      · obtain rfl := Option.some.inj ho
        go_simp
        exact hK _ _ (hB.inv.keep hB.inv.1 (OS.refl _ _ _) rfl) (fun k u _ _ h => OG.keep hgw1 hbw1 HG1.out (OS.refl _ _ _) h) rfl (fun s hs hs' => hX.keep hgw1 hbw1 (OS.refl _ _ _) rfl hs' (by decide) (by decide) (by decide) (by decide) (by decide))
      · obtain rfl := Option.some.inj ho
        have hd1 : OG g w w1 (.slice sa sn sc) (fun k => GO g w k ∧ k < w1.heap.size) rows D 7 (a.tmps.getD 82 undef) W := (hd ⟨7, .data⟩ (by simp) rfl).2
        simp only [OG] at hd1
        go_simp
        refine (next_any g 3 _ hB.inv.1.codes (by omega) (by omega)).mono ?_
        rintro e W2 ⟨k, hk, rfl, hca, hap⟩
        exact hK _ _ (hB.inv.keep (hB.inv.1.go hap hca) (OS.ap hap) (hap.block (by omega) hbW)) (fun k u _ _ h => OG.keep hgw1 hbw1 HG1.out (OS.ap hap) h) ⟨k, hk, rfl⟩ (fun s hs hs' => hX.keep hgw1 hbw1 (OS.ap hap) (hap.block (by omega) hbW) hs' (by decide) (by decide) (by decide) (by decide) (by decide))
      · obtain rfl := Option.some.inj ho
        have hd1 : OG g w w1 (.slice sa sn sc) (fun k => GO g w k ∧ k < w1.heap.size) rows D 6 (a.tmps.getD 81 undef) W := (hd ⟨6, .data⟩ (by simp) rfl).2
        simp only [OG] at hd1
        have hd2 : OG g w w1 (.slice sa sn sc) (fun k => GO g w k ∧ k < w1.heap.size) rows D 8 (a.tmps.getD 83 undef) W := (hd ⟨8, .data⟩ (by simp) rfl).2
        simp only [OG] at hd2
        obtain ⟨q, hv1, hq⟩ := hd1
        obtain ⟨k, hk, hv2⟩ := hd2
        have j1 : (k : Int) < 3 := by omega
        have j2 : (0 : Int) ≤ (k : Int) := by omega
        go_simp
        exact hK _ _ (hB.inv.keep hB.inv.1 (OS.refl _ _ _) rfl) (fun k u _ _ h => OG.keep hgw1 hbw1 HG1.out (OS.refl _ _ _) h) ⟨q, k, hk, rfl, fun h => hq (fun h15 => h (.inl h15))⟩ (fun s hs hs' => hX.keep hgw1 hbw1 (OS.refl _ _ _) rfl hs' (by decide) (by decide) (by decide) (by decide) (by decide))
      · obtain rfl := Option.some.inj ho
        have hn15 : ¬ D 15 := fun h15 => hnD (hcl 13 _ rfl (hcl 14 _ rfl (hcl 15 _ rfl h15 ⟨14, .data⟩ (by simp) rfl) ⟨13, .data⟩ (by simp) rfl) ⟨10, .data⟩ (by simp) rfl)
        have hd1 : OG g w w1 (.slice sa sn sc) (fun k => GO g w k ∧ k < w1.heap.size) rows D 9 (a.tmps.getD 84 undef) W := (hd ⟨9, .data⟩ (by simp) rfl).2
        simp only [OG] at hd1
        obtain ⟨q, k, hk, hv1, hq⟩ := hd1
        obtain ⟨y, hy⟩ := srn_blk hk (hq hn15).2.2
        go_simp
        exact hK _ _ (hB.inv.keep hB.inv.1 (OS.refl _ _ _) rfl) (fun k u _ _ h => OG.keep hgw1 hbw1 HG1.out (OS.refl _ _ _) h) ⟨y, rfl⟩ (fun s hs hs' => hX.keep hgw1 hbw1 (OS.refl _ _ _) rfl hs' (by decide) (by decide) (by decide) (by decide) (by decide))
      · obtain rfl := Option.some.inj ho
        go_simp
        exact hK _ _ (hB.inv.keep hB.inv.1 (OS.refl _ _ _) rfl) (fun k u _ _ h => OG.keep hgw1 hbw1 HG1.out (OS.refl _ _ _) h) rfl (fun s hs hs' => hX.keep hgw1 hbw1 (OS.refl _ _ _) rfl hs' (by decide) (by decide) (by decide) (by decide) (by decide))
      · obtain rfl := Option.some.inj ho
        have hd1 : OG g w w1 (.slice sa sn sc) (fun k => GO g w k ∧ k < w1.heap.size) rows D 11 (a.tmps.getD 86 undef) W := (hd ⟨11, .data⟩ (by simp) rfl).2
        simp only [OG] at hd1
        go_simp
        refine (HTE.out g _ hB.inv.1.codes).mono ?_
        rintro e W2 ⟨v3, t, rfl, hT, hg4, _⟩
        have hap := hg4.ap
        have hca := hg4.codes
        refine hK _ _ (hB.inv.keep (hB.inv.1.go hap hca) (OS.ap hap) (hap.block (by omega) hbW)) (fun k u _ _ h => OG.keep hgw1 hbw1 HG1.out (OS.ap hap) h) (fun _ => ⟨t, TG.go ⟨Nat.le_refl _, fun k hk _ => ⟨Nat.le_trans hle hk, rfl⟩⟩ _ _ hT⟩) (fun s hs hs' => hX.c234 hgw1 hbw1 (OS.ap hap) (hap.block (by omega) hbW) hs' (fun d2 _ d15 => ?_) (by decide) (by decide) (by decide))
        have e2 : D 2 := d2.resolve_right (by decide)
        have h2 : OG g w w1 (.slice sa sn sc) (fun k => GO g w k ∧ k < w1.heap.size) rows D 2 _ W := hF 2 e2
        simp only [OG] at h2
        rw [hs, hs' 2 e2]
        exact ⟨t, TG.go ⟨Nat.le_refl _, fun k hk _ => ⟨⟨Nat.le_trans hle hk, fun e => by have := ((h2 (fun h => d15 (.inl h))).lt e).2; omega⟩, rfl⟩⟩ _ _ hT⟩
      · obtain rfl := Option.some.inj ho
        have hn15 : ¬ D 15 := fun h15 => hnD (hcl 14 _ rfl (hcl 15 _ rfl h15 ⟨14, .data⟩ (by simp) rfl) ⟨13, .data⟩ (by simp) rfl)
        have hd1 : OG g w w1 (.slice sa sn sc) (fun k => GO g w k ∧ k < w1.heap.size) rows D 5 (a.tmps.getD 80 undef) W := (hd ⟨5, .data⟩ (by simp) rfl).2
        simp only [OG] at hd1
        have hd2 : OG g w w1 (.slice sa sn sc) (fun k => GO g w k ∧ k < w1.heap.size) rows D 10 (a.tmps.getD 85 undef) W := (hd ⟨10, .data⟩ (by simp) rfl).2
        simp only [OG] at hd2
        have hd3 : OG g w w1 (.slice sa sn sc) (fun k => GO g w k ∧ k < w1.heap.size) rows D 12 (a.tmps.getD 87 undef) W := (hd ⟨12, .data⟩ (by simp) rfl).2
        simp only [OG] at hd3
        have e12 : D 12 := (hd ⟨12, .data⟩ (by simp) rfl).1
        obtain ⟨x, hv1⟩ := hd1
        obtain ⟨y, hv2⟩ := hd2
        obtain ⟨t, ht⟩ := hd3 hn15
        obtain ⟨op2, nm2, tx2, num2, kk, a2, c2, hv3, _⟩ := ht.open
        have hv1b := (Array.getD_eq_getD_getElem? (xs := a.tmps) (i := 80) (d := undef)).symm.trans hv1
        have hv2b := (Array.getD_eq_getD_getElem? (xs := a.tmps) (i := 85) (d := undef)).symm.trans hv2
        have hv3b := (Array.getD_eq_getD_getElem? (xs := a.tmps) (i := 87) (d := undef)).symm.trans hv3
        go_simp
        refine hK _ _ (hB.inv.keep hB.inv.1 (OS.refl _ _ _) rfl) (fun k u _ _ h => OG.keep hgw1 hbw1 HG1.out (OS.refl _ _ _) h) trivial (fun s hs hs' => ?_)
        have hx := hX.keep (i := 0) hgw1 hbw1 (OS.refl _ _ _) rfl hs' (by decide) (by decide) (by decide) (by decide) (by decide)
        refine ⟨hX.c1 hgw1 hbw1 (OS.refl _ _ _) hs' (by decide) (by decide), fun _ => ⟨.inl e12, x, y, op2, nm2, tx2, num2, a2, kk.length, c2, hs, (hs' 12 e12).trans hv3⟩, fun d d15 => ?_, fun d => ?_⟩
        · exact absurd (hcl 14 _ rfl (d.resolve_right (by decide)) ⟨13, .data⟩ (by simp) rfl) hnD
        · exact absurd (hcl 17 _ rfl (d.resolve_right (by decide)) ⟨15, .data⟩ (by simp) rfl) hn15
      · obtain rfl := Option.some.inj ho
        have hn15 : ¬ D 15 := fun h15 => hnD (hcl 15 _ rfl h15 ⟨14, .data⟩ (by simp) rfl)
        have e13 : D 13 := (hd ⟨13, .data⟩ (by simp) rfl).1
        obtain ⟨e12, x, y, op2, nm2, tx2, num2, a2, n2, c2, hv1, hv2⟩ := hX.2.1 e13
        replace hv1 : a.tmps.getD 88 undef = _ := hv1
        have hv1b := (Array.getD_eq_getD_getElem? (xs := a.tmps) (i := 88) (d := undef)).symm.trans hv1
        go_simp
        refine hK _ _ (hB.inv.keep (hB.inv.1.al _) (OS.al _ _ _ _) (((Below.refl _ W).alloc (Nat.le_refl _) _).block _ hbW)) (fun k u _ _ h => OG.keep hgw1 hbw1 HG1.out (OS.al _ _ _ _) h) trivial (fun s hs hs' => ?_)
        refine ⟨hX.c1 hgw1 hbw1 (OS.al _ _ _ _) hs' (by decide) (by decide), fun _ => ⟨.inl e12, x, y, op2, nm2, tx2, num2, a2, n2, c2, (hs' 13 e13).trans hv1, (hs' 12 e12).trans hv2⟩, fun _ _ => ⟨.inl e12, W.heap.size, x, y, op2, nm2, tx2, num2, a2, n2, c2, hs, Bq.new hle _, (hs' 12 e12).trans hv2⟩, fun d => ?_⟩
        exact absurd (hcl 17 _ rfl (d.resolve_right (by decide)) ⟨15, .data⟩ (by simp) rfl) hn15
      · obtain rfl := Option.some.inj ho
        have hd2 : OG g w w1 (.slice sa sn sc) (fun k => GO g w k ∧ k < w1.heap.size) rows D 2 (a.tmps.getD 77 undef) W := (hd ⟨2, .data⟩ (by simp) rfl).2
        simp only [OG] at hd2
        have e2 : D 2 := (hd ⟨2, .data⟩ (by simp) rfl).1
        have e14 : D 14 := (hd ⟨14, .data⟩ (by simp) rfl).1
        obtain ⟨e12, q, x, y, op2, nm2, tx2, num2, a2, n2, c2, hv1, hq, hv2⟩ := hX.2.2.1 e14 hnD
        obtain ⟨t, ht⟩ := hX.1 e2 e12 hnD
        replace hv1 : a.tmps.getD 89 undef = _ := hv1
        rw [hv2] at ht
        have hor := hd2 hnD
        obtain ⟨cs, hown, hpush⟩ := hor.cells
        refine wp_append_lies W (.tmp 77) (.tmp 89) 25 rfl w1.heap.size 41 i0 (.agg #[.bool false, .string ⟨#[]⟩, .int .i64 0, .string ⟨#[]⟩, .string ⟨#[]⟩, .int .i64 0, .slice none 0 0]) 7 96 Try.underlying25 hi hz0 hz1 hz2 rfl (by decide) (a.tmps.getD 77 undef) rows.length cs rfl hown ⟨q, 0, none⟩ 1 1 [.bool x, .string ⟨y.toArray⟩, .int .i64 op2, .string ⟨nm2.toArray⟩, .string ⟨tx2.toArray⟩, .int .i64 num2, .slice a2 n2 c2] hv1 rfl (World.news_of_block hq.2.2) (stage_one x y op2 nm2 tx2 num2 a2 n2 c2) (by omega) (by unfold maxLen; omega) (by omega) hle _ rfl ?_
        intro g9 cap9 W2 hown9 hgr hat hlt9
        have hlo : ∀ k, k < w1.heap.size → some k ≠ (a.tmps.getD 77 undef).ownBlock := fun k hk e => by have := (hown.lt k e.symm).1; omega
        have hg9 : w1.heap.size ≤ g9 := by rcases hat with h | h; exact (hown.lt g9 h).1; omega
        have hne9 : ∀ k, k < W.heap.size → some k ≠ (a.tmps.getD 77 undef).ownBlock → (Value.slice (some ⟨g9, 0, none⟩) (rows.length + 1) cap9).ownBlock ≠ some k := fun k hl hk e => by simp only [Value.ownBlock, Option.some.injEq] at e; subst e; rcases hat with h | h; exact hk h.symm; omega
        have hA : Stay (FF (fun k => GO g w k ∧ k < w1.heap.size) (.slice sa sn sc)) (FF (FI w1 (.slice sa sn sc) (fun k => GO g w k ∧ k < w1.heap.size)) (.slice (some ⟨g9, 0, none⟩) (rows.length + 1) cap9)) W W2 := ⟨hgr.size, fun k hk hl => ⟨⟨.inl hk, hne9 k hl (hlo k hk.1.2)⟩, hgr.block k hl (hlo k hk.1.2)⟩⟩
        have hT9 : Stay (FF (fun k => w1.heap.size ≤ k) (a.tmps.getD 77 undef)) (FF (FI w1 (.slice sa sn sc) (fun k => GO g w k ∧ k < w1.heap.size)) (.slice (some ⟨g9, 0, none⟩) (rows.length + 1) cap9)) W W2 := ⟨hgr.size, fun k hk hl => ⟨⟨.inr hk.1, hne9 k hl (fun e => hk.2 e.symm)⟩, hgr.block k hl (fun e => hk.2 e.symm)⟩⟩
        have hOR := hpush (SR (FF (FI w1 (.slice sa sn sc) (fun k => GO g w k ∧ k < w1.heap.size)) (.slice (some ⟨g9, 0, none⟩) (rows.length + 1) cap9)) W2) W2 ⟨x, y, t⟩ [.bool x, .string ⟨y.toArray⟩, .int .i64 op2, .string ⟨nm2.toArray⟩, .string ⟨tx2.toArray⟩, .int .i64 num2, .slice a2 n2 c2] (.slice (some ⟨g9, 0, none⟩) (rows.length + 1) cap9) (fun x us h => SR.go hA x us h) rfl ⟨_, rfl, TG.go hT9 _ _ ht⟩ (by omega) hown9
        refine hK _ _ ⟨hB.inv.1.on ((Below.refl w.heap.size W).grown hgr (Nat.le_of_lt hbW) (fun k hk => by have := (hown.lt k hk).1; omega)), ⟨Nat.le_trans hle hgr.size, fun k h1 h2 h3 => (hgr.block k (Nat.lt_of_lt_of_le h1 hle) (hlo k h1)).trans (hB.inv.2.1.2 k h1 h2 h3)⟩, fun hn => (hB.inv.2.2 (fun h => hn (.inl h))).keep (hgr.block _ hbW (hlo _ hbw1)) hgr.size⟩ (fun k u _ hk h => OG.keep15 hk h) ⟨_, hOR⟩ (fun s hs hs' => ⟨fun _ _ h => (h (.inr rfl)).elim, fun d => ?_, fun _ h => (h (.inr rfl)).elim, fun d => ?_⟩)
        · have e13 : D 13 := d.resolve_right (by decide)
          obtain ⟨e12b, hh⟩ := hX.2.1 e13
          rw [hs' 13 e13, hs' 12 e12b]
          exact ⟨.inl e12b, hh⟩
        · exact absurd (hcl 17 _ rfl (d.resolve_right (by decide)) ⟨15, .data⟩ (by simp) rfl) hnD
      · obtain rfl := Option.some.inj ho
        go_simp
        exact hK _ _ (hB.inv.keep hB.inv.1 (OS.refl _ _ _) rfl) (fun k u _ _ h => OG.keep hgw1 hbw1 HG1.out (OS.refl _ _ _) h) rfl (fun s hs hs' => hX.keep hgw1 hbw1 (OS.refl _ _ _) rfl hs' (by decide) (by decide) (by decide) (by decide) (by decide))
      · obtain rfl := Option.some.inj ho
        have hd1 : OG g w w1 (.slice sa sn sc) (fun k => GO g w k ∧ k < w1.heap.size) rows D 16 (a.tmps.getD 91 undef) W := (hd ⟨16, .data⟩ (by simp) rfl).2
        simp only [OG] at hd1
        have hd2 : OG g w w1 (.slice sa sn sc) (fun k => GO g w k ∧ k < w1.heap.size) rows D 15 (a.tmps.getD 90 undef) W := (hd ⟨15, .data⟩ (by simp) rfl).2
        simp only [OG] at hd2
        have e15 : D 15 := (hd ⟨15, .data⟩ (by simp) rfl).1
        obtain ⟨ss, hss⟩ := hd2
        obtain ⟨a3, c3, hv2, _⟩ := hss.rw (F := fun _ => True) (fun _ _ => trivial)
        have hbk := hB.inv.2.2 hnD
        have hc5 : W.cell? ⟨w.heap.size, 5, none⟩ = some (.slice sa sn sc) := hbk.ev 5 (by omega)
        have hf5 : W.frozen? ⟨w.heap.size, 5, none⟩ = false := hbk.fz 5
        go_simp
        have hS5 : OS g w.heap.size W (W.setCell ⟨w.heap.size, 5, none⟩ (.slice a3 ss.length c3)) := ⟨by simp, fun k _ _ h => Below.heap_setCell _ _ _ k (by simpa using h)⟩
        refine hK undef (W.setCell ⟨w.heap.size, 5, none⟩ (.slice a3 ss.length c3)) ⟨hB.inv.1.set (Nat.le_refl _) _ _, hB.inv.2.1.trans hS5, fun h => (h (.inr rfl)).elim⟩ (fun k u _ _ h => OG.keep hgw1 hbw1 HG1.out hS5 h) trivial (fun s hs hs' => ⟨hX.c1 hgw1 hbw1 hS5 hs' (by decide) (by decide), fun d => ?_, fun _ h => (h (.inl e15)).elim, fun _ => ⟨.inl e15, ?_⟩⟩)
        · have e13 : D 13 := d.resolve_right (by decide)
          obtain ⟨e12b, hh⟩ := hX.2.1 e13
          rw [hs' 13 e13, hs' 12 e12b]
          exact ⟨.inl e12b, hh⟩
        · have h15 : s 15 = .slice a3 ss.length c3 := (hs' 15 e15).trans hv2
          rw [h15]
          exact hbk.set 5 (by omega) _
    case refine_2 =>
      intro ac W D hall hB hX hG
      have h15 : OG g w w1 (.slice sa sn sc) (fun k => GO g w k ∧ k < w1.heap.size) rows D 15 (ac.tmps.getD 90 undef) W := hG 15 (by decide)
      simp only [OG] at h15
      obtain ⟨ss, hss⟩ := h15
      have hbk : BK w.heap.size 19 (Upd (xE op nm tx num a n c sa sn sc kd lm ls na nn nc ga gn gc sk oop onm otx onum oa on oc ky wi) 5 (ac.tmps.getD 90 undef)) W := (hX.2.2.2 (hall 17 (by decide))).2
      obtain ⟨a3, c3, hv, _⟩ := hss.rw (F := fun _ => True) (fun _ _ => trivial)
      rw [hv] at hss hbk
      have hlo : ∀ j, (Value.slice a3 ss.length c3).ownBlock = some j → w1.heap.size ≤ j := fun j hj => (hss.lt hj).1
      have hq : QX (fun k => GO g w k ∧ k < w1.heap.size) W (xE op nm tx num a n c sa sn sc kd lm ls na nn nc ga gn gc sk oop onm otx onum oa on oc ky wi) := HS.out.qe.go ⟨hB.inv.2.1.1, fun k hk hl => ⟨hk, hB.inv.2.1.2 k hk.2 (HG1.out k hk).1 (HG1.out k hk).2⟩⟩
      have HPE := Lib.hid (show RQ g w (GO g w) w.heap.size (w.heap.size + 1) (xE op nm tx num a n c a3 (ss.length) c3 kd lm ls na nn nc ga gn gc sk oop onm otx onum oa on oc ky wi) W from ⟨hB.inv.1, HS.out.rb.keep (hB.inv.2.1.2 _ (by omega) (by omega) (by omega)) hB.inv.2.1.1, hbk.cong (below19 rfl rfl rfl rfl rfl rfl rfl rfl rfl rfl rfl rfl rfl rfl rfl rfl rfl rfl rfl), QX.cong (hq.s5 (F' := GO g w) (v := .slice a3 ss.length c3) ⟨ss, hss.own (fun _ _ => rfl) (fun x us h => SR.go ⟨Nat.le_refl _, fun k hk _ => ⟨⟨hk.1.elim (fun h => h.1.1) (fun h => ⟨by omega, by omega, by omega⟩), hk.2⟩, rfl⟩⟩ x us h) 0 (Nat.zero_le _)⟩ (fun j hj => by have := hlo j hj; exact ⟨by omega, by omega, by omega⟩) (fun k hk _ => ⟨hk.1.1, fun e => by have := hlo k e; have := hk.1.2; omega⟩)) (below19 rfl rfl rfl rfl rfl rfl rfl rfl rfl rfl rfl rfl rfl rfl rfl rfl rfl rfl rfl), by omega, Nat.le_refl _, by omega, fun k hk => hk⟩)
      have h3 : ac.tmps.getD 3 undef = .pointer (some ⟨w.heap.size, 0, none⟩) := hB.fixed 3 _ (by simp)
      have h4 : ac.tmps.getD 4 undef = .pointer (some ⟨w.heap.size + 1, 0, none⟩) := hB.fixed 4 _ (by simp)
      have hrb := HPE.out.rb
      have hp4 : ∀ v, (ac.tmps.setIfInBounds 133 v).getD 4 undef = .pointer (some ⟨w.heap.size + 1, 0, none⟩) := fun v => (put_other (a := ac) (d := 133) v (by decide)).trans h4
      have hp133 : ∀ v, (ac.tmps.setIfInBounds 133 v).getD 133 undef = v := fun v => put_same (a := ac) v (by have := hB.size; omega)
      have hp4b : ∀ v, (ac.tmps.setIfInBounds 133 v)[4]?.getD undef = .pointer (some ⟨w.heap.size + 1, 0, none⟩) := fun v => (Array.getD_eq_getD_getElem? (xs := ac.tmps.setIfInBounds 133 v) (i := 4) (d := undef)).symm.trans (hp4 v)
      have hp133b : ∀ v, (ac.tmps.setIfInBounds 133 v)[133]?.getD undef = v := fun v => (Array.getD_eq_getD_getElem? (xs := ac.tmps.setIfInBounds 133 v) (i := 133) (d := undef)).symm.trans (hp133 v)
      have h4b := (Array.getD_eq_getD_getElem? (xs := ac.tmps) (i := 4) (d := undef)).symm.trans h4
      have hld : (load19 ⟨w.heap.size, 0, none⟩).run Try.prog (W) = .ok #[.int .i64 op, .string ⟨nm.toArray⟩, .string ⟨tx.toArray⟩, .int .i64 num, .slice a n c, .slice a3 ss.length c3, .int .i64 kd, .int .i64 lm, .bool ls, .slice na nn nc, .slice ga gn gc, .int .i64 sk, .int .i64 oop, .string ⟨onm.toArray⟩, .string ⟨otx.toArray⟩, .int .i64 onum, .slice oa on oc, .string ⟨ky.toArray⟩, .int .i64 wi] (W) := run_load19 HPE.out.bk
      go_wp2_with fail
      refine o_ret H0.out HX.out HPE.out _ _ hB.defers ?_
      exact (put_other (a := ac) (d := 133) _ (by decide)).trans (hB.fixed 4 _ (by simp))
    case refine_3 =>
      refine ⟨rfl, rfl, fun s v hs => ?_, HS.out.gd.dr, ⟨Nat.le_refl _, fun _ _ _ _ => rfl⟩, fun _ => HS.out.bk.dr⟩
      simp only [List.mem_cons, Prod.mk.injEq, List.not_mem_nil, or_false] at hs
      rcases hs with ⟨rfl, rfl⟩ | ⟨rfl, rfl⟩ | ⟨rfl, rfl⟩ <;> rfl
  · go_wp2_with fail
    refine (next_any g 12 _ HP.out.gd.codes (by omega) (by omega)).mono ?_
    rintro e w2 ⟨n0, hn0, rfl, hca, hap⟩
    have HP2 := Lib.hid (HP.out.go hap hca)
    clear hca hap HP
    have HSX : Hid (QX (fun k => GO g w k ∧ k < w2.heap.size) w2 (xE op nm tx num a n c sa sn sc kd lm ls na nn nc ga gn gc sk oop onm otx onum oa on oc ky wi)) := Lib.hid HP2.out.shut.qe
    obtain ⟨rows, hrows⟩ := HSX.out.ss
    have HRS : Hid (OR 0 41 7 (SR (FF (fun k => GO g w k ∧ k < w2.heap.size) (.slice sa sn sc)) w2) w2 rows (.slice sa sn sc)) := Lib.hid hrows
    clear hrows
    have hrl : rows.length ≤ 1000 := by
      have h := (HRS.out.rw (F := fun _ => True) (fun _ _ => trivial)).len
      have h2 := HSM.out
      change sn = _ at h
      omega
    have HF9 : Hid (O9F g w0 w w2 (.slice sa sn sc) (FF (fun k => GO g w k ∧ k < w2.heap.size) (.slice sa sn sc))) := Lib.hid ⟨fun k hk => ⟨hk.1.2, hk.1.1.1, hk.1.1.2.1, hk.1.1.2.2, hk.2⟩, fun j hj => ⟨HP2.out.qe.lt hj, (HP2.out.qe.own j hj).1, (HP2.out.qe.own j hj).2.1, (HP2.out.qe.own j hj).2.2, HX.out.own j hj⟩, HP2.out.rb.lt, H0.out.le, H0.out.hg⟩
    have HQ9 : Hid (QX (FF (fun k => GO g w k ∧ k < w2.heap.size) (.slice sa sn sc)) w2 (Upd (xE op nm tx num a n c sa sn sc kd lm ls na nn nc ga gn gc sk oop onm otx onum oa on oc ky wi) 5 (.slice none 0 0))) := Lib.hid (HSX.out.s5 ⟨[], OR.nil⟩ (fun j hj => by cases hj) (fun k hk _ => ⟨hk, by simp [Value.ownBlock]⟩))
    have HO0 : Hid (O9 g w0 w w2 (xE op nm tx num a n c sa sn sc kd lm ls na nn nc ga gn gc sk oop onm otx onum oa on oc ky wi) (.slice sa sn sc) (FF (fun k => GO g w k ∧ k < w2.heap.size) (.slice sa sn sc)) rows.length rows (.slice sa sn sc) w2) := Lib.hid ⟨H0.out.go HP2.out.gd.ap HP2.out.gd.codes, Nat.le_refl _, HP2.out.bk.cong (below19 rfl rfl rfl rfl rfl rfl rfl rfl rfl rfl rfl rfl rfl rfl rfl rfl rfl rfl rfl), HP2.out.rb, HRS.out, fun j hj => .inl hj, Nat.le_refl _, fun _ _ => rfl, fun _ _ _ _ => rfl⟩
    have HG9 : Hid (GD g w w2) := Lib.hid HP2.out.gd
    obtain ⟨i0, hi, hz0, hz1, hz2⟩ := info_parts infoS
    go_wp2_with fail
    go_loopw [5] (fun i wr => ∃ (j : Nat) (ss : List QS) (a9 : Option Addr) (n9 c9 : Nat), i = .int .i64 j ∧ j + ss.length ≤ rows.length + 12 ∧ O9 g w0 w w2 (xE op nm tx num a n c sa sn sc kd lm ls na nn nc ga gn gc sk oop onm otx onum oa on oc ky wi) (.slice sa sn sc) (FF (fun k => GO g w k ∧ k < w2.heap.size) (.slice sa sn sc)) rows.length ss (.slice a9 n9 c9) wr) (fun i _ => (intOf i).toNat)
    case atStart => exact ⟨n0, rows, sa, sn, sc, rfl, by omega, HO0.out⟩
    case round =>
      obtain ⟨j, ss, a9, n9, c9, rfl, hj, hO⟩ := hrel
      have HO := Lib.hid hO
      clear hO HP2 HSX HO0
      cases j with
      | zero =>
        have hrb := HO.out.rb
        have hld : (load19 ⟨w.heap.size, 0, none⟩).run Try.prog (wr) = .ok #[.int .i64 op, .string ⟨nm.toArray⟩, .string ⟨tx.toArray⟩, .int .i64 num, .slice a n c, .slice a9 n9 c9, .int .i64 kd, .int .i64 lm, .bool ls, .slice na nn nc, .slice ga gn gc, .int .i64 sk, .int .i64 oop, .string ⟨onm.toArray⟩, .string ⟨otx.toArray⟩, .int .i64 onum, .slice oa on oc, .string ⟨ky.toArray⟩, .int .i64 wi] (wr) := run_load19 (HO.out.bk.cong (below19 rfl rfl rfl rfl rfl rfl rfl rfl rfl rfl rfl rfl rfl rfl rfl rfl rfl rfl rfl))
        go_wp2_with fail
        refine o_ret9 HF9.out HQ9.out HRS.out HO.out HG9.out (fun k h1 h2 h3 => ⟨⟨⟨h2, by omega, by omega⟩, Nat.lt_of_lt_of_le h1 HG9.out.le⟩, h3⟩) _ _ rfl ?_
        rfl
      | succ j =>
        have hj0 : (0 : Int) < (j : Int) + 1 := by omega
        have hlt : w.heap.size < wr.heap.size := HO.out.bk.lt
        have k5 := HO.out.cell
        obtain ⟨cs, hown, hpush⟩ := HO.out.row.cells
        have HPU := Lib.hid hpush
        clear hpush
        go_wp2_with (at_builtin; refine wpList_append_own2 _ rfl _ _ 25 rfl 0 41 i0 (.agg #[.bool false, .string ⟨#[]⟩, .int .i64 0, .string ⟨#[]⟩, .string ⟨#[]⟩, .int .i64 0, .slice none 0 0]) 7 96 Try.underlying25 hi hz0 hz1 hz2 rfl (by decide) (.slice a9 n9 c9) ss.length cs rfl (hown.alloc _) ⟨wr.heap.size, 0, none⟩ 1 1 [.bool false, .string ⟨#[]⟩, .int .i64 0, .string ⟨#[]⟩, .string ⟨#[]⟩, .int .i64 0, .slice none 0 0] rfl rfl (World.news_of_block (heap_alloc_new wr _)) (stage_one false [] 0 [] [] 0 none 0 0) (by unfold maxLen; omega) (by omega) (Nat.zero_le _) ?_; intro v9 w9 hown9 hgr9 hpc9 hv9; obtain ⟨hP9, hc9, hf9⟩ := HO.out.push HF9.out cs v9 HPU.out hgr9 hpc9 hv9 (by omega) hown9; have HP9 := Lib.hid hP9; clear hP9 hgr9 hpc9 hv9; obtain ⟨a8, n8, c8, rfl⟩ : ∃ a8 n8 c8, v9 = .slice a8 n8 c8 := (by rcases hown9.2 with ⟨rfl, _⟩ | ⟨g8, cap8, cur8, rfl, _⟩ <;> exact ⟨_, _, _, rfl⟩); clear hown9)
        refine ⟨⟨j, _, a8, n8, c8, by go_num, by simp only [List.length_append, List.length_cons, List.length_nil]; omega, HP9.out⟩, by simp [intOf]⟩
  · have HPA := Lib.hid (HP.out.al key2O)
    go_wp2_with fail
    refine (next_any g 4 _ HPA.out.gd.codes (by omega) (by omega)).mono ?_
    rintro e w2 ⟨k, hk, rfl, hca, hap⟩
    obtain ⟨y, hyw, _⟩ := key2_at k hk
    have hgs : g < w1.heap.size := HP.out.gd.codes.1
    have hy2 := ((Has.new (W := w1) (o := key2O) hyw).go hap hgs).2
    have hi : (k : Int) < 4 := by omega
    have hj : (0 : Int) ≤ (k : Int) := by omega
    have HP2 := Lib.hid (HPA.out.go hap hca)
    clear hca hap hyw
    have k17 : w2.cell? ⟨w.heap.size, 17, none⟩ = some (.string ⟨ky.toArray⟩) := HP2.out.bk.ev 17 (by omega)
    have f17 : w2.frozen? ⟨w.heap.size, 17, none⟩ = false := HP2.out.bk.fz 17
    have HP3 := Lib.hid (RQ.cong (E' := (xE op nm tx num a n c sa sn sc kd lm ls na nn nc ga gn gc sk oop onm otx onum oa on oc y wi)) (HP2.out.s17 y) (below19 rfl rfl rfl rfl rfl rfl rfl rfl rfl rfl rfl rfl rfl rfl rfl rfl rfl rfl rfl))
    have hrb := HP3.out.rb
    have hld : (load19 ⟨w.heap.size, 0, none⟩).run Try.prog (w2.setCell ⟨w.heap.size, 17, none⟩ (.string ⟨y.toArray⟩)) = .ok #[.int .i64 op, .string ⟨nm.toArray⟩, .string ⟨tx.toArray⟩, .int .i64 num, .slice a n c, .slice sa sn sc, .int .i64 kd, .int .i64 lm, .bool ls, .slice na nn nc, .slice ga gn gc, .int .i64 sk, .int .i64 oop, .string ⟨onm.toArray⟩, .string ⟨otx.toArray⟩, .int .i64 onum, .slice oa on oc, .string ⟨y.toArray⟩, .int .i64 wi] (w2.setCell ⟨w.heap.size, 17, none⟩ (.string ⟨y.toArray⟩)) := run_load19 HP3.out.bk
    go_wp2_with fail
    refine o_ret H0.out HX.out HP3.out _ _ rfl ?_
    rfl
  · have HP3 := Lib.hid (RQ.cong (E' := (xE op nm tx num a n c sa sn sc kd lm (!ls) na nn nc ga gn gc sk oop onm otx onum oa on oc ky wi)) (HP.out.s8 (!ls)) (below19 rfl rfl rfl rfl rfl rfl rfl rfl rfl rfl rfl rfl rfl rfl rfl rfl rfl rfl rfl))
    have k8 : w1.cell? ⟨w.heap.size, 8, none⟩ = some (.bool ls) := HP.out.bk.ev 8 (by omega)
    have f8 : w1.frozen? ⟨w.heap.size, 8, none⟩ = false := HP.out.bk.fz 8
    have hrb := HP3.out.rb
    have hld : (load19 ⟨w.heap.size, 0, none⟩).run Try.prog (w1.setCell ⟨w.heap.size, 8, none⟩ (.bool (!ls))) = .ok #[.int .i64 op, .string ⟨nm.toArray⟩, .string ⟨tx.toArray⟩, .int .i64 num, .slice a n c, .slice sa sn sc, .int .i64 kd, .int .i64 lm, .bool (!ls), .slice na nn nc, .slice ga gn gc, .int .i64 sk, .int .i64 oop, .string ⟨onm.toArray⟩, .string ⟨otx.toArray⟩, .int .i64 onum, .slice oa on oc, .string ⟨ky.toArray⟩, .int .i64 wi] (w1.setCell ⟨w.heap.size, 8, none⟩ (.bool (!ls))) := run_load19 HP3.out.bk
    go_wp2_with fail
    refine o_ret H0.out HX.out HP3.out _ _ rfl ?_
    rfl
  · go_wp2_with fail
    refine (next_any g 30 _ HP.out.gd.codes (by omega) (by omega)).mono ?_
    rintro e w2 ⟨n0, hn0, rfl, hca, hap⟩
    have HP2 := Lib.hid (HP.out.go hap hca)
    clear hca hap
    go_wp2_with fail
    go_loopw [6] (fun i wr => ∃ (j : Nat) (op2 : Int) (nm2 tx2 : List UInt8) (num2 : Int) (a2 : Option Addr) (n2 c2 : Nat), i = .int .i64 j ∧ j ≤ 30 ∧ RQ g w (GO g w) w.heap.size (w.heap.size + 1) (xE op2 nm2 tx2 num2 a2 n2 c2 sa sn sc kd lm ls na nn nc ga gn gc sk oop onm otx onum oa on oc ky wi) wr) (fun i _ => (intOf i).toNat)
    case atStart => exact ⟨n0, op, nm, tx, num, a, n, c, rfl, by omega, HP2.out⟩
    case round =>
      obtain ⟨j, op2, nm2, tx2, num2, a2, n2, c2, rfl, hj, hR⟩ := hrel
      have HR := Lib.hid hR
      clear hR HP2
      cases j with
      | zero =>
        have hrb := HR.out.rb
        have hld : (load19 ⟨w.heap.size, 0, none⟩).run Try.prog (wr) = .ok #[.int .i64 op2, .string ⟨nm2.toArray⟩, .string ⟨tx2.toArray⟩, .int .i64 num2, .slice a2 n2 c2, .slice sa sn sc, .int .i64 kd, .int .i64 lm, .bool ls, .slice na nn nc, .slice ga gn gc, .int .i64 sk, .int .i64 oop, .string ⟨onm.toArray⟩, .string ⟨otx.toArray⟩, .int .i64 onum, .slice oa on oc, .string ⟨ky.toArray⟩, .int .i64 wi] (wr) := run_load19 HR.out.bk
        go_wp2_with fail
        refine o_ret H0.out HX.out HR.out _ _ rfl ?_
        rfl
      | succ j =>
        have hj0 : (0 : Int) < (j : Int) + 1 := by omega
        have hsz : w.heap.size + 2 ≤ wr.heap.size := HR.out.rb.lt
        have hlt : w.heap.size < wr.heap.size := by omega
        have k0 : wr.cell? ⟨w.heap.size, 0, none⟩ = some (.int .i64 op2) := HR.out.bk.ev 0 (by omega)
        have k1 : wr.cell? ⟨w.heap.size, 1, none⟩ = some (.string ⟨nm2.toArray⟩) := HR.out.bk.ev 1 (by omega)
        have k2 : wr.cell? ⟨w.heap.size, 2, none⟩ = some (.string ⟨tx2.toArray⟩) := HR.out.bk.ev 2 (by omega)
        have k3 : wr.cell? ⟨w.heap.size, 3, none⟩ = some (.int .i64 num2) := HR.out.bk.ev 3 (by omega)
        have k4 : wr.cell? ⟨w.heap.size, 4, none⟩ = some (.slice a2 n2 c2) := HR.out.bk.ev 4 (by omega)
        have f0 : wr.frozen? ⟨w.heap.size, 0, none⟩ = false := HR.out.bk.fz 0
        have f1 : wr.frozen? ⟨w.heap.size, 1, none⟩ = false := HR.out.bk.fz 1
        have f2 : wr.frozen? ⟨w.heap.size, 2, none⟩ = false := HR.out.bk.fz 2
        have f3 : wr.frozen? ⟨w.heap.size, 3, none⟩ = false := HR.out.bk.fz 3
        have f4 : wr.frozen? ⟨w.heap.size, 4, none⟩ = false := HR.out.bk.fz 4
        obtain ⟨t1, ht1⟩ := HR.out.qe.t
        have HT1 : Hid (TG (FF (GO g w) (.slice sa sn sc)) wr t1 (.agg #[.int .i64 op2, .string ⟨nm2.toArray⟩, .string ⟨tx2.toArray⟩, .int .i64 num2, .slice a2 n2 c2])) := Lib.hid ht1
        clear ht1
        have HRA := Lib.hid (HR.out.al (.cells #[.int .i64 op2, .string ⟨nm2.toArray⟩, .string ⟨tx2.toArray⟩, .int .i64 num2, .slice a2 n2 c2] 24))
        have HB := Lib.hid ((Below.refl _ wr).alloc (Nat.le_refl _) (.cells #[.int .i64 op2, .string ⟨nm2.toArray⟩, .string ⟨tx2.toArray⟩, .int .i64 num2, .slice a2 n2 c2] 24))
        have HTR := Lib.hid (OR.lit (B := wr.heap.size) (e := 24) (k := 5) (R := TR (FF (GO g w) (.slice sa sn sc)) (wr.alloc (.cells #[.int .i64 op2, .string ⟨nm2.toArray⟩, .string ⟨tx2.toArray⟩, .int .i64 num2, .slice a2 n2 c2] 24))) wr t1 [.int .i64 op2, .string ⟨nm2.toArray⟩, .string ⟨tx2.toArray⟩, .int .i64 num2, .slice a2 n2 c2] (Nat.le_refl _) rfl (TG.go ⟨HB.out.size, fun k hk hl => ⟨hk, HB.out.block k hl⟩⟩ _ _ HT1.out))
        have HTN := Lib.hid (TG.node (HTR.out.rw (F := (FF (GO g w) (.slice sa sn sc))) (fun k hk => ⟨⟨by have := HR.out.gd.hg; omega, by omega, by omega⟩, fun e => by have := HR.out.qe.lt (j := k) e; omega⟩)) 5 [] [] 0)
        have HR3 := Lib.hid (RQ.cong (E' := (xE 5 [] [] 0 (some ⟨wr.heap.size, 0, none⟩) 1 1 sa sn sc kd lm ls na nn nc ga gn gc sk oop onm otx onum oa on oc ky wi)) (HRA.out.five 0 (by omega) [.int .i64 5, .string ⟨#[]⟩, .string ⟨#[]⟩, .int .i64 0, .slice (some ⟨wr.heap.size, 0, none⟩) 1 1] rfl (QX.cong (E' := (fun j => if 0 ≤ j ∧ j < 0 + 5 then ([.int .i64 5, .string ⟨#[]⟩, .string ⟨#[]⟩, .int .i64 0, .slice (some ⟨wr.heap.size, 0, none⟩) 1 1] : List Value)[j - 0]! else (xE op2 nm2 tx2 num2 a2 n2 c2 sa sn sc kd lm ls na nn nc ga gn gc sk oop onm otx onum oa on oc ky wi) j)) (HRA.out.qe.sT ⟨_, HTN.out⟩) (below19 rfl rfl rfl rfl rfl rfl rfl rfl rfl rfl rfl rfl rfl rfl rfl rfl rfl rfl rfl))) (below19 rfl rfl rfl rfl rfl rfl rfl rfl rfl rfl rfl rfl rfl rfl rfl rfl rfl rfl rfl))
        go_wp2_with fail
        refine ⟨⟨j, 5, [], [], 0, some ⟨wr.heap.size, 0, none⟩, 1, 1, by go_num, by omega, ?_⟩, by simp [intOf]⟩
        first | exact HR3.out | (have h := HR3.out; rw [← setL_alloc _ _ _ _ (by omega)] at h; exact h)
  · have hrb := HP.out.rb
    have hld : (load19 ⟨w.heap.size, 0, none⟩).run Try.prog (w1) = .ok #[.int .i64 op, .string ⟨nm.toArray⟩, .string ⟨tx.toArray⟩, .int .i64 num, .slice a n c, .slice sa sn sc, .int .i64 kd, .int .i64 lm, .bool ls, .slice na nn nc, .slice ga gn gc, .int .i64 sk, .int .i64 oop, .string ⟨onm.toArray⟩, .string ⟨otx.toArray⟩, .int .i64 onum, .slice oa on oc, .string ⟨ky.toArray⟩, .int .i64 wi] (w1) := run_load19 HP.out.bk
    go_wp2_with fail
    refine o_ret H0.out HX.out HP.out _ _ rfl ?_
    rfl

end Go.Proofs.Ytmcnhphmglmmeaa

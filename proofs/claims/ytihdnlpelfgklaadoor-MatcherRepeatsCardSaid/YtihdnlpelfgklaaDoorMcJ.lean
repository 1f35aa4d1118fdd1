/-
 Joined: PatQ, MtCm, PatU, PatS, PatV, PatX, PatY, PatYa, PatYb.
-/
import Derived.Test.YtihdnlpelfgklaaDoorMcI
import Derived.Deep.RegionLaw
import Derived.Test.YtihdnlpelfgklaaDoorMcC
import Derived.Deep.LoopGhost
import Derived.Deep.WholeRow
import Derived.Laws.ResultCell
import Derived.Shelf.Abstract
import Derived.Test.YtihdnlpelfgklaaDoorMcA
import Derived.BigQuiet
import Derived.Shelf.Strings.Search1
import Derived.Laws.CopyOwn
namespace Go.Proofs.YtihdnlpelfgklaaDoor
open Go.RowKit
theorem infoN : (Tryd.prog.info? 29).map (fun i => (i.zero, i.size, i.bytes)) = some (some (.agg #[.int .i64 0, .slice none 0 0, .string ⟨#[]⟩, .slice none 0 0, .int .i64 0, .int .i64 0]), 6, 88) := by kernel_rfl
theorem node_one (op : Int) (ra : Option Addr) (rn rc : Nat) (nm : List UInt8) (a : Option Addr) (n c : Nat) (mn mx : Int) : ∀ u ∈ [Value.int .i64 op, .slice ra rn rc, .string ⟨nm.toArray⟩, .slice a n c, .int .i64 mn, .int .i64 mx], u.oneCell' = true := by
 intro u hu
 simp only [List.mem_cons, List.not_mem_nil, or_false] at hu
 rcases hu with rfl | rfl | rfl | rfl | rfl | rfl <;> rfl
theorem nkids_push {g : Nat} {w w4 w5 : World} {b : Nat} {E : Nat → Value} {kids : List NT} {v : Value} {o : Obj} {g' cap H : Nat} (hS : NS g w w4) (hb : w.heap.size < b) (hK : KL KR (fun k => w.heap.size < k ∧ k ≠ b) b 6 E 3 (b + 1) 29 6 kids v w4) (cs : List Value)
  (hown : w4.ownsRow (b + 1) 29 6 v kids.length cs)
  (hpush : ∀ (R' : NT → List Value → Prop) (W' : World) (x : NT) (us : List Value) (v' : Value), (∀ x us, KR (FF (fun k => w.heap.size < k ∧ k ≠ b) v) w4 x us → R' x us) → us.length = 6 → R' x us → kids.length + 1 ≤ 1000000 → W'.ownsRow (b + 1) 29 6 v' (kids.length + 1) (cs ++ us) → OR (b + 1) 29 6 R' W' (kids ++ [x]) v')
  (hgr : (w4.alloc o).grownBy w5 v.ownBlock) (hat : v.ownBlock = some g' ∨ g' = H) {t : NT} (us : List Value) (hH : H = (w4.alloc o).heap.size) (hu : us.length = 6) (hx : KR (FF (fun k => w.heap.size < k ∧ k ≠ b) v) w4 t us) (hl : kids.length + 1 ≤ 1000000)
  (ho : w5.ownsRow (b + 1) 29 6 (.slice (some ⟨g', 0, none⟩) (kids.length + 1) cap) (kids.length + 1) (cs ++ us)) :
  (NS g w (w5.setCell ⟨b, 3, none⟩ (.slice (some ⟨g', 0, none⟩) (kids.length + 1) cap)) ∧ KL KR (fun k => w.heap.size < k ∧ k ≠ b) b 6 E 3 (b + 1) 29 6 (kids ++ [t]) (.slice (some ⟨g', 0, none⟩) (kids.length + 1) cap) (w5.setCell ⟨b, 3, none⟩ (.slice (some ⟨g', 0, none⟩) (kids.length + 1) cap))) ∧
   w5.cell? ⟨b, 3, none⟩ = some v ∧ w5.frozen? ⟨b, 3, none⟩ = false := by
 have hB := push_below hgr hown hK.BW
 refine ⟨⟨⟨(hS.gd.on (hB.mono (by omega))).set (Nat.le_of_lt hb) _ _, (hS.bk.on hB (by omega)).other (Nat.ne_of_lt hb) _ _⟩, hK.push (by decide) (fun h => h.2 rfl) hgr (hat.imp id (fun e => by rw [e, hH]; simp)) cs hown hpush (fun _ _ _ _ h => KR.go h) t us hu hx hl ho⟩, ?_, ?_⟩
 ·exact (hB.cell (p := ⟨b, 3, none⟩) (Nat.lt_succ_self _)).trans (hK.cell (by decide))
 ·exact (hB.frozen (p := ⟨b, 3, none⟩) (Nat.lt_succ_self _)).trans (hK.bk.fz 3)
theorem nff_new {α : Type} {RR : (Nat → Prop) → World → α → List Value → Prop} {w0 b m c B k : Nat} {e : TypeId} {E : Nat → Value} {xs : List α} {v : Value} {W W' : World} {t : NT} {x : Value} (h : KL RR (fun k => w0 < k ∧ k ≠ b) b m E c B e k xs v W) (hb : w0 < b)
  (hT : NG (fun k => W.heap.size ≤ k) W' t x) : NG (FF (fun k => w0 < k ∧ k ≠ b) v) W' t x :=
 NG.go ⟨Nat.le_refl _, fun k hk _ => ⟨⟨⟨by have := h.bk.lt; omega, by have := h.bk.lt; omega⟩, fun e => by
  obtain ⟨cs, hown, _⟩ := h.row.cells
  have := (hown.lt k e).2
  omega⟩, rfl⟩⟩ _ _ hT
set_option maxRecDepth 100000 in
set_option maxHeartbeats 40000000 in
theorem node_aux (depth : Nat) (hd : depth ≤ 4) (IH : ∀ d, d + 1 = depth → ∀ (g : Nat) (w : World), CodesAt w g → Calls Tryd.prog 8 #[.pointer (some ⟨g, 0, none⟩), .int .i64 d] w (NP g w))
  (g : Nat) (w : World) (hc : CodesAt w g) : Calls Tryd.prog 8 #[.pointer (some ⟨g, 0, none⟩), .int .i64 depth] w (NP g w) := by
 have HS0 := Lib.hid (NS.start hc)
 have HIH := Lib.hid IH
 have HLF := Lib.hid leaf_any
 clear hc IH
 go_enter Tryd.func8, Tryd.ntmps8
 by_cases hz : depth = 0
 ·subst hz
  go_wp2_with fail
  refine (HLF.out g _ HS0.out.gd.codes).mono ?_
  rintro e wl ⟨v, t, rfl, hT, hgl, hsm⟩
  have HSL := Lib.hid (HS0.out.go hgl.ap hgl.codes)
  have HTL := Lib.hid (NG.go (F' := (fun k => w.heap.size < k)) (w' := wl) ⟨Nat.le_refl _, fun k hk _ => ⟨Nat.lt_of_lt_of_le HS0.out.bk.lt hk, rfl⟩⟩ _ _ hT)
  obtain ⟨op, rs, nm, kids, mn, mx, ra, rc, a, c, rfl, rfl, _⟩ := hT.open
  have HKL := Lib.hid hsm
  clear hT hgl hsm
  obtain ⟨k0, k1, k2, k3, k4, k5, f0, f1, f2, f3, f4, f5⟩ := bk6 HSL.out.bk
  go_wp2_with fail
  rw [nest6 wl]
  exact node_ret (P := 4) rfl HSL.out _ _ rfl (by rfl) HTL.out HKL.out
 ·obtain ⟨d, rfl⟩ : ∃ d, depth = d + 1 := ⟨depth - 1, by omega⟩
  have hd1 : ((d + 1 : Nat) : Int) - 1 = (d : Int) := by omega
  have z0 : decide (((d + 1 : Nat) : Int) ≤ 0) = false := decide_eq_false (by omega)
  have z0b : decide ((d : Int) + 1 ≤ 0) = false := decide_eq_false (by omega)
  clear hz
  go_wp2_with fail
  refine (next_any g 3 _ HS0.out.gd.codes (by omega) (by omega)).mono ?_
  rintro e w1 ⟨q, hq, rfl, hca, hap⟩
  have HS1 := Lib.hid (HS0.out.go hap hca)
  clear hca hap
  by_cases q0 : q = 0
  ·subst q0
   go_wp2_with fail
   refine (HLF.out g _ HS1.out.gd.codes).mono ?_
   rintro e wl ⟨v, t, rfl, hT, hgl, hsm⟩
   have HSL := Lib.hid (HS1.out.go hgl.ap hgl.codes)
   have HTL := Lib.hid (NG.go (F' := (fun k => w.heap.size < k)) (w' := wl) ⟨Nat.le_refl _, fun k hk _ => ⟨Nat.lt_of_lt_of_le HS1.out.bk.lt hk, rfl⟩⟩ _ _ hT)
   obtain ⟨op, rs, nm, kids, mn, mx, ra, rc, a, c, rfl, rfl, _⟩ := hT.open
   have HKL := Lib.hid hsm
   clear hT hgl hsm
   obtain ⟨k0, k1, k2, k3, k4, k5, f0, f1, f2, f3, f4, f5⟩ := bk6 HSL.out.bk
   go_wp2_with fail
   rw [nest6 wl]
   exact node_ret (P := 4) rfl HSL.out _ _ rfl (by rfl) HTL.out HKL.out
  ·have y0 : ((q : Int) == 0) = false := by rw [beq_eq_false_iff_ne]; omega
   clear q0
   go_wp2_with fail
   refine (next_any g 7 _ HS1.out.gd.codes (by omega) (by omega)).mono ?_
   rintro e w2 ⟨r, hr, rfl, hca, hap⟩
   have HS := Lib.hid (HS1.out.go hap hca)
   clear hca hap HS1 HS0 y0 hq
   rcases (show (r = 0 ∨ r = 1 ∨ r = 2) ∨ r = 3 ∨ r = 4 ∨ 5 ≤ r by omega) with h012 | rfl | rfl | h5
   ·go_upto_if 21 with fail
    go_cut [21] (fun b wx => b = .bool true ∧ w2 = wx)
    case first =>
     rcases h012 with rfl | rfl | rfl
     all_goals
      go_wp2_with fail
      go_meet
      exact ⟨rfl, rfl⟩
    case rest =>
    obtain ⟨rfl, rfl⟩ := hcut
    have HK1 : Hid (KL KR (fun k => w.heap.size < k ∧ k ≠ w2.heap.size) w2.heap.size 6 (nE 2 none 0 0 [] none 0 0 0 0) 3 (w2.heap.size + 1) 29 6 [] (.slice none 0 0) (w2.alloc (.cells #[.int .i64 2, .slice none 0 0, .string ⟨#[]⟩, .slice none 0 0, .int .i64 0, .int .i64 0] 29))) := Lib.hid ⟨(nE_new w2 2 none 0 0 [] none 0 0 0 0).cong (fun i hi => by
     match i, hi with
     | 0, _ => rfl
     | 1, _ => rfl
     | 2, _ => rfl
     | 3, _ => rfl
     | 4, _ => rfl
     | 5, _ => rfl), OR.nil, Nat.lt_succ_self _, by simp⟩
    have HS1 := Lib.hid (HS.out.al (.cells #[.int .i64 2, .slice none 0 0, .string ⟨#[]⟩, .slice none 0 0, .int .i64 0, .int .i64 0] 29))
    obtain ⟨b, hb⟩ : ∃ b, w2.heap.size = b := ⟨_, rfl⟩
    have HGB := Lib.hid (show g < b from hb ▸ HS.out.gd.codes.1)
    have HBL := Lib.hid (show w.heap.size < b from hb ▸ HS.out.bk.lt)
    have HNG : Hid (¬ (w.heap.size < g ∧ g ≠ b)) := Lib.hid (by have := HS.out.gd.hg; omega)
    rw [hb] at HK1
    go_wp2_with fail
    (try rw [hb])
    clear hb
    refine (next_any g 2 _ HS1.out.gd.codes (by omega) (by omega)).mono ?_
    rintro e w3 ⟨m, hm, rfl, hca, hap⟩
    have HS2 := Lib.hid (HS1.out.go hap hca)
    have HK2 := Lib.hid (HK1.out.go hap HGB.out HNG.out (fun _ _ _ _ h => KR.go h))
    clear hca hap HS1 HK1
    go_wp2_with fail
    go_loopw [6] (fun i wr => ∃ (j : Nat) (kids : List NT) (v : Value), i = .int .i64 j ∧ j + kids.length ≤ 3 ∧ Hid (∀ k ∈ kids, Sm 1000 k) ∧ NS g w wr ∧ KL KR (fun k => w.heap.size < k ∧ k ≠ b) b 6 (nE 2 none 0 0 [] none 0 0 0 0) 3 (b + 1) 29 6 kids v wr) (fun i _ => (intOf i).toNat)
    case atStart => exact ⟨2 + m, [], _, by go_num, by simp; omega, Lib.hid (by simp), HS2.out, HK2.out⟩
    case round =>
     obtain ⟨j, kids, v, rfl, hjk, HSM, hS, hK⟩ := hrel
     have HSR := Lib.hid hS
     have HKR := Lib.hid hK
     clear hS hK HS2 HK2 HS
     cases j with
     | zero =>
      have HRW := Lib.hid (HKR.out.row.rw (F := (fun k => w.heap.size < k)) (R := _) (fun b hb => by have := HBL.out; omega))
      have HRW2 : Hid (RW (fun k => w.heap.size < k) 6 (KR (fun k => w.heap.size < k) wr) wr kids v) := Lib.hid (HRW.out.go ⟨Nat.le_refl _, fun k hk _ => ⟨hk, rfl⟩⟩ (fun t us h => NG.go ⟨Nat.le_refl _, fun k hk _ => ⟨hk.1.1, rfl⟩⟩ _ _ h))
      obtain ⟨k0, k1, k2, k3, k4, k5, f0, f1, f2, f3, f4, f5⟩ := bk6 HSR.out.bk
      obtain ⟨a, c, rfl, _⟩ := HRW2.out
      have b0 : wr.cell? ⟨b, 0, none⟩ = some (.int .i64 2) := HKR.out.bk.ev 0 (by omega)
      have b1 : wr.cell? ⟨b, 1, none⟩ = some (.slice none 0 0) := HKR.out.bk.ev 1 (by omega)
      have b2 : wr.cell? ⟨b, 2, none⟩ = some (.string ⟨#[]⟩) := HKR.out.bk.ev 2 (by omega)
      have b3 : wr.cell? ⟨b, 3, none⟩ = some (.slice a kids.length c) := HKR.out.bk.ev 3 (by omega)
      have b4 : wr.cell? ⟨b, 4, none⟩ = some (.int .i64 0) := HKR.out.bk.ev 4 (by omega)
      have b5 : wr.cell? ⟨b, 5, none⟩ = some (.int .i64 0) := HKR.out.bk.ev 5 (by omega)
      have hbne : b ≠ w.heap.size := Nat.ne_of_gt HBL.out
      go_wp2_with fail
      rw [nest6 wr]
      exact node_ret (P := 4) rfl HSR.out _ _ rfl (by rfl) (NG.node (rs := []) RW.nil HRW2.out 2 [] 0 0 (by simp)) (Sm.node (by simp) (by omega) HSM.out)
     | succ j =>
      have hj0 : (0 : Int) < (j : Int) + 1 := by omega
      have hwd : IntKind.i64.wrap (d : Int) = (d : Int) := (IntWalk.i64_left _).trans (IntWalk.wrap64_in _ (by omega))
      have hc0 : wr.drew.cell? ⟨b, 3, none⟩ = some v := HKR.out.cell (by decide)
      have hf0 : wr.drew.frozen? ⟨b, 3, none⟩ = false := HKR.out.bk.fz 3
      have HSD := Lib.hid HSR.out.dr
      have HKD := Lib.hid (HKR.out.go (Apart.of_below (Below.refl _ wr).drew HSR.out.gd.codes.1) HGB.out HNG.out (fun _ _ _ _ h => KR.go h))
      obtain ⟨i0, hi, hz0, hz1, hz2⟩ := info_parts infoN
      go_wp2_with fail
      go_region_law (first
       | (refine step_append_lies _ (by rfl) _ _ _ (by rfl) (b + 1) 29 i0 (.agg #[.int .i64 0, .slice none 0 0, .string ⟨#[]⟩, .slice none 0 0, .int .i64 0, .int .i64 0]) 6 88 Tryd.underlying27 hi hz0 hz1 hz2 rfl (by decide) _ _ _ (by rfl) (hown4.alloc _) ⟨w4.heap.size, 0, none⟩ 1 1 [.int .i64 op, .slice ra rs.length rc, .string ⟨nm.toArray⟩, .slice a kk.length c, .int .i64 mn, .int .i64 mx] (by rfl) rfl (World.news_of_block (heap_alloc_new w4 _)) (node_one _ _ _ _ _ _ _ _ _ _) (by omega) (by unfold maxLen; omega) (by omega) (Nat.le_trans HK4.out.BW (by simp)) _ rfl ?_; intro g' cap' w5 hown5 hgrow5 hat5 hlt5; obtain ⟨hP5, hc5, hf5⟩ := nkids_push HS4.out HBL.out HK4.out cs hown4 HPU.out hgrow5 hat5 _ rfl rfl HTR.out (by omega) hown5; have HP5 := Lib.hid hP5; clear hP5 hown5 hgrow5)
       | (go_simp; go_at_call 8; (try rw [hwd]); refine (HIH.out d rfl g _ HSD.out.gd.codes).mono ?_; rintro e w4 ⟨x, t, rfl, hT, hg4, hsm4⟩; have HSM4 := Lib.hid hsm4; clear hsm4; have HS4 := Lib.hid (HSD.out.go hg4.ap hg4.codes); have HK4 := Lib.hid (HKD.out.go hg4.ap HGB.out HNG.out (fun _ _ _ _ h => KR.go h)); have hc4 : w4.cell? ⟨b, 3, none⟩ = some v := HK4.out.cell (by decide); have hf4 : w4.frozen? ⟨b, 3, none⟩ = false := HK4.out.bk.fz 3; have hca4 : ∀ o, (w4.alloc o).cell? ⟨b, 3, none⟩ = some v := (fun o => HK4.out.cellA (by decide) o); have hfa4 : ∀ o, (w4.alloc o).frozen? ⟨b, 3, none⟩ = false := (fun o => HK4.out.fzA 3 o); obtain ⟨op, rs, nm, kk, mn, mx, ra, rc, a, c, rfl, rfl, _⟩ := hT.open; obtain ⟨cs, hown4, hpush⟩ := HK4.out.row.cells; have HPU := Lib.hid hpush; have HTR : Hid (KR (FF (fun k => w.heap.size < k ∧ k ≠ b) v) w4 (.node op rs nm kk mn mx) [.int .i64 op, .slice ra rs.length rc, .string ⟨nm.toArray⟩, .slice a kk.length c, .int .i64 mn, .int .i64 mx]) := Lib.hid (nff_new HKD.out HBL.out hT); clear hpush hT hg4))
      all_goals (go_wp2_with fail)
      all_goals refine ⟨⟨j, kids ++ [_], _, by go_num, by simp; omega, Lib.hid (fun k hk => (List.mem_append.1 hk).elim (HSM.out k) (fun h => by rw [List.mem_singleton.1 h]; exact HSM4.out)), HP5.out.1, HP5.out.2⟩, by simp [intOf]⟩
   ·clear hr
    have HK1 : Hid (KL KR (fun k => w.heap.size < k ∧ k ≠ w2.heap.size) w2.heap.size 6 (nE 3 none 0 0 [] none 0 0 0 0) 3 (w2.heap.size + 1) 29 6 [] (.slice none 0 0) (w2.alloc (.cells #[.int .i64 3, .slice none 0 0, .string ⟨#[]⟩, .slice none 0 0, .int .i64 0, .int .i64 0] 29))) := Lib.hid ⟨(nE_new w2 3 none 0 0 [] none 0 0 0 0).cong (fun i hi => by
     match i, hi with
     | 0, _ => rfl
     | 1, _ => rfl
     | 2, _ => rfl
     | 3, _ => rfl
     | 4, _ => rfl
     | 5, _ => rfl), OR.nil, Nat.lt_succ_self _, by simp⟩
    have HS1 := Lib.hid (HS.out.al (.cells #[.int .i64 3, .slice none 0 0, .string ⟨#[]⟩, .slice none 0 0, .int .i64 0, .int .i64 0] 29))
    obtain ⟨b, hb⟩ : ∃ b, w2.heap.size = b := ⟨_, rfl⟩
    have HGB := Lib.hid (show g < b from hb ▸ HS.out.gd.codes.1)
    have HBL := Lib.hid (show w.heap.size < b from hb ▸ HS.out.bk.lt)
    have HNG : Hid (¬ (w.heap.size < g ∧ g ≠ b)) := Lib.hid (by have := HS.out.gd.hg; omega)
    rw [hb] at HK1
    go_wp2_with fail
    (try rw [hb])
    clear hb
    refine (next_any g 2 _ HS1.out.gd.codes (by omega) (by omega)).mono ?_
    rintro e w3 ⟨m, hm, rfl, hca, hap⟩
    have HS2 := Lib.hid (HS1.out.go hap hca)
    have HK2 := Lib.hid (HK1.out.go hap HGB.out HNG.out (fun _ _ _ _ h => KR.go h))
    clear hca hap HS1 HK1
    go_wp2_with fail
    go_loopw [8] (fun i wr => ∃ (j : Nat) (kids : List NT) (v : Value), i = .int .i64 j ∧ j + kids.length ≤ 3 ∧ Hid (∀ k ∈ kids, Sm 1000 k) ∧ NS g w wr ∧ KL KR (fun k => w.heap.size < k ∧ k ≠ b) b 6 (nE 3 none 0 0 [] none 0 0 0 0) 3 (b + 1) 29 6 kids v wr) (fun i _ => (intOf i).toNat)
    case atStart => exact ⟨2 + m, [], _, by go_num, by simp; omega, Lib.hid (by simp), HS2.out, HK2.out⟩
    case round =>
     obtain ⟨j, kids, v, rfl, hjk, HSM, hS, hK⟩ := hrel
     have HSR := Lib.hid hS
     have HKR := Lib.hid hK
     clear hS hK HS2 HK2 HS
     cases j with
     | zero =>
      have HRW := Lib.hid (HKR.out.row.rw (F := (fun k => w.heap.size < k)) (R := _) (fun b hb => by have := HBL.out; omega))
      have HRW2 : Hid (RW (fun k => w.heap.size < k) 6 (KR (fun k => w.heap.size < k) wr) wr kids v) := Lib.hid (HRW.out.go ⟨Nat.le_refl _, fun k hk _ => ⟨hk, rfl⟩⟩ (fun t us h => NG.go ⟨Nat.le_refl _, fun k hk _ => ⟨hk.1.1, rfl⟩⟩ _ _ h))
      obtain ⟨k0, k1, k2, k3, k4, k5, f0, f1, f2, f3, f4, f5⟩ := bk6 HSR.out.bk
      obtain ⟨a, c, rfl, _⟩ := HRW2.out
      have b0 : wr.cell? ⟨b, 0, none⟩ = some (.int .i64 3) := HKR.out.bk.ev 0 (by omega)
      have b1 : wr.cell? ⟨b, 1, none⟩ = some (.slice none 0 0) := HKR.out.bk.ev 1 (by omega)
      have b2 : wr.cell? ⟨b, 2, none⟩ = some (.string ⟨#[]⟩) := HKR.out.bk.ev 2 (by omega)
      have b3 : wr.cell? ⟨b, 3, none⟩ = some (.slice a kids.length c) := HKR.out.bk.ev 3 (by omega)
      have b4 : wr.cell? ⟨b, 4, none⟩ = some (.int .i64 0) := HKR.out.bk.ev 4 (by omega)
      have b5 : wr.cell? ⟨b, 5, none⟩ = some (.int .i64 0) := HKR.out.bk.ev 5 (by omega)
      have hbne : b ≠ w.heap.size := Nat.ne_of_gt HBL.out
      go_wp2_with fail
      rw [nest6 wr]
      exact node_ret (P := 4) rfl HSR.out _ _ rfl (by rfl) (NG.node (rs := []) RW.nil HRW2.out 3 [] 0 0 (by simp)) (Sm.node (by simp) (by omega) HSM.out)
     | succ j =>
      have hj0 : (0 : Int) < (j : Int) + 1 := by omega
      have hwd : IntKind.i64.wrap (d : Int) = (d : Int) := (IntWalk.i64_left _).trans (IntWalk.wrap64_in _ (by omega))
      have hc0 : wr.drew.cell? ⟨b, 3, none⟩ = some v := HKR.out.cell (by decide)
      have hf0 : wr.drew.frozen? ⟨b, 3, none⟩ = false := HKR.out.bk.fz 3
      have HSD := Lib.hid HSR.out.dr
      have HKD := Lib.hid (HKR.out.go (Apart.of_below (Below.refl _ wr).drew HSR.out.gd.codes.1) HGB.out HNG.out (fun _ _ _ _ h => KR.go h))
      obtain ⟨i0, hi, hz0, hz1, hz2⟩ := info_parts infoN
      go_wp2_with fail
      go_region_law (first
       | (refine step_append_lies _ (by rfl) _ _ _ (by rfl) (b + 1) 29 i0 (.agg #[.int .i64 0, .slice none 0 0, .string ⟨#[]⟩, .slice none 0 0, .int .i64 0, .int .i64 0]) 6 88 Tryd.underlying27 hi hz0 hz1 hz2 rfl (by decide) _ _ _ (by rfl) (hown4.alloc _) ⟨w4.heap.size, 0, none⟩ 1 1 [.int .i64 op, .slice ra rs.length rc, .string ⟨nm.toArray⟩, .slice a kk.length c, .int .i64 mn, .int .i64 mx] (by rfl) rfl (World.news_of_block (heap_alloc_new w4 _)) (node_one _ _ _ _ _ _ _ _ _ _) (by omega) (by unfold maxLen; omega) (by omega) (Nat.le_trans HK4.out.BW (by simp)) _ rfl ?_; intro g' cap' w5 hown5 hgrow5 hat5 hlt5; obtain ⟨hP5, hc5, hf5⟩ := nkids_push HS4.out HBL.out HK4.out cs hown4 HPU.out hgrow5 hat5 _ rfl rfl HTR.out (by omega) hown5; have HP5 := Lib.hid hP5; clear hP5 hown5 hgrow5)
       | (go_simp; go_at_call 8; (try rw [hwd]); refine (HIH.out d rfl g _ HSD.out.gd.codes).mono ?_; rintro e w4 ⟨x, t, rfl, hT, hg4, hsm4⟩; have HSM4 := Lib.hid hsm4; clear hsm4; have HS4 := Lib.hid (HSD.out.go hg4.ap hg4.codes); have HK4 := Lib.hid (HKD.out.go hg4.ap HGB.out HNG.out (fun _ _ _ _ h => KR.go h)); have hc4 : w4.cell? ⟨b, 3, none⟩ = some v := HK4.out.cell (by decide); have hf4 : w4.frozen? ⟨b, 3, none⟩ = false := HK4.out.bk.fz 3; have hca4 : ∀ o, (w4.alloc o).cell? ⟨b, 3, none⟩ = some v := (fun o => HK4.out.cellA (by decide) o); have hfa4 : ∀ o, (w4.alloc o).frozen? ⟨b, 3, none⟩ = false := (fun o => HK4.out.fzA 3 o); obtain ⟨op, rs, nm, kk, mn, mx, ra, rc, a, c, rfl, rfl, _⟩ := hT.open; obtain ⟨cs, hown4, hpush⟩ := HK4.out.row.cells; have HPU := Lib.hid hpush; have HTR : Hid (KR (FF (fun k => w.heap.size < k ∧ k ≠ b) v) w4 (.node op rs nm kk mn mx) [.int .i64 op, .slice ra rs.length rc, .string ⟨nm.toArray⟩, .slice a kk.length c, .int .i64 mn, .int .i64 mx]) := Lib.hid (nff_new HKD.out HBL.out hT); clear hpush hT hg4))
      all_goals (go_wp2_with fail)
      all_goals refine ⟨⟨j, kids ++ [_], _, by go_num, by simp; omega, Lib.hid (fun k hk => (List.mem_append.1 hk).elim (HSM.out k) (fun h => by rw [List.mem_singleton.1 h]; exact HSM4.out)), HP5.out.1, HP5.out.2⟩, by simp [intOf]⟩
   ·clear hr
    go_wp2_with fail
    refine wp_region_slots (by rfl) (by kernel_rfl) (by kernel_rfl) 104 [] [(0, .pointer (some ⟨g, 0, none⟩)), (1, .int .i64 ((d + 1 : Nat) : Int)), (4, .pointer (some ⟨w.heap.size, 0, none⟩))] (by kernel_rfl) (CI g w) (CRr w) (CG g w d) (CG.keep g w d) ?_ ?_ ?_
    case refine_1 =>
     intro i o ho ac W hB hd K hK
     have hi : i < 17 := (Array.getElem?_eq_some_iff.1 ho).1
     have hs0 : ac.tmps.getD 0 undef = .pointer (some ⟨g, 0, none⟩) := hB.fixed 0 _ (by simp)
     have hs1 : ac.tmps.getD 1 undef = .int .i64 ((d + 1 : Nat) : Int) := hB.fixed 1 _ (by simp)
     have hs4 : ac.tmps.getD 4 undef = .pointer (some ⟨w.heap.size, 0, none⟩) := hB.fixed 4 _ (by simp)
     have HKK := Lib.hid hK
     clear hK
     rcases (show i = 0 ∨ i = 1 ∨ i = 2 ∨ i = 3 ∨ i = 4 ∨ i = 5 ∨ i = 6 ∨ i = 7 ∨ i = 8 ∨ i = 9 ∨ i = 10 ∨ i = 11 ∨ i = 12 ∨ i = 13 ∨ i = 14 ∨ i = 15 ∨ i = 16 by omega) with rfl | rfl | rfl | rfl | rfl | rfl | rfl | rfl | rfl | rfl | rfl | rfl | rfl | rfl | rfl | rfl | rfl
     ·obtain rfl := Option.some.inj ho
      go_simp
      exact HKK.out _ _ (CRr.refl w W) hB.inv rfl
     ·obtain rfl := Option.some.inj ho
      have hd0 : CG g w d 0 (ac.tmps.getD 65 undef) W := hd ⟨0, .data⟩ (by simp) rfl
      simp only [CG] at hd0
      go_simp
      refine (next_any g 26 _ hB.inv.1.codes (by omega) (by omega)).mono ?_
      rintro e W2 ⟨k, hk, rfl, hca, hap⟩
      exact HKK.out _ _ (CRr.ap hB.inv hap) (hB.inv.ap hap hca) ⟨k, hk, rfl⟩
     ·obtain rfl := Option.some.inj ho
      have hd1 : CG g w d 1 (ac.tmps.getD 66 undef) W := hd ⟨1, .data⟩ (by simp) rfl
      simp only [CG] at hd1
      obtain ⟨k, hk, hv⟩ := hd1
      have hwr : IntKind.i64.wrap (97 + (k : Int)) = 97 + (k : Int) := IntWalk.i64_in _ (by omega)
      go_simp
      exact HKK.out _ _ (CRr.refl w W) hB.inv ⟨k, hk, rfl⟩
     ·obtain rfl := Option.some.inj ho
      have hd2 : CG g w d 2 (ac.tmps.getD 67 undef) W := hd ⟨2, .data⟩ (by simp) rfl
      simp only [CG] at hd2
      obtain ⟨k, hk, hv⟩ := hd2
      obtain ⟨x, hx⟩ : ∃ x : UInt8, x.toNat = 97 + k := ⟨UInt8.ofNat (97 + k), Asc.ofNat_toNat8 (by omega)⟩
      have HE : Hid (IntKind.u8.wrap (97 + (k : Int)) = (x.toNat : Int)) := Lib.hid (by rw [IntWalk.u8_in _ (by omega)]; omega)
      clear hx
      go_simp
      exact HKK.out _ _ (CRr.refl w W) hB.inv ⟨x, congrArg (Value.int .u8) HE.out⟩
     ·obtain rfl := Option.some.inj ho
      go_simp
      exact HKK.out _ _ (CRr.refl w W) hB.inv rfl
     ·obtain rfl := Option.some.inj ho
      have hd4 : CG g w d 4 (ac.tmps.getD 69 undef) W := hd ⟨4, .data⟩ (by simp) rfl
      simp only [CG] at hd4
      go_simp
      refine (next_any g 26 _ hB.inv.1.codes (by omega) (by omega)).mono ?_
      rintro e W2 ⟨k, hk, rfl, hca, hap⟩
      exact HKK.out _ _ (CRr.ap hB.inv hap) (hB.inv.ap hap hca) ⟨k, hk, rfl⟩
     ·obtain rfl := Option.some.inj ho
      have hd5 : CG g w d 5 (ac.tmps.getD 70 undef) W := hd ⟨5, .data⟩ (by simp) rfl
      simp only [CG] at hd5
      obtain ⟨k, hk, hv⟩ := hd5
      have hwr : IntKind.i64.wrap (97 + (k : Int)) = 97 + (k : Int) := IntWalk.i64_in _ (by omega)
      go_simp
      exact HKK.out _ _ (CRr.refl w W) hB.inv ⟨k, hk, rfl⟩
     ·obtain rfl := Option.some.inj ho
      have hd6 : CG g w d 6 (ac.tmps.getD 71 undef) W := hd ⟨6, .data⟩ (by simp) rfl
      simp only [CG] at hd6
      obtain ⟨k, hk, hv⟩ := hd6
      obtain ⟨x, hx⟩ : ∃ x : UInt8, x.toNat = 97 + k := ⟨UInt8.ofNat (97 + k), Asc.ofNat_toNat8 (by omega)⟩
      have HE : Hid (IntKind.u8.wrap (97 + (k : Int)) = (x.toNat : Int)) := Lib.hid (by rw [IntWalk.u8_in _ (by omega)]; omega)
      clear hx
      go_simp
      exact HKK.out _ _ (CRr.refl w W) hB.inv ⟨x, congrArg (Value.int .u8) HE.out⟩
     ·obtain rfl := Option.some.inj ho
      have hd3 : CG g w d 3 (ac.tmps.getD 68 undef) W := hd ⟨3, .data⟩ (by simp) rfl
      simp only [CG] at hd3
      have hd7 : CG g w d 7 (ac.tmps.getD 72 undef) W := hd ⟨7, .data⟩ (by simp) rfl
      simp only [CG] at hd7
      obtain ⟨x, hx⟩ := hd3
      obtain ⟨y, hy⟩ := hd7
      have hx2 : ac.tmps[68]?.getD undef = .int .u8 (x.toNat : Int) := by rw [← Array.getD_eq_getD_getElem?]; exact hx
      have hy2 : ac.tmps[72]?.getD undef = .int .u8 (y.toNat : Int) := by rw [← Array.getD_eq_getD_getElem?]; exact hy
      go_simp
      exact HKK.out _ _ (CRr.al hB.inv _) (hB.inv.al _) ⟨_, x, y, rfl, Blk.new hB.inv.lt _⟩
     ·obtain rfl := Option.some.inj ho
      have hd8 : CG g w d 8 (ac.tmps.getD 73 undef) W := hd ⟨8, .data⟩ (by simp) rfl
      simp only [CG] at hd8
      obtain ⟨q, x, y, hv, hb⟩ := hd8
      have hcv := conv2 W q x y hb.2.2
      go_simp
      exact HKK.out _ _ (CRr.refl w W) hB.inv ⟨[x, y], by simp, rfl⟩
     ·obtain rfl := Option.some.inj ho
      go_simp
      exact HKK.out _ _ (CRr.refl w W) hB.inv rfl
     ·obtain rfl := Option.some.inj ho
      go_simp
      exact HKK.out _ _ (CRr.refl w W) hB.inv rfl
     ·obtain rfl := Option.some.inj ho
      have hd11 : CG g w d 11 (ac.tmps.getD 76 undef) W := hd ⟨11, .data⟩ (by simp) rfl
      simp only [CG] at hd11
      have hwd : IntKind.i64.wrap (d : Int) = (d : Int) := IntWalk.i64_in _ (by omega)
      have hws : IntKind.i64.wrap (((d + 1 : Nat) : Int) - 1) = (d : Int) := by rw [hd1]; exact hwd
      go_simp
      exact HKK.out _ _ (CRr.refl w W) hB.inv rfl
     ·obtain rfl := Option.some.inj ho
      have hd10 : CG g w d 10 (ac.tmps.getD 75 undef) W := hd ⟨10, .data⟩ (by simp) rfl
      simp only [CG] at hd10
      have hd12 : CG g w d 12 (ac.tmps.getD 77 undef) W := hd ⟨12, .data⟩ (by simp) rfl
      simp only [CG] at hd12
      go_simp
      refine (HIH.out d rfl g W hB.inv.1.codes).mono ?_
      rintro e W2 ⟨v, t, rfl, hT, hg4, hsm⟩
      exact HKK.out _ _ (CRr.ap hB.inv hg4.ap) (hB.inv.ap hg4.ap hg4.codes) ⟨t, NG.go ⟨Nat.le_refl _, fun k hk _ => ⟨Nat.lt_of_lt_of_le hB.inv.lt hk, rfl⟩⟩ _ _ hT, hsm⟩
     ·obtain rfl := Option.some.inj ho
      have hd13 : CG g w d 13 (ac.tmps.getD 78 undef) W := hd ⟨13, .data⟩ (by simp) rfl
      simp only [CG] at hd13
      obtain ⟨t, ht, hsm⟩ := hd13
      obtain ⟨op, rs, nm, kids, mn, mx, ra, rc, a, c, _, hv, _⟩ := ht.open
      rw [hv] at ht
      have hlt := hB.inv.lt
      have hv2 : ac.tmps[78]?.getD undef = .agg #[.int .i64 op, .slice ra rs.length rc, .string ⟨nm.toArray⟩, .slice a kids.length c, .int .i64 mn, .int .i64 mx] := by rw [← Array.getD_eq_getD_getElem?]; exact hv
      go_simp
      refine HKK.out _ _ (CRr.al hB.inv _) (hB.inv.al _) ⟨W.heap.size, t, rfl, ?_, hsm⟩
      exact (OR.lit (B := W.heap.size) (e := 29) (k := 6) (R := KR (fun k => w.heap.size < k) (W.alloc (.cells #[.int .i64 op, .slice ra rs.length rc, .string ⟨nm.toArray⟩, .slice a kids.length c, .int .i64 mn, .int .i64 mx] 29))) W t [.int .i64 op, .slice ra rs.length rc, .string ⟨nm.toArray⟩, .slice a kids.length c, .int .i64 mn, .int .i64 mx] (Nat.le_refl _) rfl (NG.go ⟨by simp, fun k hk h2 => ⟨hk, ((Below.refl _ W).alloc (Nat.le_refl _) _).block k h2⟩⟩ _ _ ht)).rw (F := fun k => w.heap.size < k) (fun b hb => Nat.lt_of_lt_of_le hlt hb)
     ·obtain rfl := Option.some.inj ho
      have hd9 : CG g w d 9 (ac.tmps.getD 74 undef) W := hd ⟨9, .data⟩ (by simp) rfl
      simp only [CG] at hd9
      have hd14 : CG g w d 14 (ac.tmps.getD 79 undef) W := hd ⟨14, .data⟩ (by simp) rfl
      simp only [CG] at hd14
      obtain ⟨y, hy, hv9⟩ := hd9
      obtain ⟨q, t, hv, hrw, hsm⟩ := hd14
      rw [hv] at hrw
      have hv2 : ac.tmps[79]?.getD undef = .slice (some ⟨q, 0, none⟩) 1 1 := by rw [← Array.getD_eq_getD_getElem?]; exact hv
      have hv3 : ac.tmps[74]?.getD undef = .string ⟨y.toArray⟩ := by rw [← Array.getD_eq_getD_getElem?]; exact hv9
      go_simp
      exact HKK.out _ _ (CRr.refl w W) hB.inv ⟨y, q, .node 5 [] y [t] 0 0, rfl, NG.node (rs := []) RW.nil hrw 5 y 0 0 hy, Sm.node (by simp) (by simp) (by simpa using hsm)⟩
     ·obtain rfl := Option.some.inj ho
      have hd15 : CG g w d 15 (ac.tmps.getD 80 undef) W := hd ⟨15, .data⟩ (by simp) rfl
      simp only [CG] at hd15
      obtain ⟨y, q, t, hv, ht, hsm⟩ := hd15
      rw [hv] at ht
      obtain ⟨E, hE⟩ := hB.inv.2
      obtain ⟨k0, k1, k2, k3, k4, k5, f0, f1, f2, f3, f4, f5⟩ := bk6 hE
      go_simp
      have hfin := bk_set6 hE 5 none 0 0 y (some ⟨q, 0, none⟩) 1 1 0 0
      have hUP : UP w.heap.size W (setL W w.heap.size [.int .i64 5, .slice none 0 0, .string ⟨y.toArray⟩, .slice (some ⟨q, 0, none⟩) 1 1, .int .i64 0, .int .i64 0] 0) := ⟨by rw [setL_size]; exact Nat.le_refl _, fun k h1 _ => setL_heap _ (by omega) _ _⟩
      have hres : Cres w.heap.size (setL W w.heap.size [.int .i64 5, .slice none 0 0, .string ⟨y.toArray⟩, .slice (some ⟨q, 0, none⟩) 1 1, .int .i64 0, .int .i64 0] 0) := ⟨5, none, 0, 0, y, some ⟨q, 0, none⟩, 1, 1, 0, 0, t, hfin, NG.go hUP.stay _ _ ht, hsm⟩
      exact HKK.out undef (setL W w.heap.size [.int .i64 5, .slice none 0 0, .string ⟨y.toArray⟩, .slice (some ⟨q, 0, none⟩) 1 1, .int .i64 0, .int .i64 0] 0) ⟨hUP, fun _ => hres⟩ ⟨hB.inv.1.on (setL_below (Nat.le_refl _) _ _ _), _, hfin⟩ hres
    case refine_2 =>
     intro ac W hB hF
     have h16 : CG g w d 16 undef W := hF 16 (by decide)
     simp only [CG] at h16
     go_wp2_with fail
     exact node_ret2 (P := 4) rfl hB.inv.1 h16 ac hB.defers (hB.fixed 4 _ (by simp))
    case refine_3 =>
     refine ⟨rfl, rfl, fun s v hs => ?_, HS.out.gd.dr, _, HS.out.bk.dr⟩
     simp only [List.mem_cons, Prod.mk.injEq, List.not_mem_nil, or_false] at hs
     rcases hs with ⟨rfl, rfl⟩ | ⟨rfl, rfl⟩ | ⟨rfl, rfl⟩ <;> rfl
   ·have y0 : ((r : Int) == 0) = false := by rw [beq_eq_false_iff_ne]; omega
    have y1 : ((r : Int) == 1) = false := by rw [beq_eq_false_iff_ne]; omega
    have y2 : ((r : Int) == 2) = false := by rw [beq_eq_false_iff_ne]; omega
    have y3 : ((r : Int) == 3) = false := by rw [beq_eq_false_iff_ne]; omega
    have y4 : ((r : Int) == 4) = false := by rw [beq_eq_false_iff_ne]; omega
    clear hr h5
    go_wp2_with fail
    refine (HIH.out d rfl g w2 HS.out.gd.codes).mono ?_
    rintro e w3 ⟨v, t, rfl, hT, hg2, hsm⟩
    have HSM := Lib.hid hsm
    clear hsm
    have HS3 := Lib.hid (HS.out.go hg2.ap hg2.codes)
    have HT3 := Lib.hid (NG.go (F' := fun k => w.heap.size < k) (w' := w3) ⟨Nat.le_refl _, fun k hk _ => ⟨Nat.lt_of_lt_of_le HS.out.bk.lt hk, rfl⟩⟩ _ _ hT)
    clear hT hg2
    obtain ⟨op, rs, nm, kids, mn, mx, ra, rc, a, c, _, rfl, _⟩ := HT3.out.open
    have HSA := Lib.hid (HS3.out.al (.cells #[.int .i64 op, .slice ra rs.length rc, .string ⟨nm.toArray⟩, .slice a kids.length c, .int .i64 mn, .int .i64 mx] 29))
    have HR := Lib.hid ((OR.lit (B := w3.heap.size) (e := 29) (k := 6) (R := KR (fun k => w.heap.size < k) (w3.alloc (.cells #[.int .i64 op, .slice ra rs.length rc, .string ⟨nm.toArray⟩, .slice a kids.length c, .int .i64 mn, .int .i64 mx] 29))) w3 t [.int .i64 op, .slice ra rs.length rc, .string ⟨nm.toArray⟩, .slice a kids.length c, .int .i64 mn, .int .i64 mx] (Nat.le_refl _) rfl (NG.go ⟨by simp, fun k hk h2 => ⟨hk, ((Below.refl _ w3).alloc (Nat.le_refl _) _).block k h2⟩⟩ _ _ HT3.out)).rw (F := fun k => w.heap.size < k) (fun b hb => Nat.lt_of_lt_of_le HS3.out.bk.lt hb))
    go_wp2_with fail
    refine (next_any g 3 _ HSA.out.gd.codes (by omega) (by omega)).mono ?_
    rintro e w4 ⟨m, hm, rfl, hca, hap⟩
    have HS4 := Lib.hid (HSA.out.go hap hca)
    have HI0 : Hid (BI g w w4.heap.size (some ⟨w3.heap.size, 0, none⟩) m t (w4.alloc (.cells #[.int .i64 4, .slice none 0 0, .string ⟨#[]⟩, .slice (some ⟨w3.heap.size, 0, none⟩) 1 1, .int .i64 (m : Int), .int .i64 0] 29))) := Lib.hid (by
     have hS : Stay (fun k => w.heap.size < k) (FB w w4.heap.size) (w3.alloc (.cells #[.int .i64 op, .slice ra rs.length rc, .string ⟨nm.toArray⟩, .slice a kids.length c, .int .i64 mn, .int .i64 mx] 29)) (w4.alloc (.cells #[.int .i64 4, .slice none 0 0, .string ⟨#[]⟩, .slice (some ⟨w3.heap.size, 0, none⟩) 1 1, .int .i64 (m : Int), .int .i64 0] 29)) :=
      ⟨Nat.le_trans hap.1.size (by simp), fun k hk hl => ⟨⟨hk, by have := hap.1.size; omega⟩, (((Below.refl _ w4).alloc (Nat.le_refl _) _).block k (Nat.lt_of_lt_of_le hl hap.1.size)).trans (hap.block (by have := HS.out.gd.hg; omega) hl)⟩⟩
     exact ⟨HS4.out.al _, ⟨0, nE_new w4 4 none 0 0 [] _ 1 1 (m : Int) 0⟩, HR.out.go hS (fun _ _ h => NG.go hS _ _ h), HS4.out.lt⟩)
    clear hca hap HSA HR HT3 HS3
    go_wp2_with fail
    obtain ⟨b, hb⟩ : ∃ b, w4.heap.size = b := ⟨_, rfl⟩
    rw [hb] at HI0 ⊢
    clear hb
    refine wp_region_slots (by rfl) (by kernel_rfl) (by kernel_rfl) 104 [] [(0, .pointer (some ⟨g, 0, none⟩)), (4, .pointer (some ⟨w.heap.size, 0, none⟩)), (9, .pointer (some ⟨b, 0, none⟩))] (by kernel_rfl) (BI g w b (some ⟨w3.heap.size, 0, none⟩) m t) (BRr w b) (BG g w b m) (BG.keep g w b m) ?_ ?_ ?_
    case refine_1 =>
     intro i o ho ac W hB hd K hK
     have hi : i < 15 := (Array.getElem?_eq_some_iff.1 ho).1
     have hs0 : ac.tmps.getD 0 undef = .pointer (some ⟨g, 0, none⟩) := hB.fixed 0 _ (by simp)
     have hs4 : ac.tmps.getD 4 undef = .pointer (some ⟨w.heap.size, 0, none⟩) := hB.fixed 4 _ (by simp)
     have hs9 : ac.tmps.getD 9 undef = .pointer (some ⟨b, 0, none⟩) := hB.fixed 9 _ (by simp)
     have HKK := Lib.hid hK
     clear hK
     rcases (show i = 0 ∨ i = 1 ∨ i = 2 ∨ i = 3 ∨ i = 4 ∨ i = 5 ∨ i = 6 ∨ i = 7 ∨ i = 8 ∨ i = 9 ∨ i = 10 ∨ i = 11 ∨ i = 12 ∨ i = 13 ∨ i = 14 by omega) with rfl | rfl | rfl | rfl | rfl | rfl | rfl | rfl | rfl | rfl | rfl | rfl | rfl | rfl | rfl
     ·obtain rfl := Option.some.inj ho
      go_simp
      exact HKK.out _ _ (BRr.refl w b W) hB.inv rfl
     ·obtain rfl := Option.some.inj ho
      have hd0 : BG g w b m 0 (ac.tmps.getD 89 undef) W := hd ⟨0, .data⟩ (by simp) rfl
      simp only [BG] at hd0
      obtain ⟨x0, hx0⟩ := hB.inv.bk
      have c4 : W.cell? ⟨b, 4, none⟩ = some (.int .i64 (m : Int)) := hx0.ev 4 (by omega)
      go_simp
      exact HKK.out _ _ (BRr.refl w b W) hB.inv rfl
     ·obtain rfl := Option.some.inj ho
      go_simp
      exact HKK.out _ _ (BRr.refl w b W) hB.inv rfl
     ·obtain rfl := Option.some.inj ho
      have hd2 : BG g w b m 2 (ac.tmps.getD 91 undef) W := hd ⟨2, .data⟩ (by simp) rfl
      simp only [BG] at hd2
      obtain ⟨x0, hx0⟩ := hB.inv.bk
      have c4 : W.cell? ⟨b, 4, none⟩ = some (.int .i64 (m : Int)) := hx0.ev 4 (by omega)
      go_simp
      exact HKK.out _ _ (BRr.refl w b W) hB.inv rfl
     ·obtain rfl := Option.some.inj ho
      have hd3 : BG g w b m 3 (ac.tmps.getD 92 undef) W := hd ⟨3, .data⟩ (by simp) rfl
      simp only [BG] at hd3
      go_simp
      exact HKK.out _ _ (BRr.refl w b W) hB.inv ⟨_, rfl⟩
     ·obtain rfl := Option.some.inj ho
      go_simp
      exact HKK.out _ _ (BRr.refl w b W) hB.inv rfl
     ·obtain rfl := Option.some.inj ho
      have hd5 : BG g w b m 5 (ac.tmps.getD 94 undef) W := hd ⟨5, .data⟩ (by simp) rfl
      simp only [BG] at hd5
      obtain ⟨x0, hx0⟩ := hB.inv.bk
      have c4 : W.cell? ⟨b, 4, none⟩ = some (.int .i64 (m : Int)) := hx0.ev 4 (by omega)
      go_simp
      exact HKK.out _ _ (BRr.refl w b W) hB.inv rfl
     ·obtain rfl := Option.some.inj ho
      have hd6 : BG g w b m 6 (ac.tmps.getD 95 undef) W := hd ⟨6, .data⟩ (by simp) rfl
      simp only [BG] at hd6
      go_simp
      exact HKK.out _ _ (BRr.refl w b W) hB.inv ⟨_, rfl⟩
     ·obtain rfl := Option.some.inj ho
      have hd1 : BG g w b m 1 (ac.tmps.getD 90 undef) W := hd ⟨1, .data⟩ (by simp) rfl
      simp only [BG] at hd1
      have hd4 : BG g w b m 4 (ac.tmps.getD 93 undef) W := hd ⟨4, .data⟩ (by simp) rfl
      simp only [BG] at hd4
      have hd7 : BG g w b m 7 (ac.tmps.getD 96 undef) W := hd ⟨7, .data⟩ (by simp) rfl
      simp only [BG] at hd7
      obtain ⟨y2, hy2⟩ := hd4
      obtain ⟨y3, hy3⟩ := hd7
      have hx1 : ac.tmps[90]?.getD undef = .int .i64 (m : Int) := by rw [← Array.getD_eq_getD_getElem?]; exact hd1
      have hx2 : ac.tmps[93]?.getD undef = .int .i64 y2 := by rw [← Array.getD_eq_getD_getElem?]; exact hy2
      have hx3 : ac.tmps[96]?.getD undef = .int .i64 y3 := by rw [← Array.getD_eq_getD_getElem?]; exact hy3
      have hbW : b < W.heap.size := hB.inv.bk.choose_spec.lt
      go_simp
      exact HKK.out _ _ (BRr.al w b W _) (hB.inv.al _) ⟨_, _, _, _, _, rfl, hbW, Blk.new hB.inv.ns.lt _⟩
     ·obtain rfl := Option.some.inj ho
      go_simp
      exact HKK.out _ _ (BRr.refl w b W) hB.inv rfl
     ·obtain rfl := Option.some.inj ho
      have hd9 : BG g w b m 9 (ac.tmps.getD 98 undef) W := hd ⟨9, .data⟩ (by simp) rfl
      simp only [BG] at hd9
      go_simp
      refine (next_any g 4 _ hB.inv.ns.gd.codes (by omega) (by omega)).mono ?_
      rintro e W2 ⟨k, hk, rfl, hca, hap⟩
      exact HKK.out _ _ (BRr.ap b hap hB.inv.ns.gd.hg) (hB.inv.ap hap hca) ⟨k, hk, rfl⟩
     ·obtain rfl := Option.some.inj ho
      have hd8 : BG g w b m 8 (ac.tmps.getD 97 undef) W := hd ⟨8, .data⟩ (by simp) rfl
      simp only [BG] at hd8
      have hd10 : BG g w b m 10 (ac.tmps.getD 99 undef) W := hd ⟨10, .data⟩ (by simp) rfl
      simp only [BG] at hd10
      obtain ⟨q, y0, y1, y2, y3, hv, hbq, hbl⟩ := hd8
      obtain ⟨k, hk, hv2⟩ := hd10
      have i1 : (k : Int) < 4 := by omega
      have i2 : (0 : Int) ≤ (k : Int) := by omega
      go_simp
      exact HKK.out _ _ (BRr.refl w b W) hB.inv ⟨q, k, y0, y1, y2, y3, hk, rfl, hbq, hbl⟩
     ·obtain rfl := Option.some.inj ho
      have hd11 : BG g w b m 11 (ac.tmps.getD 100 undef) W := hd ⟨11, .data⟩ (by simp) rfl
      simp only [BG] at hd11
      obtain ⟨q, k, y0, y1, y2, y3, hk, hv, hbq, hbl⟩ := hd11
      obtain ⟨y, hy⟩ := four_at hk hbl.2.2
      go_simp
      exact HKK.out _ _ (BRr.refl w b W) hB.inv ⟨y, rfl⟩
     ·obtain rfl := Option.some.inj ho
      go_simp
      exact HKK.out _ _ (BRr.refl w b W) hB.inv rfl
     ·obtain rfl := Option.some.inj ho
      have hd13 : BG g w b m 13 (ac.tmps.getD 102 undef) W := hd ⟨13, .data⟩ (by simp) rfl
      simp only [BG] at hd13
      have hd12 : BG g w b m 12 (ac.tmps.getD 101 undef) W := hd ⟨12, .data⟩ (by simp) rfl
      simp only [BG] at hd12
      obtain ⟨y, hy⟩ := hd12
      obtain ⟨x0, hx0⟩ := hB.inv.bk
      have c5 : W.cell? ⟨b, 5, none⟩ = some (.int .i64 x0) := hx0.ev 5 (by omega)
      have f5 := hx0.fz 5
      go_simp
      exact HKK.out undef _ (BRr.set w b W _) (hB.inv.set y) trivial
    case refine_2 =>
     intro ac W hB hF
     have HBI := Lib.hid hB.inv
     obtain ⟨x, hx⟩ := HBI.out.bk
     have c0 : W.cell? ⟨b, 0, none⟩ = some (.int .i64 4) := hx.ev 0 (by omega)
     have c1 : W.cell? ⟨b, 1, none⟩ = some (.slice none 0 0) := hx.ev 1 (by omega)
     have c2 : W.cell? ⟨b, 2, none⟩ = some (.string ⟨#[]⟩) := hx.ev 2 (by omega)
     have c3 : W.cell? ⟨b, 3, none⟩ = some (.slice (some ⟨w3.heap.size, 0, none⟩) 1 1) := hx.ev 3 (by omega)
     have c4 : W.cell? ⟨b, 4, none⟩ = some (.int .i64 (m : Int)) := hx.ev 4 (by omega)
     have c5 : W.cell? ⟨b, 5, none⟩ = some (.int .i64 x) := hx.ev 5 (by omega)
     obtain ⟨k0, k1, k2, k3, k4, k5, f0, f1, f2, f3, f4, f5⟩ := bk6 HBI.out.ns.bk
     have hbne : b ≠ w.heap.size := Nat.ne_of_gt HBI.out.hb
     have h4 : ac.tmps.getD 4 undef = .pointer (some ⟨w.heap.size, 0, none⟩) := hB.fixed 4 _ (by simp)
     have h9 : ac.tmps.getD 9 undef = .pointer (some ⟨b, 0, none⟩) := hB.fixed 9 _ (by simp)
     have h4b := (Array.getD_eq_getD_getElem? (xs := ac.tmps) (i := 4) (d := undef)).symm.trans h4
     have h9b := (Array.getD_eq_getD_getElem? (xs := ac.tmps) (i := 9) (d := undef)).symm.trans h9
     have hp4 : ∀ v, (ac.tmps.setIfInBounds 103 v).getD 4 undef = .pointer (some ⟨w.heap.size, 0, none⟩) := fun v => (put_other (a := ac) (d := 103) v (by decide)).trans h4
     have hp103 : ∀ v, (ac.tmps.setIfInBounds 103 v).getD 103 undef = v := fun v => put_same (a := ac) v (by have := hB.size; omega)
     have hp4b : ∀ v, (ac.tmps.setIfInBounds 103 v)[4]?.getD undef = .pointer (some ⟨w.heap.size, 0, none⟩) := fun v => (Array.getD_eq_getD_getElem? (xs := ac.tmps.setIfInBounds 103 v) (i := 4) (d := undef)).symm.trans (hp4 v)
     have hp103b : ∀ v, (ac.tmps.setIfInBounds 103 v)[103]?.getD undef = v := fun v => (Array.getD_eq_getD_getElem? (xs := ac.tmps.setIfInBounds 103 v) (i := 103) (d := undef)).symm.trans (hp103 v)
     have HRF := Lib.hid (HBI.out.row.go (F' := fun k => w.heap.size < k) (w' := W) ⟨Nat.le_refl _, fun k hk _ => ⟨hk.1, rfl⟩⟩ (R' := KR (fun k => w.heap.size < k) W) (fun _ _ h => NG.go ⟨Nat.le_refl _, fun k hk _ => ⟨hk.1, rfl⟩⟩ _ _ h))
     go_wp2_with fail
     rw [nest6 W]
     refine node_ret (P := 4) rfl HBI.out.ns _ _ hB.defers ?_ (NG.node (rs := []) RW.nil HRF.out 4 [] (m : Int) x (by simp)) (Sm.node (by simp) (by simp) (by simpa using HSM.out))
     exact (put_other (a := ac) (d := 103) _ (by decide)).trans (hB.fixed 4 _ (by simp))
    case refine_3 =>
     refine ⟨rfl, rfl, fun s v hs => ?_, HI0.out.dr⟩
     simp only [List.mem_cons, Prod.mk.injEq, List.not_mem_nil, or_false] at hs
     rcases hs with ⟨rfl, rfl⟩ | ⟨rfl, rfl⟩ | ⟨rfl, rfl⟩ <;> rfl
theorem node_any (depth : Nat) : depth ≤ 4 → ∀ (g : Nat) (w : World), CodesAt w g → Calls Tryd.prog 8 #[.pointer (some ⟨g, 0, none⟩), .int .i64 depth] w (NP g w) := by
 induction depth with
 | zero => intro h g w hc; exact node_aux 0 h (fun d h => by omega) g w hc
 | succ d ih => intro h g w hc; exact node_aux (d + 1) h (fun d' h' => (show d' = d by omega) ▸ ih (by omega)) g w hc
end Go.Proofs.YtihdnlpelfgklaaDoor
namespace Go.Proofs.YtihdnlpelfgklaaDoor
open Go.RowKit
def txtF : List (List UInt8) := [[97], [98], [32], [49], [120], [46], [45], [61], [97, 98], [55], [10]]
theorem txtF_len : ∀ x ∈ txtF, x.length ≤ 2 := by decide
def TxtP (g : Nat) (w : World) (e : Ending) (w' : World) : Prop := ∃ x : List UInt8, x.length ≤ 100 ∧ e = .returned (.string ⟨x.toArray⟩) ∧ CodesAt w' g ∧ Apart g w w'
theorem str_add (a b : List UInt8) (h : a.length + b.length ≤ 100000) : ∃ c : List UInt8, (∀ w, (Op.stringOp .add ⟨a.toArray⟩ ⟨b.toArray⟩).run Tryd.prog w = .ok (.string ⟨c.toArray⟩) w) ∧ Hid (c = a ++ b) ∧ c.length = a.length + b.length := by
 refine ⟨a ++ b, fun w => ?_, rfl, by rw [List.length_append]⟩
 exact run_string_add_lists w a b (by omega) (by omega)
set_option maxRecDepth 100000 in
set_option maxHeartbeats 4000000 in
theorem ltext_any (s : List UInt8) (g : Nat) (w : World) (hc : CodesAt w g) : Calls Tryd.prog 9 #[.string ⟨s.toArray⟩, .pointer (some ⟨g, 0, none⟩)] w (TxtP g w) := by
 have HN := Lib.hid (next_any g 14 w hc (by omega) (by omega))
 have hcg := hc.1
 clear hc
 go_enter Tryd.func9, Tryd.ntmps9
 go_wp2_with fail
 refine HN.out.mono ?_
 rintro e w1 ⟨n, hn, rfl, hca, hap⟩
 have HC := Lib.hid hca
 have HA := Lib.hid hap
 clear hca hap HN
 go_wp2_with fail
 go_loopw [5, 6] (fun s i wr => ∃ (x : List UInt8) (j : Nat), i = .int .i64 j ∧ s = .string ⟨x.toArray⟩ ∧ x.length + 2 * j ≤ 28 ∧ Hid (CodesAt wr g) ∧ Hid (Apart g w wr)) (fun _ i _ => (intOf i).toNat)
 case atStart => exact ⟨[], n, rfl, rfl, by simp; omega, HC, HA⟩
 case round =>
  obtain ⟨x, j, rfl, rfl, hxl, HCj, HAj⟩ := hrel
  cases j with
  | zero =>
   have HN2 := Lib.hid (next_any g 3 wr HCj.out (by omega) (by omega))
   go_wp2_with fail
   refine HN2.out.mono ?_
   rintro e w2 ⟨k, hk, rfl, hca, hap⟩
   have HC2 := Lib.hid hca
   have HA2 := Lib.hid (HAj.out.trans hap)
   clear hca hap HN2
   by_cases hk2 : k = 2
   ·subst hk2
    by_cases hl : s.length < 40
    ·have z1 : decide ((s.length : Int) < 40) = true := decide_eq_true (by omega)
     obtain ⟨y, hrun, hy, hyl⟩ := str_add s x (by omega)
     go_wp2_with fail
     go_ret
     exact ⟨y, by omega, rfl, HC2.out, HA2.out⟩
    ·have z1 : decide ((s.length : Int) < 40) = false := decide_eq_false (by omega)
     go_wp2_with fail
     go_ret
     exact ⟨x, by omega, rfl, HC2.out, HA2.out⟩
   ·have z0 : ((k : Int) == 2) = false := by rw [beq_eq_false_iff_ne]; omega
    go_wp2_with fail
    go_ret
    exact ⟨x, by omega, rfl, HC2.out, HA2.out⟩
  | succ j =>
   have hj0 : (0 : Int) < (j : Int) + 1 := by omega
   have HP := Lib.hid (pickF g wr txtF HCj.out (by decide) (by decide))
   go_wp2_with fail
   refine HP.out.mono ?_
   rintro e w2 ⟨y, hy, rfl, hca, hap⟩
   have hyl := txtF_len y hy
   have HC2 := Lib.hid hca
   have HA2 := Lib.hid (HAj.out.trans hap)
   obtain ⟨z, hrun, hz, hzl⟩ := str_add x y (by omega)
   clear hca hap hy HP
   go_wp2_with fail
   go_roundw
   case rel => exact ⟨z, j, by go_num, rfl, by omega, HC2, HA2⟩
   case measure => simp [intOf]
end Go.Proofs.YtihdnlpelfgklaaDoor
namespace Go.Proofs.YtihdnlpelfgklaaDoor
open Go.RowKit
def setA (f : Nat → Bool) : Array Value := ((List.range 256).map fun i => Value.bool (f i)).toArray
theorem setA_size (f : Nat → Bool) : (setA f).size = 256 := by simp [setA]
theorem setA_at (f : Nat → Bool) {i : Nat} (h : i < 256) : (setA f)[i]? = some (.bool (f i)) := by simp [setA, h]
theorem setA_out (f : Nat → Bool) {i : Nat} (h : ¬ i < 256) : (setA f)[i]? = none := by rw [Array.getElem?_eq_none_iff, setA_size]; omega
theorem setA_congr {f g : Nat → Bool} (h : ∀ i, i < 256 → f i = g i) : setA f = setA g := by
 apply Array.ext_getElem?
 intro i
 by_cases hi : i < 256
 ·rw [setA_at f hi, setA_at g hi, h i hi]
 ·rw [setA_out f hi, setA_out g hi]
theorem setA_set (f : Nat → Bool) (i : Nat) (b : Bool) : (setA f).setIfInBounds i (.bool b) = setA (fun j => if j = i then b else f j) := by
 apply Array.ext_getElem?
 intro j
 rw [Array.getElem?_setIfInBounds, setA_size]
 by_cases hj : j < 256
 ·rw [setA_at (fun j => if j = i then b else f j) hj]
  by_cases e : i = j
  ·subst e
   simp [hj]
  ·rw [if_neg e, setA_at f hj, if_neg (fun h => e h.symm)]
 ·rw [setA_out (fun j => if j = i then b else f j) hj]
  by_cases e : i = j
  ·subst e
   simp [hj]
  ·rw [if_neg e, setA_out f hj]
theorem setA_one (f : Nat → Bool) : (setA f).all (·.oneCell') = true := by
 rw [Array.all_eq_true_iff_forall_mem]
 intro v hv
 simp only [setA, List.mem_toArray, List.mem_map] at hv
 obtain ⟨i, _, rfl⟩ := hv
 rfl
theorem setA_false : setA (fun _ => false) = Array.replicate 256 (.bool false) := by
 apply Array.ext_getElem?
 intro i
 by_cases hi : i < 256
 ·rw [setA_at _ hi, Array.getElem?_replicate, if_pos hi]
 ·rw [setA_out _ hi, Array.getElem?_replicate, if_neg hi]
theorem infoS : (Tryd.prog.info? 126).map (fun i => (i.zero, i.size)) = some (some (.agg (Array.replicate 256 (.bool false))), 256) := by kernel_rfl
theorem undS : Tryd.prog.underlying 126 = some (.array 256 4) := by kernel_rfl
theorem wp_load_set {o : Oper} {a : Act} {w : World} {K : Act → World → Prop} {Q : Exit → Act → World → Prop} (x : Operand) (ho : o.op = .load 126 x) (g : Nat) (hx : a.eval x = .pointer (some ⟨g, 0, none⟩)) (f : Nat → Bool) (t : TypeId) (hg : w.heap[g]? = some (.cells (setA f) t (0, 0)))
  (h : K (a.put o.dst (.agg (setA f))) w) : o.wp Tryd.prog a w K Q := wp_load_row _ x ho g hx t (setA f) (0, 0) _ hg undS rfl (by rw [setA_size]; exact (zero_of_info infoS).2) h
theorem put_set {W : World} {g : Nat} {f : Nat → Bool} {t : TypeId} (hg : W.heap[g]? = some (.cells (setA f) t (0, 0))) (f' : Nat → Bool) : (storeCells ⟨g, 0, none⟩ (setA f').toList).run Tryd.prog W = .ok () (W.setRow g (setA f')) := by
 have := run_storeCells_from (P := Tryd.prog) g t (setA f').toList 0 (setA f) W hg (by rw [Array.length_toList, setA_size, setA_size]) (fun v hv => Array.all_eq_true_iff_forall_mem.1 (setA_one f') v (by simpa using hv))
 simpa using this
theorem put_new (w : World) (f f' : Nat → Bool) (t : TypeId) : (storeCells ⟨w.heap.size, 0, none⟩ (setA f').toList).run Tryd.prog (w.alloc (.cells (setA f) t)) = .ok () (w.alloc (.cells (setA f') t)) := by
 rw [put_set (heap_alloc_new w _) f', World.setRow_alloc_new]
theorem ret_set {fn : Func} {p : Tmp} (hfn : fn.results = #[.cell p 126]) {w : World} {f : Nat → Bool} {g : Nat} {t : TypeId} (hg : w.heap[g]? = some (.cells (setA f) t (0, 0))) {tmps : Array Value} {df : _} (hdf : df = []) (hp : tmps.getD p undef = .pointer (some ⟨g, 0, none⟩)) {post : Ending → World → Prop} (h : post (.returned (.agg (setA f))) w) :
  bodyPost Tryd.prog fn post Exit.ret { tmps := tmps, defers := df } w := bodyPost_ret (results_cell_row hfn tmps w g t (setA f) (0, 0) _ hp hg undS rfl (by rw [setA_size]; exact (zero_of_info infoS).2)) hdf h
def spanF (lo k j : Nat) : Bool := decide (lo ≤ j) && decide (j < k)
theorem spanF_none (lo k : Nat) (h : k ≤ lo) : setA (spanF lo k) = setA (fun _ => false) := setA_congr fun i _ => by
 by_cases h2 : lo ≤ i
 ·simp [spanF]; omega
 ·simp [spanF, h2]
theorem spanF_succ (lo k : Nat) (h : lo ≤ k) : setA (fun j => if j = k then true else spanF lo k j) = setA (spanF lo (k + 1)) := setA_congr fun i _ => by
 unfold spanF
 by_cases e : i = k
 ·subst e
  simp [h]
 ·rw [if_neg e, show decide (i < k) = decide (i < k + 1) from decide_eq_decide.2 (by omega)]
set_option maxHeartbeats 4000000 in
set_option maxRecDepth 1000000 in
theorem span_any (lo hi : UInt8) (w : World) : Calls Tryd.prog 78 #[.int .u8 (lo.toNat : Int), .int .u8 (hi.toNat : Int)] w fun e w' => e = .returned (.agg (setA (spanF lo.toNat (hi.toNat + 1)))) ∧ Below w.heap.size w w' := by
 have hv := (zero_of_info infoS).1
 have hlo := UInt8.toNat_lt lo
 have hhi := UInt8.toNat_lt hi
 go_enter Tryd.func78, Tryd.ntmps78
 go_wp2
 rw [← setA_false]
 go_loopw [5] (fun i wr => ∃ (k : Nat), i = .int .i64 k ∧ lo.toNat ≤ k ∧ k ≤ 256 ∧ (lo.toNat ≤ hi.toNat → k ≤ hi.toNat + 1) ∧ (hi.toNat < lo.toNat → k = lo.toNat) ∧ wr = w.alloc (.cells (setA (spanF lo.toNat k)) 126)) (fun i _ => 256 - (intOf i).toNat)
 case atStart => exact ⟨lo.toNat, rfl, Nat.le_refl _, by omega, by omega, fun _ => rfl, by rw [spanF_none _ _ (Nat.le_refl _)]⟩
 case round =>
  obtain ⟨k, rfl, hk1, hk2, hk3, hk4, rfl⟩ := hrel
  by_cases hle : k ≤ hi.toNat
  ·have z1 : decide ((k : Int) ≤ (hi.toNat : Int)) = true := decide_eq_true (by omega)
   have y1 : decide (k ≤ hi.toNat) = true := decide_eq_true hle
   have i1 : (k : Int) < 256 := by omega
   have i2 : (0 : Int) ≤ (k : Int) := by omega
   have hw1 : IntKind.i64.wrap ((k : Int) + 1) = (k : Int) + 1 := IntWalk.i64_in _ (by omega)
   have hc : (w.alloc (.cells (setA (spanF lo.toNat k)) 126)).cell? ⟨w.heap.size, k, none⟩ = some (.bool (spanF lo.toNat k k)) := by
    rw [cell_of_row _ _ _ _ _ _ (heap_alloc_new w _)]
    exact setA_at _ (by omega)
   go_wp2_with fail
   refine ⟨⟨k + 1, by go_num, by omega, by omega, by omega, by omega, ?_⟩, by simp [intOf]; omega⟩
   rw [setA_set, spanF_succ _ _ hk1]
  ·have z1 : decide ((k : Int) ≤ (hi.toNat : Int)) = false := decide_eq_false (by omega)
   have y1 : decide (k ≤ hi.toNat) = false := decide_eq_false hle
   have hks : setA (spanF lo.toNat k) = setA (spanF lo.toNat (hi.toNat + 1)) := by
    rcases Nat.lt_or_ge hi.toNat lo.toNat with h | h
    ·rw [spanF_none _ _ (by omega), spanF_none _ _ (by omega)]
    ·rw [show k = hi.toNat + 1 by omega]
   rw [hks]
   have hpn := put_new w (spanF lo.toNat (hi.toNat + 1)) (spanF lo.toNat (hi.toNat + 1)) 126
   go_wp2_with fail
   refine wp_load_set _ rfl w.heap.size rfl _ _ (heap_alloc_new w _) ?_
   go_wp2_with fail
   exact ret_set rfl (heap_alloc_new w _) rfl rfl ⟨rfl, (Below.refl _ w).alloc (Nat.le_refl _) _⟩
def FitAt (w : World) (n : Nat) (p : Nat → Bool) : Prop := ∀ (c : Nat), c < 256 → ∀ W, Below w.heap.size w W → Calls Tryd.prog n #[.int .u8 c] W fun e W' => e = .returned (.bool (p c)) ∧ W = W'
def fitF (p : Nat → Bool) (k j : Nat) : Bool := decide (j < k) && p j
theorem fitF_none (p : Nat → Bool) : setA (fitF p 0) = setA (fun _ => false) := setA_congr fun i _ => by simp [fitF]
theorem fitF_all (p : Nat → Bool) : setA (fitF p 256) = setA p := setA_congr fun i h => by simp [fitF, h]
theorem fitF_succ (p : Nat → Bool) (k : Nat) : setA (fun j => if j = k then p k else fitF p k j) = setA (fitF p (k + 1)) := setA_congr fun i _ => by
 unfold fitF
 by_cases e : i = k
 ·subst e
  simp
 ·rw [if_neg e, show decide (i < k) = decide (i < k + 1) from decide_eq_decide.2 (by omega)]
set_option maxHeartbeats 4000000 in
set_option maxRecDepth 1000000 in
theorem where_any (n : Nat) (he : ∀ args w, (callFunc n args).run Tryd.prog w = .ok (.enter n args) w) (p : Nat → Bool) (w : World) (hf : FitAt w n p) : Calls Tryd.prog 93 #[.func (.func n) #[] #[]] w fun e w' => e = .returned (.agg (setA p)) ∧ Below w.heap.size w w' := by
 have hv := (zero_of_info infoS).1
 have HF := Lib.hid hf
 clear hf
 go_enter Tryd.func93, Tryd.ntmps93
 go_wp2
 rw [← setA_false, ← fitF_none p]
 go_loopw [4] (fun i wr => ∃ (k : Nat), i = .int .i64 k ∧ k ≤ 256 ∧ wr = w.alloc (.cells (setA (fitF p k)) 126)) (fun i _ => 256 - (intOf i).toNat)
 case atStart => exact ⟨0, rfl, by omega, rfl⟩
 case round =>
  obtain ⟨k, rfl, hk, rfl⟩ := hrel
  by_cases hle : k < 256
  ·have z1 : decide ((k : Int) < 256) = true := decide_eq_true (by omega)
   have y1 : decide (k < 256) = true := decide_eq_true hle
   have i1 : (k : Int) < 256 := by omega
   have i2 : (0 : Int) ≤ (k : Int) := by omega
   have hw1 : IntKind.i64.wrap ((k : Int) + 1) = (k : Int) + 1 := IntWalk.i64_in _ (by omega)
   have hw2 : IntKind.u8.wrap (k : Int) = (k : Int) := IntWalk.u8_in _ (by omega)
   have hc : (w.alloc (.cells (setA (fitF p k)) 126)).cell? ⟨w.heap.size, k, none⟩ = some (.bool (fitF p k k)) := by
    rw [cell_of_row _ _ _ _ _ _ (heap_alloc_new w _)]
    exact setA_at _ hle
   have HC := Lib.hid (HF.out k hle (w.alloc (.cells (setA (fitF p k)) 126)) ((Below.refl _ w).alloc (Nat.le_refl _) _))
   go_wp2_with (go_at_fn n; refine HC.out.mono ?_; rintro e w3 ⟨rfl, rfl⟩)
   refine ⟨⟨k + 1, by go_num, by omega, ?_⟩, by simp [intOf]; omega⟩
   rw [setA_set, fitF_succ]
  ·have z1 : decide ((k : Int) < 256) = false := decide_eq_false (by omega)
   have y1 : decide (k < 256) = false := decide_eq_false hle
   obtain rfl : k = 256 := by omega
   have hpn := put_new w p p 126
   rw [fitF_all]
   go_wp2_with fail
   refine wp_load_set _ rfl w.heap.size rfl _ _ (heap_alloc_new w _) ?_
   go_wp2_with fail
   exact ret_set rfl (heap_alloc_new w _) rfl rfl ⟨rfl, (Below.refl _ w).alloc (Nat.le_refl _) _⟩
theorem where_digit (w : World) (hk : Kinds w) : Calls Tryd.prog 93 #[.func (.func 94) #[] #[]] w fun e w' => e = .returned (.agg (setA Asc.isDigit)) ∧ Below w.heap.size w w' :=
 where_any _ (enters_of (P := Tryd.prog) (fn := Tryd.f94) (by kernel_rfl) (by kernel_rfl) rfl) _ w (fun c hc W hb => digit_any c W hc (hk.below hb))
end Go.Proofs.YtihdnlpelfgklaaDoor
namespace Go.Proofs.YtihdnlpelfgklaaDoor
open Go.RowKit
theorem infoR : (Tryd.prog.info? 47).map (fun i => (i.zero, i.size, i.bytes)) = some (some (.agg #[.int .u8 0, .int .u8 0]), 2, 2) := by kernel_rfl
structure SN (g : Nat) (w : World) (E : Nat → Value) (W : World) : Prop where
 gd : GD g w W
 bk : BK w.heap.size 6 E W
 rb : BK (w.heap.size + 1) 6 (nE 0 none 0 0 [] none 0 0 0 0) W
section
variable {g : Nat} {w W W' : World} {E : Nat → Value}
theorem SN.go (h : SN g w E W) (ha : Apart g W W') (hc : CodesAt W' g) : SN g w E W' := ⟨h.gd.go ha hc, h.bk.go ha (Nat.ne_of_gt h.gd.hg), h.rb.go ha (by have := h.gd.hg; omega)⟩
theorem SN.on (h : SN g w E W) (hb : Below (w.heap.size + 2) W W') : SN g w E W' := ⟨h.gd.on (hb.mono (by omega)), h.bk.on hb (by omega), h.rb.on hb (by omega)⟩
theorem SN.al (h : SN g w E W) (o : Obj) : SN g w E (W.alloc o) := ⟨h.gd.al o, h.bk.al o, h.rb.al o⟩
theorem SN.dr (h : SN g w E W) : SN g w E W.drew := ⟨h.gd.dr, h.bk.dr, h.rb.dr⟩
theorem SN.sz (h : SN g w E W) : w.heap.size + 2 ≤ W.heap.size := h.rb.lt
theorem SN.set (h : SN g w E W) (i : Nat) (hi : i < 6) (v : Value) {E' : Nat → Value} (he : ∀ j, j < 6 → Upd E i v j = E' j) : SN g w E' (W.setCell ⟨w.heap.size, i, none⟩ v) :=
 ⟨h.gd.set (Nat.le_refl _) i v, (h.bk.set i hi v).cong he, h.rb.other (by omega) i v⟩
theorem SN.far (h : SN g w E W) {b : Nat} (hb : w.heap.size + 2 ≤ b) (i : Nat) (v : Value) : SN g w E (W.setCell ⟨b, i, none⟩ v) := ⟨h.gd.set (by omega) i v, h.bk.other (by omega) i v, h.rb.other (by omega) i v⟩
theorem SN.setL (h : SN g w E W) (vs : List Value) (op : Int) (ra : Option Addr) (rn rc : Nat) (nm : List UInt8) (a : Option Addr) (n cp : Nat) (mn mx : Int) (hv : vs = [.int .i64 op, .slice ra rn rc, .string ⟨nm.toArray⟩, .slice a n cp, .int .i64 mn, .int .i64 mx]) : SN g w (nE op ra rn rc nm a n cp mn mx) (setL W w.heap.size vs 0) := by
 subst hv
 exact ⟨h.gd.on (setL_below (Nat.le_refl _) _ _ _), bk_set6 h.bk op ra rn rc nm a n cp mn mx, h.rb.keep (setL_heap _ (by omega) _ _) (by rw [setL_size]; exact Nat.le_refl _)⟩
end
theorem SN.start {g : Nat} {w : World} (hc : CodesAt w g) (op : Int) (ra : Option Addr) (rn rc : Nat) (nm : List UInt8) (a : Option Addr) (n cp : Nat) (mn mx : Int) :
  SN g w (nE op ra rn rc nm a n cp mn mx) ((w.alloc (.cells #[.int .i64 op, .slice ra rn rc, .string ⟨nm.toArray⟩, .slice a n cp, .int .i64 mn, .int .i64 mx] 29)).alloc (.cells #[.int .i64 0, .slice none 0 0, .string ⟨#[]⟩, .slice none 0 0, .int .i64 0, .int .i64 0] 29)) := by
 refine ⟨((GD.start hc).al _).al _, (nE_new w op ra rn rc nm a n cp mn mx).al _, ?_⟩
 have := nE_new (w.alloc (.cells #[.int .i64 op, .slice ra rn rc, .string ⟨nm.toArray⟩, .slice a n cp, .int .i64 mn, .int .i64 mx] 29)) 0 none 0 0 [] none 0 0 0 0
 simpa using this
end Go.Proofs.YtihdnlpelfgklaaDoor
namespace Go.Proofs.YtihdnlpelfgklaaDoor
open Go.RowKit
def runTo (f : Nat → Bool) (c : Nat) : Nat := if c + 1 < 256 ∧ f (c + 1) = true then runTo f (c + 1) else c
termination_by 256 - c
theorem runTo_ge (f : Nat → Bool) (c : Nat) : c ≤ runTo f c := by
 rw [runTo]
 split
 ·exact Nat.le_trans (Nat.le_succ c) (runTo_ge f (c + 1))
 ·exact Nat.le_refl _
termination_by 256 - c
def rngs (f : Nat → Bool) (c : Nat) : List (UInt8 × UInt8) :=
 if h : c < 256 then if f c = true then (UInt8.ofNat c, UInt8.ofNat (runTo f c)) :: rngs f (runTo f c + 1) else rngs f (c + 1) else []
termination_by 256 - c
decreasing_by
 ·have := runTo_ge f c
  omega
 ·omega
theorem rngs_off (f : Nat → Bool) (k : Nat) (h : k < 256) (hf : f k = false) : rngs f k = rngs f (k + 1) := by rw [rngs, dif_pos h, if_neg (by simp [hf])]
theorem rngs_on (f : Nat → Bool) (k : Nat) (h : k < 256) (hf : f k = true) : rngs f k = (UInt8.ofNat k, UInt8.ofNat (runTo f k)) :: rngs f (runTo f k + 1) := by rw [rngs, dif_pos h, if_pos hf]
theorem runTo_on (f : Nat → Bool) (m : Nat) (h : m + 1 < 256) (hf : f (m + 1) = true) : runTo f (m + 1) = runTo f m := by rw [runTo.eq_1 f m, if_pos ⟨h, hf⟩]
theorem runTo_off (f : Nat → Bool) (m : Nat) (h : m + 1 < 256 → f (m + 1) = false) : runTo f m = m := by
 rw [runTo, if_neg]
 rintro ⟨h1, h2⟩
 rw [h h1] at h2
 cases h2
theorem ofNat8 {k : Nat} (h : k < 256) : (UInt8.ofNat k).toNat = k := Asc.ofNat_toNat8 h
set_option maxHeartbeats 8000000 in
set_option maxRecDepth 1000000 in
theorem ranges_any (f : Nat → Bool) (w : World) : Calls Tryd.prog 92 #[.agg (setA f)] w fun e w' => ∃ v, e = .returned v ∧ OR w.heap.size 47 2 RgR w' (rngs f 0) v ∧ Below w.heap.size w w' := by
 go_enter Tryd.func92, Tryd.ntmps92
 go_wp2
 go_loopw [3, 4, 5] (fun l i fr wr => ∃ (k : Nat) (rs : List (UInt8 × UInt8)) (v : Value), v = l ∧ i = .int .i64 k ∧ k ≤ 256 ∧ Hid (rs ++ rngs f k = rngs f 0) ∧ rs.length ≤ k ∧ Hid (OR (w.heap.size + 1) 47 2 RgR wr rs v) ∧ Hid (wr.heap[w.heap.size]? = some (.cells (setA f) 126 (0, 0))) ∧ Hid (Below w.heap.size w wr)) (fun _ i _ _ => 256 - (intOf i).toNat)
 case atStart => exact ⟨0, [], _, rfl, rfl, by omega, Lib.hid rfl, by simp, Lib.hid OR.nil, Lib.hid (heap_alloc_new w _), Lib.hid ((Below.refl _ w).alloc (Nat.le_refl _) _)⟩
 case round =>
  obtain ⟨k, rs, v, rfl, rfl, hk, HR, hrl, HO, HB, HW⟩ := hrel
  by_cases hle : k < 256
  ·have z1 : decide ((k : Int) < 256) = true := decide_eq_true (by omega)
   have y1 : decide (k < 256) = true := decide_eq_true hle
   have i1 : (k : Int) < 256 := by omega
   have i2 : (0 : Int) ≤ (k : Int) := by omega
   have hw1 : IntKind.i64.wrap ((k : Int) + 1) = (k : Int) + 1 := IntWalk.i64_in _ (by omega)
   have hc : wr.cell? ⟨w.heap.size, k, none⟩ = some (.bool (f k)) := by
    rw [cell_of_row _ _ _ _ _ _ HB.out]
    exact setA_at f hle
   cases hf : f k with
   | false =>
    rw [hf] at hc
    go_wp2_with fail
    refine ⟨⟨k + 1, rs, v, rfl, by go_num, by omega, Lib.hid (by rw [← rngs_off f k hle hf]; exact HR.out), by omega, HO, HB, HW⟩, by simp [intOf]; omega⟩
   | true =>
    rw [hf] at hc
    go_wp2_with fail
    go_loopw [4] (fun i wx => ∃ m : Nat, i = .int .i64 m ∧ k ≤ m ∧ m < 256 ∧ Hid (runTo f m = runTo f k) ∧ wr = wx) (fun i _ => 256 - (intOf i).toNat)
    case atStart => exact ⟨k, rfl, Nat.le_refl _, hle, Lib.hid rfl, rfl⟩
    case round =>
     obtain ⟨m, rfl, hm1, hm2, HM, rfl⟩ := hrel
     have hw2 : IntKind.i64.wrap ((m : Int) + 1) = (m : Int) + 1 := IntWalk.i64_in _ (by omega)
     by_cases hgo : m + 1 < 256 ∧ f (m + 1) = true
     ·have x1 : decide ((m : Int) + 1 < 256) = true := decide_eq_true (by omega)
      have x2 : (m : Int) + 1 < 256 := by omega
      have x3 : (0 : Int) ≤ (m : Int) + 1 := by omega
      have x4 : ((m : Int) + 1).toNat = m + 1 := by omega
      have hc2 : wr.cell? ⟨w.heap.size, m + 1, none⟩ = some (.bool true) := by
       rw [cell_of_row _ _ _ _ _ _ HB.out, ← hgo.2]
       exact setA_at f hgo.1
      go_wp2_with fail
      refine ⟨⟨m + 1, by go_num, by omega, by omega, Lib.hid ((runTo_on f m hgo.1 hgo.2).trans HM.out), trivial⟩, by simp [intOf]; omega⟩
     ·have hmr : runTo f k = m := HM.out.symm.trans (runTo_off f m fun h => by cases h3 : f (m + 1) with | false => rfl | true => exact absurd ⟨h, h3⟩ hgo)
      have hmr2 := Lib.hid hmr
      have wx : IntKind.u8.wrap (k : Int) = (k : Int) := IntWalk.u8_in _ (by omega)
      have wy : IntKind.u8.wrap (m : Int) = (m : Int) := IntWalk.u8_in _ (by omega)
      obtain ⟨i0, hi, hz0, hz1, hz2⟩ := info_parts infoR
      obtain ⟨cs, hown, hpush⟩ := HO.out.cells
      have hBW : w.heap.size + 1 ≤ wr.heap.size := (Array.getElem?_eq_some_iff.1 HB.out).1
      have one2 : ∀ u ∈ [Value.int .u8 (k : Int), .int .u8 (m : Int)], u.oneCell' = true := by
       intro u hu
       simp only [List.mem_cons, List.not_mem_nil, or_false] at hu
       rcases hu with rfl | rfl <;> rfl
      clear hmr HM
      by_cases h1 : m + 1 < 256
      ·have x1 : decide ((m : Int) + 1 < 256) = true := decide_eq_true (by omega)
       have x2 : (m : Int) + 1 < 256 := by omega
       have x3 : (0 : Int) ≤ (m : Int) + 1 := by omega
       have x4 : ((m : Int) + 1).toNat = m + 1 := by omega
       have hc2 : wr.cell? ⟨w.heap.size, m + 1, none⟩ = some (.bool false) := by
        have hff : f (m + 1) = false := by cases h3 : f (m + 1) with | false => rfl | true => exact absurd ⟨h1, h3⟩ hgo
        rw [cell_of_row _ _ _ _ _ _ HB.out, ← hff]
        exact setA_at f h1
       clear hgo
       go_wp2_with (at_builtin; refine wpList_append_lies _ rfl _ _ 26 rfl (w.heap.size + 1) 47 i0 (.agg #[.int .u8 0, .int .u8 0]) 2 2 Tryd.underlying26 hi hz0 hz1 hz2 rfl (by decide) _ rs.length cs rfl (hown.alloc _) ⟨wr.heap.size, 0, none⟩ 1 1 [.int .u8 (k : Int), .int .u8 (m : Int)] rfl rfl (World.news_of_block (heap_alloc_new wr _)) one2 (by omega) (by unfold maxLen; omega) (by omega) (Nat.le_trans hBW (by simp)) _ rfl ?_; intro g6 cap6 w6 hown6 hgr6 hat6 hlt6; have HW6 := Lib.hid (push_below hgr6 hown hBW); have HO6 := Lib.hid (hpush RgR w6 (UInt8.ofNat k, UInt8.ofNat m) _ _ (fun _ _ h => h) rfl (by simp only [RgR]; rw [ofNat8 hle, ofNat8 hm2]) (by omega) hown6); clear hown6 hgr6 hat6 hlt6 hown hpush)
       refine ⟨⟨m + 1, rs ++ [(UInt8.ofNat k, UInt8.ofNat m)], _, rfl, by go_num, by omega, Lib.hid (by rw [List.append_assoc, List.singleton_append, ← HR.out, rngs_on f k hle hf, hmr2.out]), by simp; omega, HO6, Lib.hid ((HW6.out.block _ (Nat.lt_succ_self _)).trans HB.out), Lib.hid (HW.out.trans (HW6.out.mono (Nat.le_succ _)))⟩, by simp [intOf]; omega⟩
      ·have x1 : decide ((m : Int) + 1 < 256) = false := decide_eq_false (by omega)
       clear hgo
       go_wp2_with (at_builtin; refine wpList_append_lies _ rfl _ _ 26 rfl (w.heap.size + 1) 47 i0 (.agg #[.int .u8 0, .int .u8 0]) 2 2 Tryd.underlying26 hi hz0 hz1 hz2 rfl (by decide) _ rs.length cs rfl (hown.alloc _) ⟨wr.heap.size, 0, none⟩ 1 1 [.int .u8 (k : Int), .int .u8 (m : Int)] rfl rfl (World.news_of_block (heap_alloc_new wr _)) one2 (by omega) (by unfold maxLen; omega) (by omega) (Nat.le_trans hBW (by simp)) _ rfl ?_; intro g6 cap6 w6 hown6 hgr6 hat6 hlt6; have HW6 := Lib.hid (push_below hgr6 hown hBW); have HO6 := Lib.hid (hpush RgR w6 (UInt8.ofNat k, UInt8.ofNat m) _ _ (fun _ _ h => h) rfl (by simp only [RgR]; rw [ofNat8 hle, ofNat8 hm2]) (by omega) hown6); clear hown6 hgr6 hat6 hlt6 hown hpush)
       refine ⟨⟨m + 1, rs ++ [(UInt8.ofNat k, UInt8.ofNat m)], _, rfl, by go_num, by omega, Lib.hid (by rw [List.append_assoc, List.singleton_append, ← HR.out, rngs_on f k hle hf, hmr2.out]), by simp; omega, HO6, Lib.hid ((HW6.out.block _ (Nat.lt_succ_self _)).trans HB.out), Lib.hid (HW.out.trans (HW6.out.mono (Nat.le_succ _)))⟩, by simp [intOf]; omega⟩
  ·have z1 : decide ((k : Int) < 256) = false := decide_eq_false (by omega)
   have y1 : decide (k < 256) = false := decide_eq_false hle
   go_wp2_with fail
   go_ret
   have hr0 : rngs f k = [] := by rw [rngs, dif_neg hle]
   have := HR.out
   rw [hr0, List.append_nil] at this
   exact ⟨_, rfl, this ▸ (HO.out.own (fun _ _ => rfl) (fun _ _ h => h) _ (Nat.le_succ _)), HW.out⟩
end Go.Proofs.YtihdnlpelfgklaaDoor
namespace Go.Proofs.YtihdnlpelfgklaaDoor
open Go.RowKit
def NW (t : NT) (w : World) (e : Ending) (w' : World) : Prop := ∃ v, e = .returned v ∧ NG (fun k => w.heap.size ≤ k) w' t v ∧ Below w.heap.size w w'
theorem item_ret {fn : Func} {P : Tmp} (hfn : fn.results = #[.cell P 29]) {W : World} {b : Nat} {E : Nat → Value} (hS : BK b 6 E W) {tmps : Array Value} {df : _} (hdf : df = []) (hp : tmps.getD P undef = .pointer (some ⟨b, 0, none⟩)) {v0 v1 v2 v3 v4 v5 : Value} {post : Ending → World → Prop}
  (h : post (.returned (.agg #[v0, v1, v2, v3, v4, v5])) (setL W b [v0, v1, v2, v3, v4, v5] 0)) :
  bodyPost Tryd.prog fn post Exit.ret { tmps := tmps, defers := df } (setL W b [v0, v1, v2, v3, v4, v5] 0) := by
 have hc := setL_at (b := b) [v0, v1, v2, v3, v4, v5] W 0 (fun j _ hj => ⟨_, hS.ev j (by simpa using hj)⟩)
 exact bodyPost_ret (results_item (ty := 29) hfn tmps _ b [v0, v1, v2, v3, v4, v5] _ hp (fun j v hv => by have := hc j v hv; rwa [Nat.zero_add] at this) Tryd.underlying29 rfl (by kernel_rfl)) hdf h
set_option maxHeartbeats 8000000 in
set_option maxRecDepth 1000000 in
theorem class_any (f : Nat → Bool) (w : World) : Calls Tryd.prog 80 #[.agg (setA f)] w (NW (.node 1 (rngs f 0) [] [] 0 0) w) := by
 go_enter Tryd.func80, Tryd.ntmps80
 go_wp2
 refine wp_load_set _ rfl w.heap.size rfl f 126 (heap_alloc2_old w _ _) ?_
 go_wp2_with fail
 refine (ranges_any f _).mono ?_
 rintro e w2 ⟨v, rfl, hor, hb⟩
 have HB : Hid (BK (w.heap.size + 1) 6 (nE 0 none 0 0 [] none 0 0 0 0) w2) := Lib.hid ((by simpa using nE_new (w.alloc (.cells (setA f) 126)) 0 none 0 0 [] none 0 0 0 0 : BK (w.heap.size + 1) 6 (nE 0 none 0 0 [] none 0 0 0 0) _).on hb (by simp))
 have HW : Hid (Below w.heap.size w w2) := Lib.hid ((((Below.refl _ w).alloc (Nat.le_refl _) _).alloc (by simp) _).trans (hb.mono (by simp; omega)))
 have hrw := hor.rw (F := fun k => w.heap.size + 2 ≤ k) (fun b hb => by simpa using hb)
 clear hor hb
 obtain ⟨a, c, rfl, hrest⟩ := hrw
 have HR : Hid (RW (fun k => w.heap.size + 2 ≤ k) 2 RgR w2 (rngs f 0) (.slice a (rngs f 0).length c)) := Lib.hid ⟨a, c, rfl, hrest⟩
 clear hrest
 obtain ⟨k0, k1, k2, k3, k4, k5, f0, f1, f2, f3, f4, f5⟩ := bk6 HB.out
 go_wp2_with fail
 rw [nest6 w2]
 have hbl := setL_below (B := w.heap.size) (b := w.heap.size + 1) (Nat.le_succ _) [.int .i64 1, .slice a (rngs f 0).length c, .string ⟨#[]⟩, .slice none 0 0, .int .i64 0, .int .i64 0] w2 0
 refine item_ret (P := 2) rfl HB.out rfl (by rfl) ⟨_, rfl, ?_, HW.out.trans hbl⟩
 exact NG.node (kids := []) (HR.out.go ⟨hbl.size, fun k hk _ => ⟨by omega, setL_heap _ (by omega) _ _⟩⟩ (fun _ _ h => h)) RW.nil 1 [] 0 0 (by simp)
end Go.Proofs.YtihdnlpelfgklaaDoor
namespace Go.Proofs.YtihdnlpelfgklaaDoor
open Go.RowKit
def psE (l : List UInt8) (at_ e : Nat) (i : Nat) : Value := if i = 0 then .string ⟨l.toArray⟩ else if i = 1 then .int .i64 (at_ : Int) else .int .i64 (e : Int)
def PSt (b : Nat) (l : List UInt8) (at_ e : Nat) (W : World) : Prop := BK b 3 (psE l at_ e) W
structure PK (b : Nat) (l : List UInt8) (at_ e : Nat) (w w' : World) : Prop where
 ap : Apart b w w'
 st : PSt b l at_ e w'
theorem Apart.setCell {b : Nat} (w : World) (i : Nat) (v : Value) : Apart b w (w.setCell ⟨b, i, none⟩ v) := ⟨(Below.refl _ w).setCell (p := ⟨b, i, none⟩) (Nat.le_refl _) v, fun k h1 _ => Below.heap_setCell _ _ _ k (by intro e; simp only at e; omega)⟩
theorem psE_two (l : List UInt8) (at_ e x : Nat) : ∀ i, i < 3 → Upd (psE l at_ e) 2 (.int .i64 (x : Int)) i = psE l at_ x i := fun i hi => by
 match i, hi with
 | 0, _ => rfl
 | 1, _ => rfl
 | 2, _ => rfl
set_option maxHeartbeats 4000000 in
set_option maxRecDepth 1000000 in
theorem fail_any (b : Nat) (l : List UInt8) (at_ e : Nat) (x : Nat) (w : World) (h : PSt b l at_ e w) : Calls Tryd.prog 27 #[.pointer (some ⟨b, 0, none⟩), .int .i64 (x : Int)] w fun r w' => r = .returned (.tuple #[]) ∧ PK b l at_ (if e = 0 then x else e) w w' := by
 have hb := h.lt
 have c2 : w.cell? ⟨b, 2, none⟩ = some (.int .i64 (e : Int)) := h.ev 2 (by omega)
 have f2 := h.fz 2
 have H := Lib.hid h
 clear h
 go_enter Tryd.func27, Tryd.ntmps27
 by_cases he : e = 0
 ·subst he
  go_wp2_with fail
  go_end0
  exact ⟨rfl, Apart.setCell w 2 _, (H.out.set 2 (by omega) _).cong (psE_two l at_ 0 x)⟩
 ·have z1 : ((e : Int) == 0) = false := by rw [beq_eq_false_iff_ne]; omega
  rw [if_neg he]
  clear he
  go_wp2_with fail
  go_end0
  exact ⟨rfl, Apart.refl _ _, H.out⟩
theorem Kinds.ap {b : Nat} {w w' : World} (h : Kinds w) (hb : 0 < b) (ha : Apart b w w') : Kinds w' := ⟨Nat.lt_of_lt_of_le h.1 ha.1.size, fun c hc => (ha.cell (p := ⟨0, c, none⟩) (Nat.ne_of_lt hb) h.1).trans (h.2 c hc)⟩
theorem Kinds.on {B : Nat} {w w' : World} (h : Kinds w) (hb : 0 < B) (k : Below B w w') : Kinds w' := ⟨Nat.lt_of_lt_of_le h.1 k.size, fun c hc => (k.cell (p := ⟨0, c, none⟩) hb).trans (h.2 c hc)⟩
structure PS (b : Nat) (l : List UInt8) (at_ : Nat) (w : World) : Prop where
 st : PSt b l at_ 0 w
 le : at_ ≤ l.length
 len : l.length ≤ 1000
 kd : Kinds w
 kb : 0 < b
structure PQ (b : Nat) (l : List UInt8) (at_ : Nat) (w w' : World) : Prop where
 ap : Apart b w w'
 ps : PS b l at_ w'
theorem PS.drewN {b : Nat} {l : List UInt8} {at_ : Nat} {w : World} (h : PS b l at_ w) (n : Nat) : PQ b l at_ w (w.drewN n) := ⟨⟨⟨rfl, rfl, rfl, Nat.le_refl _, fun _ _ => rfl⟩, fun _ _ _ => rfl⟩, ⟨h.st.keep rfl (Nat.le_refl _), h.le, h.len, ⟨h.kd.1, h.kd.2⟩, h.kb⟩⟩
theorem PQ.refl {b : Nat} {l : List UInt8} {at_ : Nat} {w : World} (h : PS b l at_ w) : PQ b l at_ w w := ⟨Apart.refl _ _, h⟩
theorem PQ.trans {b : Nat} {l : List UInt8} {i j : Nat} {w w1 w2 : World} (h : PQ b l i w w1) (k : PQ b l j w1 w2) : PQ b l j w w2 := ⟨h.ap.trans k.ap, k.ps⟩
theorem PQ.on {b : Nat} {l : List UInt8} {i : Nat} {w w1 w2 : World} (h : PQ b l i w w1) (k : Below w1.heap.size w1 w2) : PQ b l i w w2 := ⟨h.ap.trans (Apart.of_below k h.ps.st.lt), ⟨h.ps.st.on k h.ps.st.lt, h.ps.le, h.ps.len, h.ps.kd.below k, h.ps.kb⟩⟩
theorem PS.on {b : Nat} {l : List UInt8} {i : Nat} {w w' : World} (h : PS b l i w) {B : Nat} (k : Below B w w') (hb : b < B) : PS b l i w' := ⟨h.st.on k hb, h.le, h.len, h.kd.on (Nat.lt_trans h.kb hb) k, h.kb⟩
theorem PQ.far {b : Nat} {l : List UInt8} {i : Nat} {w w1 w2 : World} (h : PQ b l i w w1) (k : Below w.heap.size w1 w2) (hb : b < w.heap.size) : PQ b l i w w2 := ⟨⟨h.ap.1.trans (k.mono (Nat.le_of_lt hb)), fun j h1 h2 => (k.block j h2).trans (h.ap.2 j h1 h2)⟩, h.ps.on k hb⟩
theorem psE_one (l : List UInt8) (at_ x : Nat) : ∀ i, i < 3 → Upd (psE l at_ 0) 1 (.int .i64 (x : Int)) i = psE l x 0 i := fun i hi => by
 match i, hi with
 | 0, _ => rfl
 | 1, _ => rfl
 | 2, _ => rfl
theorem PS.to {b : Nat} {l : List UInt8} {i : Nat} {w : World} (h : PS b l i w) (j : Nat) (hj : j ≤ l.length) : PQ b l j w (w.setCell ⟨b, 1, none⟩ (.int .i64 (j : Int))) := ⟨Apart.setCell w 1 _, ⟨(h.st.set 1 (by omega) _).cong (psE_one l i j), hj, h.len, h.kd.ap h.kb (Apart.setCell w 1 _), h.kb⟩⟩
theorem PS.c0 {b : Nat} {l : List UInt8} {i : Nat} {w : World} (h : PS b l i w) : w.cell? ⟨b, 0, none⟩ = some (.string ⟨l.toArray⟩) := h.st.ev 0 (by omega)
theorem PS.c1 {b : Nat} {l : List UInt8} {i : Nat} {w : World} (h : PS b l i w) : w.cell? ⟨b, 1, none⟩ = some (.int .i64 (i : Int)) := h.st.ev 1 (by omega)
theorem PS.c2 {b : Nat} {l : List UInt8} {i : Nat} {w : World} (h : PS b l i w) : w.cell? ⟨b, 2, none⟩ = some (.int .i64 0) := h.st.ev 2 (by omega)
set_option maxHeartbeats 4000000 in
set_option maxRecDepth 1000000 in
theorem pnext_ok (b : Nat) (l : List UInt8) (at_ : Nat) (w : World) (h : PS b l at_ w) (v : Nat) (hv : Asc.at_ l at_ = v) (hv2 : v < 256) : Calls Tryd.prog 54 #[.pointer (some ⟨b, 0, none⟩)] w fun r w' => r = .returned (.tuple #[.int .u8 (v : Int), .bool true]) ∧ PQ b l at_ w w' := by
 have hl : at_ < l.length := Asc.at_lt (by omega)
 have hb := h.st.lt
 have c0 := h.c0
 have c1 := h.c1
 have c2 := h.c2
 have H := Lib.hid h
 obtain ⟨c, ⟨_, hx⟩, hc, _⟩ := byte_at l at_ hl
 have e : c = v := by rw [← hc, ← hv, Asc.at_of hl]
 rw [e] at hx
 clear h e hc hv
 have z1 : decide ((l.length : Int) ≤ (at_ : Int)) = false := decide_eq_false (by omega)
 have y1 : decide (l.length ≤ at_) = false := decide_eq_false (by omega)
 have i1 : (at_ : Int) < (l.length : Int) := by omega
 have i2 : (0 : Int) ≤ (at_ : Int) := by omega
 go_enter Tryd.func54, Tryd.ntmps54
 go_wp2_with fail
 go_quiet (fail)
 go_wp2_with fail
 go_quiet (fail)
 go_wp2_with fail
 go_ret2
 exact ⟨rfl, (H.out.drewN _).trans ((H.out.drewN _).ps.drewN _)⟩
set_option maxHeartbeats 4000000 in
set_option maxRecDepth 1000000 in
theorem pnext_end (b : Nat) (l : List UInt8) (at_ : Nat) (w : World) (h : PS b l at_ w) (hl : l.length ≤ at_) : Calls Tryd.prog 54 #[.pointer (some ⟨b, 0, none⟩)] w fun r w' => r = .returned (.tuple #[.int .u8 0, .bool false]) ∧ PQ b l at_ w w' := by
 have hb := h.st.lt
 have c0 := h.c0
 have c1 := h.c1
 have c2 := h.c2
 have H := Lib.hid h
 clear h
 have z1 : decide ((l.length : Int) ≤ (at_ : Int)) = true := decide_eq_true (by omega)
 have y1 : decide (l.length ≤ at_) = true := decide_eq_true (by omega)
 go_enter Tryd.func54, Tryd.ntmps54
 go_wp2_with fail
 go_quiet (fail)
 go_wp2_with fail
 go_ret2
 exact ⟨rfl, H.out.drewN _⟩
end Go.Proofs.YtihdnlpelfgklaaDoor
namespace Go.Proofs.YtihdnlpelfgklaaDoor
open Go.RowKit
set_option maxHeartbeats 4000000 in
set_option maxRecDepth 1000000 in
theorem psees_yes (b : Nat) (l : List UInt8) (at_ : Nat) (w : World) (h : PS b l at_ w) (c : Nat) (hc : Asc.at_ l at_ = c) (hc2 : c < 256) : Calls Tryd.prog 56 #[.pointer (some ⟨b, 0, none⟩), .int .u8 (c : Int)] w fun r w' => r = .returned (.bool true) ∧ PQ b l at_ w w' := by
 have HN := Lib.hid (pnext_ok b l at_ w h c hc hc2)
 clear h hc
 go_enter Tryd.func56, Tryd.ntmps56
 go_wp2_with (go_at_call 54; refine HN.out.mono ?_; rintro e w1 ⟨rfl, hq⟩; have HQ := Lib.hid hq; clear hq)
 go_ret
 exact ⟨rfl, HQ.out⟩
set_option maxHeartbeats 4000000 in
set_option maxRecDepth 1000000 in
theorem psees_no (b : Nat) (l : List UInt8) (at_ : Nat) (w : World) (h : PS b l at_ w) (c : Nat) (hc : Asc.at_ l at_ ≠ c) : Calls Tryd.prog 56 #[.pointer (some ⟨b, 0, none⟩), .int .u8 (c : Int)] w fun r w' => r = .returned (.bool false) ∧ PQ b l at_ w w' := by
 by_cases hl : at_ < l.length
 ·obtain ⟨v, hv⟩ : ∃ v, Asc.at_ l at_ = v := ⟨_, rfl⟩
  have HN := Lib.hid (pnext_ok b l at_ w h v hv (by have := Asc.at_le hl; omega))
  have z1 : ((v : Int) == (c : Int)) = false := by rw [beq_eq_false_iff_ne]; omega
  clear h hc hv hl
  go_enter Tryd.func56, Tryd.ntmps56
  go_wp2_with (go_at_call 54; refine HN.out.mono ?_; rintro e w1 ⟨rfl, hq⟩; have HQ := Lib.hid hq; clear hq)
  go_ret
  exact ⟨rfl, HQ.out⟩
 ·have HN := Lib.hid (pnext_end b l at_ w h (by omega))
  clear h hc hl
  go_enter Tryd.func56, Tryd.ntmps56
  go_wp2_with (go_at_call 54; refine HN.out.mono ?_; rintro e w1 ⟨rfl, hq⟩; have HQ := Lib.hid hq; clear hq)
  go_ret
  exact ⟨rfl, HQ.out⟩
set_option maxHeartbeats 4000000 in
set_option maxRecDepth 1000000 in
theorem ptakes_yes (b : Nat) (l : List UInt8) (at_ : Nat) (w : World) (h : PS b l at_ w) (c : Nat) (hc : Asc.at_ l at_ = c) (hc2 : c < 256) : Calls Tryd.prog 38 #[.pointer (some ⟨b, 0, none⟩), .int .u8 (c : Int)] w fun r w' => r = .returned (.bool true) ∧ PQ b l (at_ + 1) w w' := by
 have HN := Lib.hid (psees_yes b l at_ w h c hc hc2)
 have hl : at_ < l.length := Asc.at_lt (by omega)
 have hl2 := h.len
 have hw : IntKind.i64.wrap ((at_ : Int) + 1) = (at_ : Int) + 1 := IntWalk.i64_in _ (by omega)
 have HL := Lib.hid hl
 clear h hc hl
 go_enter Tryd.func38, Tryd.ntmps38
 go_wp2_with (go_at_call 56; refine HN.out.mono ?_; rintro e w1 ⟨rfl, hq⟩; have HQ := Lib.hid hq; have c1 := hq.ps.c1; have f1 := hq.ps.st.fz 1; clear hq)
 go_ret
 exact ⟨rfl, HQ.out.trans (HQ.out.ps.to (at_ + 1) HL.out)⟩
set_option maxHeartbeats 4000000 in
set_option maxRecDepth 1000000 in
theorem pexpect_yes (b : Nat) (l : List UInt8) (at_ : Nat) (w : World) (h : PS b l at_ w) (c : Nat) (hc : Asc.at_ l at_ = c) (hc2 : c < 256) : Calls Tryd.prog 85 #[.pointer (some ⟨b, 0, none⟩), .int .u8 (c : Int)] w fun r w' => r = .returned (.tuple #[]) ∧ PQ b l (at_ + 1) w w' := by
 have HN := Lib.hid (ptakes_yes b l at_ w h c hc hc2)
 clear h hc
 go_enter Tryd.func85, Tryd.ntmps85
 go_wp2_with (go_at_call 38; refine HN.out.mono ?_; rintro e w1 ⟨rfl, hq⟩; have HQ := Lib.hid hq; clear hq)
 go_end0
 exact ⟨rfl, HQ.out⟩
def joinT (op : Int) (ts : List NT) : NT := match ts with
 | [] => .node 0 [] [] [] 0 0
 | [t] => t
 | t :: u :: r => .node op [] [] (t :: u :: r) 0 0
def NB (B : Nat) (t : NT) (w : World) (e : Ending) (w' : World) : Prop := ∃ v, e = .returned v ∧ NG (fun k => B ≤ k) w' t v ∧ Below w.heap.size w w'
theorem new_ret {fn : Func} {P : Tmp} (hfn : fn.results = #[.cell P 29]) {w : World} {v0 v1 v2 v3 v4 v5 : Value} {ty : TypeId} {tmps : Array Value} {df : _} (hdf : df = []) (hp : tmps.getD P undef = .pointer (some ⟨w.heap.size, 0, none⟩)) {post : Ending → World → Prop}
  (h : post (.returned (.agg #[v0, v1, v2, v3, v4, v5])) (w.alloc (.cells #[v0, v1, v2, v3, v4, v5] ty))) :
  bodyPost Tryd.prog fn post Exit.ret { tmps := tmps, defers := df } (w.alloc (.cells #[v0, v1, v2, v3, v4, v5] ty)) :=
 bodyPost_ret (results_cell_row hfn tmps _ w.heap.size ty #[v0, v1, v2, v3, v4, v5] (0, 0) _ hp (heap_alloc_new w _) Tryd.underlying29 rfl (by kernel_rfl)) hdf h
theorem al_below (w : World) (o : Obj) : Below w.heap.size w (w.alloc o) := (Below.refl _ w).alloc (Nat.le_refl _) o
theorem al_stay {B : Nat} (w : World) (o : Obj) : Stay (fun k => B ≤ k) (fun k => B ≤ k) w (w.alloc o) := ⟨(al_below w o).size, fun k hk hl => ⟨hk, (al_below w o).block k hl⟩⟩
set_option maxHeartbeats 8000000 in
set_option maxRecDepth 1000000 in
theorem join_any (op : Int) (ts : List NT) (v : Value) (w : World) (B : Nat) (h : RW (fun k => B ≤ k) 6 (KR (fun k => B ≤ k) w) w ts v) : Calls Tryd.prog 39 #[.int .i64 op, v] w (NB B (joinT op ts) w) := by
 have H := Lib.hid h
 obtain ⟨a, c, rfl, hm, hk⟩ := h
 have HK := Lib.hid hk
 clear hk
 match ts, H, HK, hm with
 | [], H, HK, hm =>
  clear hm
  go_enter Tryd.func39, Tryd.ntmps39
  go_wp2_with fail
  refine new_ret (P := 4) rfl rfl (by rfl) ⟨_, rfl, ?_, al_below w _⟩
  exact NG.node (rs := []) (kids := []) RW.nil RW.nil 0 [] 0 0 (by simp)
 | [t], H, HK, hm =>
  obtain ⟨blk, off, rfl, hl, hF, hc⟩ := HK.out (by simp)
  obtain ⟨us, hu, hcell, hr⟩ := hc 0 (by simp)
  have HR := Lib.hid hr
  obtain ⟨op', rs, nm, kids, mn, mx, ra, rc, a', c', ht, ev, _⟩ := NG.open hr
  have eu : us = [.int .i64 op', .slice ra rs.length rc, .string ⟨nm.toArray⟩, .slice a' kids.length c', .int .i64 mn, .int .i64 mx] := by
   injection ev with ev
   have := congrArg Array.toList ev
   simpa using this
  subst eu
  have hal : ∀ j, (w.alloc (.cells #[.int .i64 0, .slice none 0 0, .string ⟨#[]⟩, .slice none 0 0, .int .i64 0, .int .i64 0] 29)).cell? ⟨blk, j, none⟩ = w.cell? ⟨blk, j, none⟩ := fun j => (al_below w _).cell (p := ⟨blk, j, none⟩) hl
  have e0 := (hal _).trans ((hcell 0 (by simp)).trans (show _ = some (Value.int .i64 op') from rfl))
  have e1 := (hal _).trans ((hcell 1 (by simp)).trans (show _ = some (Value.slice ra rs.length rc) from rfl))
  have e2 := (hal _).trans ((hcell 2 (by simp)).trans (show _ = some (Value.string ⟨nm.toArray⟩) from rfl))
  have e3 := (hal _).trans ((hcell 3 (by simp)).trans (show _ = some (Value.slice a' kids.length c') from rfl))
  have e4 := (hal _).trans ((hcell 4 (by simp)).trans (show _ = some (Value.int .i64 mn) from rfl))
  have e5 := (hal _).trans ((hcell 5 (by simp)).trans (show _ = some (Value.int .i64 mx) from rfl))
  clear hm hal hcell hc hr hF ev ht
  simp only [Nat.zero_mul, Nat.add_zero] at e0 e1 e2 e3 e4 e5
  go_enter Tryd.func39, Tryd.ntmps39
  go_wp2_with fail
  exact new_ret (P := 4) rfl rfl (by rfl) ⟨_, rfl, NG.go (al_stay w _) _ _ HR.out, al_below w _⟩
 | t :: u :: r, H, HK, hm =>
  obtain ⟨n, hn⟩ : ∃ n, (t :: u :: r).length = n := ⟨_, rfl⟩
  have hn2 : 2 ≤ n := by rw [← hn]; simp
  have z0 : ((n : Int) == 0) = false := by rw [beq_eq_false_iff_ne]; omega
  have z1 : ((n : Int) == 1) = false := by rw [beq_eq_false_iff_ne]; omega
  rw [hn] at H ⊢
  clear hm hn HK
  go_enter Tryd.func39, Tryd.ntmps39
  go_wp2_with fail
  refine new_ret (P := 4) rfl rfl (by rfl) ⟨_, rfl, ?_, al_below w _⟩
  exact NG.node (rs := []) (kids := t :: u :: r) RW.nil (H.out.go (al_stay w _) (fun _ _ h => KR.go (al_stay w _) _ _ h)) op [] 0 0 (by simp)
end Go.Proofs.YtihdnlpelfgklaaDoor
namespace Go.Proofs.YtihdnlpelfgklaaDoor
open Go.RowKit
def capN (l : List UInt8) : Nat := if 0 < nlen l ∧ Asc.at_ l (nlen l) = 58 then nlen l else 0
theorem capN_no (l : List UInt8) (h : ¬ (0 < nlen l ∧ Asc.at_ l (nlen l) = 58)) : capN l = 0 := if_neg h
theorem capN_yes (l : List UInt8) (h : 0 < nlen l) (h2 : Asc.at_ l (nlen l) = 58) : capN l = nlen l := if_pos ⟨h, h2⟩
set_option maxHeartbeats 4000000 in
set_option maxRecDepth 1000000 in
theorem capt_any (l : List UInt8) (w : World) (hk : Kinds w) (hml : l.length ≤ 9223372036854775807) :
  Calls Tryd.prog 89 #[.string ⟨l.toArray⟩] w fun e w' => e = .returned (.int .i64 (capN l)) ∧ w = w' := by
 have HN := Lib.hid (nlen_any l w hk hml)
 obtain ⟨n, hn⟩ : ∃ n, nlen l = n := ⟨_, rfl⟩
 obtain ⟨R, hR⟩ : ∃ R, capN l = R := ⟨_, rfl⟩
 have h0 : ¬ (0 < n ∧ Asc.at_ l n = 58) → 0 = R := fun h => by rw [← hR, capN_no l (by rw [hn]; exact h)]
 have h1 : 0 < n → Asc.at_ l n = 58 → n = R := fun h h2 => by rw [← hR, capN_yes l (by rw [hn]; exact h) (by rw [hn]; exact h2), hn]
 rw [hn] at HN
 rw [hR]
 have H0 := Lib.hid h0
 have H1 := Lib.hid h1
 clear hn hR h0 h1 hk
 rcases Nat.eq_zero_or_pos n with rfl | hpos
 ·have HZ := Lib.hid (H0.out (by omega))
  go_enter Tryd.func89, Tryd.ntmps89
  go_wp2_with (go_at_call 72; refine HN.out.mono ?_; rintro e w' ⟨rfl, rfl⟩)
  go_ret
  exact ⟨ret_int (by rw [← HZ.out]; rfl), rfl⟩
 ·have z0 : decide ((0 : Int) < (n : Int)) = true := decide_eq_true (by omega)
  have y0 : decide (0 < n) = true := decide_eq_true hpos
  by_cases hlt : n < l.length
  ·have z1 : decide ((n : Int) < (l.length : Int)) = true := decide_eq_true (by omega)
   have y1 : decide (n < l.length) = true := decide_eq_true hlt
   have i1 : (n : Int) < (l.length : Int) := by omega
   have i2 : (0 : Int) ≤ (n : Int) := by omega
   obtain ⟨c, ⟨_, hx⟩, hc, hb⟩ := byte_at l n hlt
   have hc' : Asc.at_ l n = c := by rw [Asc.at_of hlt, hc]
   by_cases h58 : c = 58
   ·have HZ := Lib.hid (H1.out hpos (by rw [hc', h58]))
    subst h58
    clear hc hc'
    go_enter Tryd.func89, Tryd.ntmps89
    go_wp2_with (go_at_call 72; refine HN.out.mono ?_; rintro e w' ⟨rfl, rfl⟩)
    go_ret
    exact ⟨ret_int (by rw [← HZ.out]), rfl⟩
   ·have z2 : ((c : Int) == 58) = false := by rw [beq_eq_false_iff_ne]; omega
    have HZ := Lib.hid (H0.out (fun h => h58 (hc'.symm.trans h.2)))
    clear hc hc' h58
    go_enter Tryd.func89, Tryd.ntmps89
    go_wp2_with (go_at_call 72; refine HN.out.mono ?_; rintro e w' ⟨rfl, rfl⟩)
    go_ret
    exact ⟨ret_int (by rw [← HZ.out]; rfl), rfl⟩
  ·have z1 : decide ((n : Int) < (l.length : Int)) = false := decide_eq_false (by omega)
   have y1 : decide (n < l.length) = false := decide_eq_false hlt
   have HZ := Lib.hid (H0.out (fun h => hlt (Asc.at_lt (by omega))))
   clear hlt
   go_enter Tryd.func89, Tryd.ntmps89
   go_wp2_with (go_at_call 72; refine HN.out.mono ?_; rintro e w' ⟨rfl, rfl⟩)
   go_ret
   exact ⟨ret_int (by rw [← HZ.out]; rfl), rfl⟩
set_option maxHeartbeats 4000000 in
set_option maxRecDepth 1000000 in
theorem printable_yes (c : Nat) (w : World) (h1 : 32 ≤ c) (h2 : c ≤ 126) : Calls Tryd.prog 82 #[.int .u8 (c : Int)] w fun e w' => e = .returned (.bool true) ∧ w = w' := by
 have z1 : decide ((32 : Int) ≤ (c : Int)) = true := decide_eq_true (by omega)
 have y1 : decide (32 ≤ c) = true := decide_eq_true h1
 have z2 : decide ((c : Int) ≤ 126) = true := decide_eq_true (by omega)
 have y2 : decide (c ≤ 126) = true := decide_eq_true h2
 go_enter Tryd.func82, Tryd.ntmps82
 go_wp2_with fail
 go_ret
 exact ⟨rfl, rfl⟩
set_option maxHeartbeats 4000000 in
set_option maxRecDepth 1000000 in
theorem slite_any (s : ByteArray) (c : Int) (w : World) : Calls Tryd.prog 96 #[.string s, .int .u8 c] w fun e w' => e = .returned (.int .i64 (Lib.indexByte s.data.toList c.toNat.toUInt8)) ∧ w' = w := by
 go_enter Tryd.func96, Tryd.ntmps96
 go_wp2
 rw [run_callFunc_extern Tryd.func98 (by kernel_rfl) (by kernel_rfl) (by kernel_rfl) (e := Extern.BytealgIndexByte.indexByte) (by kernel_rfl), Lib.run_indexByteString]
 simp only [Result.andThen]
 rw [Oper.upon_value]
 go_wp2
 go_ret
 exact ⟨rfl, rfl⟩
set_option maxHeartbeats 4000000 in
set_option maxRecDepth 1000000 in
theorem ibyte_any (s : ByteArray) (c : Int) (w : World) : Calls Tryd.prog 83 #[.string s, .int .u8 c] w fun e w' => e = .returned (.int .i64 (Lib.indexByte s.data.toList c.toNat.toUInt8)) ∧ w' = w := by
 go_enter Tryd.func83, Tryd.ntmps83
 go_wp2_with (go_at_call 96; refine (slite_any _ _ _).mono ?_; rintro e w' ⟨rfl, rfl⟩)
 go_ret
 exact ⟨rfl, rfl⟩
def spec : List UInt8 := [40, 41, 91, 93, 123, 125, 42, 43, 63, 124, 46, 94, 36, 92]
theorem special_no (c : UInt8) (w : World) (h : c ∉ spec) : Calls Tryd.prog 83 #[.string ⟨#[40, 41, 91, 93, 123, 125, 42, 43, 63, 124, 46, 94, 36, 92]⟩, .int .u8 (c.toNat : Int)] w fun e w' => e = .returned (.int .i64 (-1)) ∧ w' = w := by
 refine (ibyte_any _ _ w).mono ?_
 rintro e w' ⟨rfl, rfl⟩
 refine ⟨?_, rfl⟩
 show Ending.returned (.int .i64 (Lib.indexByte spec _)) = _
 rw [u8_of, Asc.indexByte_pos, if_neg (Asc.pos_none fun j hj => fun e => h (by rw [← e]; exact List.getElem_mem hj))]
theorem ret_set3 {fn : Func} {p t u : Tmp} (hfn : fn.results = #[.cell p 126, .tmp t, .tmp u]) {w : World} {f : Nat → Bool} {g : Nat} {ty : TypeId} (hg : w.heap[g]? = some (.cells (setA f) ty (0, 0))) {tmps : Array Value} {df : _} (hdf : df = []) (hp : tmps.getD p undef = .pointer (some ⟨g, 0, none⟩)) {post : Ending → World → Prop}
  (h : post (.returned (.tuple #[.agg (setA f), tmps.getD t undef, tmps.getD u undef])) w) : bodyPost Tryd.prog fn post Exit.ret { tmps := tmps, defers := df } w := by
 have hp' : tmps[p]?.getD undef = .pointer (some ⟨g, 0, none⟩) := by simpa using hp
 have hl := run_loadVar_row (P := Tryd.prog) w g ty 126 (setA f) (0, 0) _ hg undS rfl (by rw [setA_size]; exact (zero_of_info infoS).2)
 exact bodyPost_ret (by simp [results, hfn, hp', asAddr, hl]) hdf h
theorem put_set2 {W : World} {g : Nat} {f : Nat → Bool} {t : TypeId} (hg : W.heap[g]? = some (.cells (setA f) t (0, 0))) (f' : Nat → Bool) : ∃ W', (storeCells ⟨g, 0, none⟩ (setA f').toList).run Tryd.prog W = .ok () W' ∧ W'.heap[g]? = some (.cells (setA f') t (0, 0)) ∧ Below g W W' ∧ (storeCells ⟨g, 0, none⟩ (setA f').toList).run Tryd.prog W' = .ok () W' := by
 have h1 := setRow_heap W g _ (setA f') t (0, 0) hg
 refine ⟨_, put_set hg f', h1, below_setRow (Below.refl _ W) (Nat.le_refl _) _, ?_⟩
 have := put_set h1 f'
 rwa [setRow_self _ _ _ _ _ h1] at this
theorem put_self {W : World} {g : Nat} {f : Nat → Bool} {t : TypeId} (hg : W.heap[g]? = some (.cells (setA f) t (0, 0))) : (storeCells ⟨g, 0, none⟩ (setA f).toList).run Tryd.prog W = .ok () W := by
 have := put_set hg f
 rwa [setRow_self _ _ _ _ _ hg] at this
end Go.Proofs.YtihdnlpelfgklaaDoor
namespace Go.Proofs.YtihdnlpelfgklaaDoor
open Go.RowKit
structure PR (b : Nat) (l : List UInt8) (i : Nat) (w W : World) : Prop where
 pq : PQ b l i w W
 bk : BK w.heap.size 6 (nE 0 none 0 0 [] none 0 0 0 0) W
 hb : b < w.heap.size
theorem PR.start {b : Nat} {l : List UInt8} {i : Nat} {w : World} (h : PS b l i w) : PR b l i w (w.alloc (.cells #[.int .i64 0, .slice none 0 0, .string ⟨#[]⟩, .slice none 0 0, .int .i64 0, .int .i64 0] 29)) := ⟨(PQ.refl h).on (al_below w _), nE_new w 0 none 0 0 [] none 0 0 0 0, h.st.lt⟩
theorem PR.go {b : Nat} {l : List UInt8} {i j : Nat} {w W W' : World} (h : PR b l i w W) (k : PQ b l j W W') : PR b l j w W' := ⟨h.pq.trans k, h.bk.go k.ap (Nat.ne_of_gt h.hb), h.hb⟩
theorem PR.sz {b : Nat} {l : List UInt8} {i : Nat} {w W : World} (h : PR b l i w W) : w.heap.size < W.heap.size := h.bk.lt
theorem PR.far {b : Nat} {l : List UInt8} {i : Nat} {w W W' : World} (h : PR b l i w W) (k : Below (w.heap.size + 1) W W') : PR b l i w W' := ⟨h.pq.far (k.mono (Nat.le_succ _)) h.hb, h.bk.on k (Nat.lt_succ_self _), h.hb⟩
theorem PR.on {b : Nat} {l : List UInt8} {i : Nat} {w W W' : World} (h : PR b l i w W) (k : Below W.heap.size W W') : PR b l i w W' := h.far (k.mono h.sz)
theorem PR.ps {b : Nat} {l : List UInt8} {i : Nat} {w W : World} (h : PR b l i w W) : PS b l i W := h.pq.ps
theorem NG.up {W W' : World} {B : Nat} {t : NT} {v : Value} (h : NG (fun k => W.heap.size ≤ k) W' t v) (hB : B < W.heap.size) : NG (fun k => B < k) W' t v := NG.go ⟨Nat.le_refl _, fun _ hk _ => ⟨Nat.lt_of_lt_of_le hB hk, rfl⟩⟩ _ _ h
end Go.Proofs.YtihdnlpelfgklaaDoor

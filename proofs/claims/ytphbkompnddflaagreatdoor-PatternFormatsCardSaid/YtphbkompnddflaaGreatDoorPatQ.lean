/-
  The generator's nodes.
-/
import Derived.Test.YtphbkompnddflaaGreatDoorPatR
import Derived.Deep.RegionLaw
namespace Go.Proofs.YtphbkompnddflaaGreatDoor
open Go.RowKit

theorem infoN : (Tryz.prog.info? 25).map (fun i => (i.zero, i.size, i.bytes)) = some (some (.agg #[.int .i64 0, .slice none 0 0, .string ⟨#[]⟩, .slice none 0 0, .int .i64 0, .int .i64 0]), 6, 88) := by kernel_rfl
theorem node_one (op : Int) (ra : Option Addr) (rn rc : Nat) (nm : List UInt8) (a : Option Addr) (n c : Nat) (mn mx : Int) : ∀ u ∈ [Value.int .i64 op, .slice ra rn rc, .string ⟨nm.toArray⟩, .slice a n c, .int .i64 mn, .int .i64 mx], u.oneCell' = true := by
  intro u hu
  simp only [List.mem_cons, List.not_mem_nil, or_false] at hu
  rcases hu with rfl | rfl | rfl | rfl | rfl | rfl <;> rfl
theorem nkids_push {g : Nat} {w w4 w5 : World} {b : Nat} {E : Nat → Value} {kids : List NT} {v : Value} {o : Obj} {g' cap H : Nat} (hS : NS g w w4) (hb : w.heap.size < b) (hK : KL KR (fun k => w.heap.size < k ∧ k ≠ b) b 6 E 3 (b + 1) 25 6 kids v w4) (cs : List Value)
    (hown : w4.ownsRow (b + 1) 25 6 v kids.length cs)
    (hpush : ∀ (R' : NT → List Value → Prop) (W' : World) (x : NT) (us : List Value) (v' : Value), (∀ x us, KR (FF (fun k => w.heap.size < k ∧ k ≠ b) v) w4 x us → R' x us) → us.length = 6 → R' x us → kids.length + 1 ≤ 1000000 → W'.ownsRow (b + 1) 25 6 v' (kids.length + 1) (cs ++ us) → OR (b + 1) 25 6 R' W' (kids ++ [x]) v')
    (hgr : (w4.alloc o).grownBy w5 v.ownBlock) (hat : v.ownBlock = some g' ∨ g' = H) {t : NT} (us : List Value) (hH : H = (w4.alloc o).heap.size) (hu : us.length = 6) (hx : KR (FF (fun k => w.heap.size < k ∧ k ≠ b) v) w4 t us) (hl : kids.length + 1 ≤ 1000000)
    (ho : w5.ownsRow (b + 1) 25 6 (.slice (some ⟨g', 0, none⟩) (kids.length + 1) cap) (kids.length + 1) (cs ++ us)) :
    (NS g w (w5.setCell ⟨b, 3, none⟩ (.slice (some ⟨g', 0, none⟩) (kids.length + 1) cap)) ∧ KL KR (fun k => w.heap.size < k ∧ k ≠ b) b 6 E 3 (b + 1) 25 6 (kids ++ [t]) (.slice (some ⟨g', 0, none⟩) (kids.length + 1) cap) (w5.setCell ⟨b, 3, none⟩ (.slice (some ⟨g', 0, none⟩) (kids.length + 1) cap))) ∧
      w5.cell? ⟨b, 3, none⟩ = some v ∧ w5.frozen? ⟨b, 3, none⟩ = false := by
  have hB := push_below hgr hown hK.BW
  refine ⟨⟨⟨(hS.gd.on (hB.mono (by omega))).set (Nat.le_of_lt hb) _ _, (hS.bk.on hB (by omega)).other (Nat.ne_of_lt hb) _ _⟩, hK.push (by decide) (fun h => h.2 rfl) hgr (hat.imp id (fun e => by rw [e, hH]; simp)) cs hown hpush (fun _ _ _ _ h => KR.go h) t us hu hx hl ho⟩, ?_, ?_⟩
  · exact (hB.cell (p := ⟨b, 3, none⟩) (Nat.lt_succ_self _)).trans (hK.cell (by decide))
  · exact (hB.frozen (p := ⟨b, 3, none⟩) (Nat.lt_succ_self _)).trans (hK.bk.fz 3)
theorem nff_new {α : Type} {RR : (Nat → Prop) → World → α → List Value → Prop} {w0 b m c B k : Nat} {e : TypeId} {E : Nat → Value} {xs : List α} {v : Value} {W W' : World} {t : NT} {x : Value} (h : KL RR (fun k => w0 < k ∧ k ≠ b) b m E c B e k xs v W) (hb : w0 < b)
    (hT : NG (fun k => W.heap.size ≤ k) W' t x) : NG (FF (fun k => w0 < k ∧ k ≠ b) v) W' t x :=
  NG.go ⟨Nat.le_refl _, fun k hk _ => ⟨⟨⟨by have := h.bk.lt; omega, by have := h.bk.lt; omega⟩, fun e => by
    obtain ⟨cs, hown, _⟩ := h.row.cells
    have := (hown.lt k e).2
    omega⟩, rfl⟩⟩ _ _ hT

set_option maxRecDepth 100000 in
set_option maxHeartbeats 40000000 in
theorem node_aux (depth : Nat) (hd : depth ≤ 4) (IH : ∀ d, d + 1 = depth → ∀ (g : Nat) (w : World), CodesAt w g → Calls Tryz.prog 8 #[.pointer (some ⟨g, 0, none⟩), .int .i64 d] w (NP g w))
    (g : Nat) (w : World) (hc : CodesAt w g) : Calls Tryz.prog 8 #[.pointer (some ⟨g, 0, none⟩), .int .i64 depth] w (NP g w) := by
  have HS0 := Lib.hid (NS.start hc)
  have HIH := Lib.hid IH
  have HLF := Lib.hid leaf_any
  clear hc IH
  go_enter Tryz.func8, Tryz.ntmps8
  by_cases hz : depth = 0
  · subst hz
    go_wp2_with fail
    refine (HLF.out g _ HS0.out.gd.codes).mono ?_
    rintro e wl ⟨v, t, rfl, hT, hgl, hsm⟩
    have HSL := Lib.hid (HS0.out.go hgl.ap hgl.codes)
    have HTL := Lib.hid (NG.go (F' := (fun k => w.heap.size < k)) (w' := wl) ⟨Nat.le_refl _, fun k hk _ => ⟨Nat.lt_of_lt_of_le HS0.out.bk.lt hk, rfl⟩⟩ _ _ hT)
    obtain ⟨op, rs, nm, kids, mn, mx, ra, rc, a, c, rfl, rfl, _⟩ := hT.open
    have HKL := Lib.hid hsm
    clear hT hgl hsm
    obtain ⟨k0, k1, k2, k3, k4, k5, f0, f1, f2, f3, f4, f5⟩ := bk6 HSL.out.bk
    go_wp2_with fail
    rw [nest6 wl]
    exact node_ret (P := 4) rfl HSL.out _ _ rfl (by rfl) HTL.out HKL.out
  · obtain ⟨d, rfl⟩ : ∃ d, depth = d + 1 := ⟨depth - 1, by omega⟩
    have hd1 : ((d + 1 : Nat) : Int) - 1 = (d : Int) := by omega
    have z0 : decide (((d + 1 : Nat) : Int) ≤ 0) = false := decide_eq_false (by omega)
    have z0b : decide ((d : Int) + 1 ≤ 0) = false := decide_eq_false (by omega)
    clear hz
    go_wp2_with fail
    refine (next_any g 3 _ HS0.out.gd.codes (by omega) (by omega)).mono ?_
    rintro e w1 ⟨q, hq, rfl, hca, hap⟩
    have HS1 := Lib.hid (HS0.out.go hap hca)
    clear hca hap
    by_cases q0 : q = 0
    · subst q0
      go_wp2_with fail
      refine (HLF.out g _ HS1.out.gd.codes).mono ?_
      rintro e wl ⟨v, t, rfl, hT, hgl, hsm⟩
      have HSL := Lib.hid (HS1.out.go hgl.ap hgl.codes)
      have HTL := Lib.hid (NG.go (F' := (fun k => w.heap.size < k)) (w' := wl) ⟨Nat.le_refl _, fun k hk _ => ⟨Nat.lt_of_lt_of_le HS1.out.bk.lt hk, rfl⟩⟩ _ _ hT)
      obtain ⟨op, rs, nm, kids, mn, mx, ra, rc, a, c, rfl, rfl, _⟩ := hT.open
      have HKL := Lib.hid hsm
      clear hT hgl hsm
      obtain ⟨k0, k1, k2, k3, k4, k5, f0, f1, f2, f3, f4, f5⟩ := bk6 HSL.out.bk
      go_wp2_with fail
      rw [nest6 wl]
      exact node_ret (P := 4) rfl HSL.out _ _ rfl (by rfl) HTL.out HKL.out
    · have y0 : ((q : Int) == 0) = false := by rw [beq_eq_false_iff_ne]; omega
      clear q0
      go_wp2_with fail
      refine (next_any g 7 _ HS1.out.gd.codes (by omega) (by omega)).mono ?_
      rintro e w2 ⟨r, hr, rfl, hca, hap⟩
      have HS := Lib.hid (HS1.out.go hap hca)
      clear hca hap HS1 HS0 y0 hq
      rcases (show (r = 0 ∨ r = 1 ∨ r = 2) ∨ r = 3 ∨ r = 4 ∨ 5 ≤ r by omega) with h012 | rfl | rfl | h5
      · go_upto_if 21 with fail
        go_cut [21] (fun b wx => b = .bool true ∧ w2 = wx)
        case first =>
          rcases h012 with rfl | rfl | rfl
          all_goals
            go_wp2_with fail
            go_meet
            exact ⟨rfl, rfl⟩
        case rest =>
        obtain ⟨rfl, rfl⟩ := hcut
        have HK1 : Hid (KL KR (fun k => w.heap.size < k ∧ k ≠ w2.heap.size) w2.heap.size 6 (nE 2 none 0 0 [] none 0 0 0 0) 3 (w2.heap.size + 1) 25 6 [] (.slice none 0 0) (w2.alloc (.cells #[.int .i64 2, .slice none 0 0, .string ⟨#[]⟩, .slice none 0 0, .int .i64 0, .int .i64 0] 25))) := Lib.hid ⟨(nE_new w2 2 none 0 0 [] none 0 0 0 0).cong (fun i hi => by
          match i, hi with
          | 0, _ => rfl
          | 1, _ => rfl
          | 2, _ => rfl
          | 3, _ => rfl
          | 4, _ => rfl
          | 5, _ => rfl), OR.nil, Nat.lt_succ_self _, by simp⟩
        have HS1 := Lib.hid (HS.out.al (.cells #[.int .i64 2, .slice none 0 0, .string ⟨#[]⟩, .slice none 0 0, .int .i64 0, .int .i64 0] 25))
        obtain ⟨b, hb⟩ : ∃ b, w2.heap.size = b := ⟨_, rfl⟩
        have HGB := Lib.hid (show g < b from hb ▸ HS.out.gd.codes.1)
        have HBL := Lib.hid (show w.heap.size < b from hb ▸ HS.out.bk.lt)
        have HNG : Hid (¬ (w.heap.size < g ∧ g ≠ b)) := Lib.hid (by have := HS.out.gd.hg; omega)
        rw [hb] at HK1
        go_wp2_with fail
        (try rw [hb])
        clear hb
        refine (next_any g 2 _ HS1.out.gd.codes (by omega) (by omega)).mono ?_
        rintro e w3 ⟨m, hm, rfl, hca, hap⟩
        have HS2 := Lib.hid (HS1.out.go hap hca)
        have HK2 := Lib.hid (HK1.out.go hap HGB.out HNG.out (fun _ _ _ _ h => KR.go h))
        clear hca hap HS1 HK1
        go_wp2_with fail
        go_loopw [6] (fun i wr => ∃ (j : Nat) (kids : List NT) (v : Value), i = .int .i64 j ∧ j + kids.length ≤ 3 ∧ Hid (∀ k ∈ kids, Sm 1000 k) ∧ NS g w wr ∧ KL KR (fun k => w.heap.size < k ∧ k ≠ b) b 6 (nE 2 none 0 0 [] none 0 0 0 0) 3 (b + 1) 25 6 kids v wr) (fun i _ => (intOf i).toNat)
        case atStart => exact ⟨2 + m, [], _, by go_num, by simp; omega, Lib.hid (by simp), HS2.out, HK2.out⟩
        case round =>
          obtain ⟨j, kids, v, rfl, hjk, HSM, hS, hK⟩ := hrel
          have HSR := Lib.hid hS
          have HKR := Lib.hid hK
          clear hS hK HS2 HK2 HS
          cases j with
          | zero =>
            have HRW := Lib.hid (HKR.out.row.rw (F := (fun k => w.heap.size < k)) (R := _) (fun b hb => by have := HBL.out; omega))
            have HRW2 : Hid (RW (fun k => w.heap.size < k) 6 (KR (fun k => w.heap.size < k) wr) wr kids v) := Lib.hid (HRW.out.go ⟨Nat.le_refl _, fun k hk _ => ⟨hk, rfl⟩⟩ (fun t us h => NG.go ⟨Nat.le_refl _, fun k hk _ => ⟨hk.1.1, rfl⟩⟩ _ _ h))
            obtain ⟨k0, k1, k2, k3, k4, k5, f0, f1, f2, f3, f4, f5⟩ := bk6 HSR.out.bk
            obtain ⟨a, c, rfl, _⟩ := HRW2.out
            have b0 : wr.cell? ⟨b, 0, none⟩ = some (.int .i64 2) := HKR.out.bk.ev 0 (by omega)
            have b1 : wr.cell? ⟨b, 1, none⟩ = some (.slice none 0 0) := HKR.out.bk.ev 1 (by omega)
            have b2 : wr.cell? ⟨b, 2, none⟩ = some (.string ⟨#[]⟩) := HKR.out.bk.ev 2 (by omega)
            have b3 : wr.cell? ⟨b, 3, none⟩ = some (.slice a kids.length c) := HKR.out.bk.ev 3 (by omega)
            have b4 : wr.cell? ⟨b, 4, none⟩ = some (.int .i64 0) := HKR.out.bk.ev 4 (by omega)
            have b5 : wr.cell? ⟨b, 5, none⟩ = some (.int .i64 0) := HKR.out.bk.ev 5 (by omega)
            have hbne : b ≠ w.heap.size := Nat.ne_of_gt HBL.out
            go_wp2_with fail
            rw [nest6 wr]
            exact node_ret (P := 4) rfl HSR.out _ _ rfl (by rfl) (NG.node (rs := []) RW.nil HRW2.out 2 [] 0 0 (by simp)) (Sm.node (by simp) (by omega) HSM.out)
          | succ j =>
            have hj0 : (0 : Int) < (j : Int) + 1 := by omega
            have hwd : IntKind.i64.wrap (d : Int) = (d : Int) := (IntWalk.i64_left _).trans (IntWalk.wrap64_in _ (by omega))
            have hc0 : wr.drew.cell? ⟨b, 3, none⟩ = some v := HKR.out.cell (by decide)
            have hf0 : wr.drew.frozen? ⟨b, 3, none⟩ = false := HKR.out.bk.fz 3
            have HSD := Lib.hid HSR.out.dr
            have HKD := Lib.hid (HKR.out.go (Apart.of_below (Below.refl _ wr).drew HSR.out.gd.codes.1) HGB.out HNG.out (fun _ _ _ _ h => KR.go h))
            obtain ⟨i0, hi, hz0, hz1, hz2⟩ := info_parts infoN
            go_wp2_with fail
            go_region_law (first
              | (refine step_append_lies _ (by rfl) _ _ _ (by rfl) (b + 1) 25 i0 (.agg #[.int .i64 0, .slice none 0 0, .string ⟨#[]⟩, .slice none 0 0, .int .i64 0, .int .i64 0]) 6 88 Tryz.underlying23 hi hz0 hz1 hz2 rfl (by decide) _ _ _ (by rfl) (hown4.alloc _) ⟨w4.heap.size, 0, none⟩ 1 1 [.int .i64 op, .slice ra rs.length rc, .string ⟨nm.toArray⟩, .slice a kk.length c, .int .i64 mn, .int .i64 mx] (by rfl) rfl (World.news_of_block (heap_alloc_new w4 _)) (node_one _ _ _ _ _ _ _ _ _ _) (by omega) (by unfold maxLen; omega) (by omega) (Nat.le_trans HK4.out.BW (by simp)) _ rfl ?_; intro g' cap' w5 hown5 hgrow5 hat5 hlt5; obtain ⟨hP5, hc5, hf5⟩ := nkids_push HS4.out HBL.out HK4.out cs hown4 HPU.out hgrow5 hat5 _ rfl rfl HTR.out (by omega) hown5; have HP5 := Lib.hid hP5; clear hP5 hown5 hgrow5)
              | (go_simp; go_at_call 8; (try rw [hwd]); refine (HIH.out d rfl g _ HSD.out.gd.codes).mono ?_; rintro e w4 ⟨x, t, rfl, hT, hg4, hsm4⟩; have HSM4 := Lib.hid hsm4; clear hsm4; have HS4 := Lib.hid (HSD.out.go hg4.ap hg4.codes); have HK4 := Lib.hid (HKD.out.go hg4.ap HGB.out HNG.out (fun _ _ _ _ h => KR.go h)); have hc4 : w4.cell? ⟨b, 3, none⟩ = some v := HK4.out.cell (by decide); have hf4 : w4.frozen? ⟨b, 3, none⟩ = false := HK4.out.bk.fz 3; have hca4 : ∀ o, (w4.alloc o).cell? ⟨b, 3, none⟩ = some v := (fun o => HK4.out.cellA (by decide) o); have hfa4 : ∀ o, (w4.alloc o).frozen? ⟨b, 3, none⟩ = false := (fun o => HK4.out.fzA 3 o); obtain ⟨op, rs, nm, kk, mn, mx, ra, rc, a, c, rfl, rfl, _⟩ := hT.open; obtain ⟨cs, hown4, hpush⟩ := HK4.out.row.cells; have HPU := Lib.hid hpush; have HTR : Hid (KR (FF (fun k => w.heap.size < k ∧ k ≠ b) v) w4 (.node op rs nm kk mn mx) [.int .i64 op, .slice ra rs.length rc, .string ⟨nm.toArray⟩, .slice a kk.length c, .int .i64 mn, .int .i64 mx]) := Lib.hid (nff_new HKD.out HBL.out hT); clear hpush hT hg4))
            all_goals (go_wp2_with fail)
            all_goals refine ⟨⟨j, kids ++ [_], _, by go_num, by simp; omega, Lib.hid (fun k hk => (List.mem_append.1 hk).elim (HSM.out k) (fun h => by rw [List.mem_singleton.1 h]; exact HSM4.out)), HP5.out.1, HP5.out.2⟩, by simp [intOf]⟩
      · clear hr
        have HK1 : Hid (KL KR (fun k => w.heap.size < k ∧ k ≠ w2.heap.size) w2.heap.size 6 (nE 3 none 0 0 [] none 0 0 0 0) 3 (w2.heap.size + 1) 25 6 [] (.slice none 0 0) (w2.alloc (.cells #[.int .i64 3, .slice none 0 0, .string ⟨#[]⟩, .slice none 0 0, .int .i64 0, .int .i64 0] 25))) := Lib.hid ⟨(nE_new w2 3 none 0 0 [] none 0 0 0 0).cong (fun i hi => by
          match i, hi with
          | 0, _ => rfl
          | 1, _ => rfl
          | 2, _ => rfl
          | 3, _ => rfl
          | 4, _ => rfl
          | 5, _ => rfl), OR.nil, Nat.lt_succ_self _, by simp⟩
        have HS1 := Lib.hid (HS.out.al (.cells #[.int .i64 3, .slice none 0 0, .string ⟨#[]⟩, .slice none 0 0, .int .i64 0, .int .i64 0] 25))
        obtain ⟨b, hb⟩ : ∃ b, w2.heap.size = b := ⟨_, rfl⟩
        have HGB := Lib.hid (show g < b from hb ▸ HS.out.gd.codes.1)
        have HBL := Lib.hid (show w.heap.size < b from hb ▸ HS.out.bk.lt)
        have HNG : Hid (¬ (w.heap.size < g ∧ g ≠ b)) := Lib.hid (by have := HS.out.gd.hg; omega)
        rw [hb] at HK1
        go_wp2_with fail
        (try rw [hb])
        clear hb
        refine (next_any g 2 _ HS1.out.gd.codes (by omega) (by omega)).mono ?_
        rintro e w3 ⟨m, hm, rfl, hca, hap⟩
        have HS2 := Lib.hid (HS1.out.go hap hca)
        have HK2 := Lib.hid (HK1.out.go hap HGB.out HNG.out (fun _ _ _ _ h => KR.go h))
        clear hca hap HS1 HK1
        go_wp2_with fail
        go_loopw [8] (fun i wr => ∃ (j : Nat) (kids : List NT) (v : Value), i = .int .i64 j ∧ j + kids.length ≤ 3 ∧ Hid (∀ k ∈ kids, Sm 1000 k) ∧ NS g w wr ∧ KL KR (fun k => w.heap.size < k ∧ k ≠ b) b 6 (nE 3 none 0 0 [] none 0 0 0 0) 3 (b + 1) 25 6 kids v wr) (fun i _ => (intOf i).toNat)
        case atStart => exact ⟨2 + m, [], _, by go_num, by simp; omega, Lib.hid (by simp), HS2.out, HK2.out⟩
        case round =>
          obtain ⟨j, kids, v, rfl, hjk, HSM, hS, hK⟩ := hrel
          have HSR := Lib.hid hS
          have HKR := Lib.hid hK
          clear hS hK HS2 HK2 HS
          cases j with
          | zero =>
            have HRW := Lib.hid (HKR.out.row.rw (F := (fun k => w.heap.size < k)) (R := _) (fun b hb => by have := HBL.out; omega))
            have HRW2 : Hid (RW (fun k => w.heap.size < k) 6 (KR (fun k => w.heap.size < k) wr) wr kids v) := Lib.hid (HRW.out.go ⟨Nat.le_refl _, fun k hk _ => ⟨hk, rfl⟩⟩ (fun t us h => NG.go ⟨Nat.le_refl _, fun k hk _ => ⟨hk.1.1, rfl⟩⟩ _ _ h))
            obtain ⟨k0, k1, k2, k3, k4, k5, f0, f1, f2, f3, f4, f5⟩ := bk6 HSR.out.bk
            obtain ⟨a, c, rfl, _⟩ := HRW2.out
            have b0 : wr.cell? ⟨b, 0, none⟩ = some (.int .i64 3) := HKR.out.bk.ev 0 (by omega)
            have b1 : wr.cell? ⟨b, 1, none⟩ = some (.slice none 0 0) := HKR.out.bk.ev 1 (by omega)
            have b2 : wr.cell? ⟨b, 2, none⟩ = some (.string ⟨#[]⟩) := HKR.out.bk.ev 2 (by omega)
            have b3 : wr.cell? ⟨b, 3, none⟩ = some (.slice a kids.length c) := HKR.out.bk.ev 3 (by omega)
            have b4 : wr.cell? ⟨b, 4, none⟩ = some (.int .i64 0) := HKR.out.bk.ev 4 (by omega)
            have b5 : wr.cell? ⟨b, 5, none⟩ = some (.int .i64 0) := HKR.out.bk.ev 5 (by omega)
            have hbne : b ≠ w.heap.size := Nat.ne_of_gt HBL.out
            go_wp2_with fail
            rw [nest6 wr]
            exact node_ret (P := 4) rfl HSR.out _ _ rfl (by rfl) (NG.node (rs := []) RW.nil HRW2.out 3 [] 0 0 (by simp)) (Sm.node (by simp) (by omega) HSM.out)
          | succ j =>
            have hj0 : (0 : Int) < (j : Int) + 1 := by omega
            have hwd : IntKind.i64.wrap (d : Int) = (d : Int) := (IntWalk.i64_left _).trans (IntWalk.wrap64_in _ (by omega))
            have hc0 : wr.drew.cell? ⟨b, 3, none⟩ = some v := HKR.out.cell (by decide)
            have hf0 : wr.drew.frozen? ⟨b, 3, none⟩ = false := HKR.out.bk.fz 3
            have HSD := Lib.hid HSR.out.dr
            have HKD := Lib.hid (HKR.out.go (Apart.of_below (Below.refl _ wr).drew HSR.out.gd.codes.1) HGB.out HNG.out (fun _ _ _ _ h => KR.go h))
            obtain ⟨i0, hi, hz0, hz1, hz2⟩ := info_parts infoN
            go_wp2_with fail
            go_region_law (first
              | (refine step_append_lies _ (by rfl) _ _ _ (by rfl) (b + 1) 25 i0 (.agg #[.int .i64 0, .slice none 0 0, .string ⟨#[]⟩, .slice none 0 0, .int .i64 0, .int .i64 0]) 6 88 Tryz.underlying23 hi hz0 hz1 hz2 rfl (by decide) _ _ _ (by rfl) (hown4.alloc _) ⟨w4.heap.size, 0, none⟩ 1 1 [.int .i64 op, .slice ra rs.length rc, .string ⟨nm.toArray⟩, .slice a kk.length c, .int .i64 mn, .int .i64 mx] (by rfl) rfl (World.news_of_block (heap_alloc_new w4 _)) (node_one _ _ _ _ _ _ _ _ _ _) (by omega) (by unfold maxLen; omega) (by omega) (Nat.le_trans HK4.out.BW (by simp)) _ rfl ?_; intro g' cap' w5 hown5 hgrow5 hat5 hlt5; obtain ⟨hP5, hc5, hf5⟩ := nkids_push HS4.out HBL.out HK4.out cs hown4 HPU.out hgrow5 hat5 _ rfl rfl HTR.out (by omega) hown5; have HP5 := Lib.hid hP5; clear hP5 hown5 hgrow5)
              | (go_simp; go_at_call 8; (try rw [hwd]); refine (HIH.out d rfl g _ HSD.out.gd.codes).mono ?_; rintro e w4 ⟨x, t, rfl, hT, hg4, hsm4⟩; have HSM4 := Lib.hid hsm4; clear hsm4; have HS4 := Lib.hid (HSD.out.go hg4.ap hg4.codes); have HK4 := Lib.hid (HKD.out.go hg4.ap HGB.out HNG.out (fun _ _ _ _ h => KR.go h)); have hc4 : w4.cell? ⟨b, 3, none⟩ = some v := HK4.out.cell (by decide); have hf4 : w4.frozen? ⟨b, 3, none⟩ = false := HK4.out.bk.fz 3; have hca4 : ∀ o, (w4.alloc o).cell? ⟨b, 3, none⟩ = some v := (fun o => HK4.out.cellA (by decide) o); have hfa4 : ∀ o, (w4.alloc o).frozen? ⟨b, 3, none⟩ = false := (fun o => HK4.out.fzA 3 o); obtain ⟨op, rs, nm, kk, mn, mx, ra, rc, a, c, rfl, rfl, _⟩ := hT.open; obtain ⟨cs, hown4, hpush⟩ := HK4.out.row.cells; have HPU := Lib.hid hpush; have HTR : Hid (KR (FF (fun k => w.heap.size < k ∧ k ≠ b) v) w4 (.node op rs nm kk mn mx) [.int .i64 op, .slice ra rs.length rc, .string ⟨nm.toArray⟩, .slice a kk.length c, .int .i64 mn, .int .i64 mx]) := Lib.hid (nff_new HKD.out HBL.out hT); clear hpush hT hg4))
            all_goals (go_wp2_with fail)
            all_goals refine ⟨⟨j, kids ++ [_], _, by go_num, by simp; omega, Lib.hid (fun k hk => (List.mem_append.1 hk).elim (HSM.out k) (fun h => by rw [List.mem_singleton.1 h]; exact HSM4.out)), HP5.out.1, HP5.out.2⟩, by simp [intOf]⟩
      · clear hr
        go_wp2_with fail
        refine wp_region_slots (by rfl) (by kernel_rfl) (by kernel_rfl) 104 [] [(0, .pointer (some ⟨g, 0, none⟩)), (1, .int .i64 ((d + 1 : Nat) : Int)), (4, .pointer (some ⟨w.heap.size, 0, none⟩))] (by kernel_rfl) (CI g w) (CRr w) (CG g w d) (CG.keep g w d) ?_ ?_ ?_
        case refine_1 =>
          intro i o ho ac W hB hd K hK
          have hi : i < 17 := (Array.getElem?_eq_some_iff.1 ho).1
          have hs0 : ac.tmps.getD 0 undef = .pointer (some ⟨g, 0, none⟩) := hB.fixed 0 _ (by simp)
          have hs1 : ac.tmps.getD 1 undef = .int .i64 ((d + 1 : Nat) : Int) := hB.fixed 1 _ (by simp)
          have hs4 : ac.tmps.getD 4 undef = .pointer (some ⟨w.heap.size, 0, none⟩) := hB.fixed 4 _ (by simp)
          have HKK := Lib.hid hK
          clear hK
          rcases (show i = 0 ∨ i = 1 ∨ i = 2 ∨ i = 3 ∨ i = 4 ∨ i = 5 ∨ i = 6 ∨ i = 7 ∨ i = 8 ∨ i = 9 ∨ i = 10 ∨ i = 11 ∨ i = 12 ∨ i = 13 ∨ i = 14 ∨ i = 15 ∨ i = 16 by omega) with rfl | rfl | rfl | rfl | rfl | rfl | rfl | rfl | rfl | rfl | rfl | rfl | rfl | rfl | rfl | rfl | rfl
          · obtain rfl := Option.some.inj ho
            go_simp
            exact HKK.out _ _ (CRr.refl w W) hB.inv rfl
          · obtain rfl := Option.some.inj ho
            have hd0 : CG g w d 0 (ac.tmps.getD 65 undef) W := hd ⟨0, .data⟩ (by simp) rfl
            simp only [CG] at hd0
            go_simp
            refine (next_any g 26 _ hB.inv.1.codes (by omega) (by omega)).mono ?_
            rintro e W2 ⟨k, hk, rfl, hca, hap⟩
            exact HKK.out _ _ (CRr.ap hB.inv hap) (hB.inv.ap hap hca) ⟨k, hk, rfl⟩
          · obtain rfl := Option.some.inj ho
            have hd1 : CG g w d 1 (ac.tmps.getD 66 undef) W := hd ⟨1, .data⟩ (by simp) rfl
            simp only [CG] at hd1
            obtain ⟨k, hk, hv⟩ := hd1
            have hwr : IntKind.i64.wrap (97 + (k : Int)) = 97 + (k : Int) := IntWalk.i64_in _ (by omega)
            go_simp
            exact HKK.out _ _ (CRr.refl w W) hB.inv ⟨k, hk, rfl⟩
          · obtain rfl := Option.some.inj ho
            have hd2 : CG g w d 2 (ac.tmps.getD 67 undef) W := hd ⟨2, .data⟩ (by simp) rfl
            simp only [CG] at hd2
            obtain ⟨k, hk, hv⟩ := hd2
            obtain ⟨x, hx⟩ : ∃ x : UInt8, x.toNat = 97 + k := ⟨UInt8.ofNat (97 + k), Asc.ofNat_toNat8 (by omega)⟩
            have HE : Hid (IntKind.u8.wrap (97 + (k : Int)) = (x.toNat : Int)) := Lib.hid (by rw [IntWalk.u8_in _ (by omega)]; omega)
            clear hx
            go_simp
            exact HKK.out _ _ (CRr.refl w W) hB.inv ⟨x, congrArg (Value.int .u8) HE.out⟩
          · obtain rfl := Option.some.inj ho
            go_simp
            exact HKK.out _ _ (CRr.refl w W) hB.inv rfl
          · obtain rfl := Option.some.inj ho
            have hd4 : CG g w d 4 (ac.tmps.getD 69 undef) W := hd ⟨4, .data⟩ (by simp) rfl
            simp only [CG] at hd4
            go_simp
            refine (next_any g 26 _ hB.inv.1.codes (by omega) (by omega)).mono ?_
            rintro e W2 ⟨k, hk, rfl, hca, hap⟩
            exact HKK.out _ _ (CRr.ap hB.inv hap) (hB.inv.ap hap hca) ⟨k, hk, rfl⟩
          · obtain rfl := Option.some.inj ho
            have hd5 : CG g w d 5 (ac.tmps.getD 70 undef) W := hd ⟨5, .data⟩ (by simp) rfl
            simp only [CG] at hd5
            obtain ⟨k, hk, hv⟩ := hd5
            have hwr : IntKind.i64.wrap (97 + (k : Int)) = 97 + (k : Int) := IntWalk.i64_in _ (by omega)
            go_simp
            exact HKK.out _ _ (CRr.refl w W) hB.inv ⟨k, hk, rfl⟩
          · obtain rfl := Option.some.inj ho
            have hd6 : CG g w d 6 (ac.tmps.getD 71 undef) W := hd ⟨6, .data⟩ (by simp) rfl
            simp only [CG] at hd6
            obtain ⟨k, hk, hv⟩ := hd6
            obtain ⟨x, hx⟩ : ∃ x : UInt8, x.toNat = 97 + k := ⟨UInt8.ofNat (97 + k), Asc.ofNat_toNat8 (by omega)⟩
            have HE : Hid (IntKind.u8.wrap (97 + (k : Int)) = (x.toNat : Int)) := Lib.hid (by rw [IntWalk.u8_in _ (by omega)]; omega)
            clear hx
            go_simp
            exact HKK.out _ _ (CRr.refl w W) hB.inv ⟨x, congrArg (Value.int .u8) HE.out⟩
          · obtain rfl := Option.some.inj ho
            have hd3 : CG g w d 3 (ac.tmps.getD 68 undef) W := hd ⟨3, .data⟩ (by simp) rfl
            simp only [CG] at hd3
            have hd7 : CG g w d 7 (ac.tmps.getD 72 undef) W := hd ⟨7, .data⟩ (by simp) rfl
            simp only [CG] at hd7
            obtain ⟨x, hx⟩ := hd3
            obtain ⟨y, hy⟩ := hd7
            have hx2 : ac.tmps[68]?.getD undef = .int .u8 (x.toNat : Int) := by rw [← Array.getD_eq_getD_getElem?]; exact hx
            have hy2 : ac.tmps[72]?.getD undef = .int .u8 (y.toNat : Int) := by rw [← Array.getD_eq_getD_getElem?]; exact hy
            go_simp
            exact HKK.out _ _ (CRr.al hB.inv _) (hB.inv.al _) ⟨_, x, y, rfl, Blk.new hB.inv.lt _⟩
          · obtain rfl := Option.some.inj ho
            have hd8 : CG g w d 8 (ac.tmps.getD 73 undef) W := hd ⟨8, .data⟩ (by simp) rfl
            simp only [CG] at hd8
            obtain ⟨q, x, y, hv, hb⟩ := hd8
            have hcv := conv2 W q x y hb.2.2
            go_simp
            exact HKK.out _ _ (CRr.refl w W) hB.inv ⟨[x, y], by simp, rfl⟩
          · obtain rfl := Option.some.inj ho
            go_simp
            exact HKK.out _ _ (CRr.refl w W) hB.inv rfl
          · obtain rfl := Option.some.inj ho
            go_simp
            exact HKK.out _ _ (CRr.refl w W) hB.inv rfl
          · obtain rfl := Option.some.inj ho
            have hd11 : CG g w d 11 (ac.tmps.getD 76 undef) W := hd ⟨11, .data⟩ (by simp) rfl
            simp only [CG] at hd11
            have hwd : IntKind.i64.wrap (d : Int) = (d : Int) := IntWalk.i64_in _ (by omega)
            have hws : IntKind.i64.wrap (((d + 1 : Nat) : Int) - 1) = (d : Int) := by rw [hd1]; exact hwd
            go_simp
            exact HKK.out _ _ (CRr.refl w W) hB.inv rfl
          · obtain rfl := Option.some.inj ho
            have hd10 : CG g w d 10 (ac.tmps.getD 75 undef) W := hd ⟨10, .data⟩ (by simp) rfl
            simp only [CG] at hd10
            have hd12 : CG g w d 12 (ac.tmps.getD 77 undef) W := hd ⟨12, .data⟩ (by simp) rfl
            simp only [CG] at hd12
            go_simp
            refine (HIH.out d rfl g W hB.inv.1.codes).mono ?_
            rintro e W2 ⟨v, t, rfl, hT, hg4, hsm⟩
            exact HKK.out _ _ (CRr.ap hB.inv hg4.ap) (hB.inv.ap hg4.ap hg4.codes) ⟨t, NG.go ⟨Nat.le_refl _, fun k hk _ => ⟨Nat.lt_of_lt_of_le hB.inv.lt hk, rfl⟩⟩ _ _ hT, hsm⟩
          · obtain rfl := Option.some.inj ho
            have hd13 : CG g w d 13 (ac.tmps.getD 78 undef) W := hd ⟨13, .data⟩ (by simp) rfl
            simp only [CG] at hd13
            obtain ⟨t, ht, hsm⟩ := hd13
            obtain ⟨op, rs, nm, kids, mn, mx, ra, rc, a, c, _, hv, _⟩ := ht.open
            rw [hv] at ht
            have hlt := hB.inv.lt
            have hv2 : ac.tmps[78]?.getD undef = .agg #[.int .i64 op, .slice ra rs.length rc, .string ⟨nm.toArray⟩, .slice a kids.length c, .int .i64 mn, .int .i64 mx] := by rw [← Array.getD_eq_getD_getElem?]; exact hv
            go_simp
            refine HKK.out _ _ (CRr.al hB.inv _) (hB.inv.al _) ⟨W.heap.size, t, rfl, ?_, hsm⟩
            exact (OR.lit (B := W.heap.size) (e := 25) (k := 6) (R := KR (fun k => w.heap.size < k) (W.alloc (.cells #[.int .i64 op, .slice ra rs.length rc, .string ⟨nm.toArray⟩, .slice a kids.length c, .int .i64 mn, .int .i64 mx] 25))) W t [.int .i64 op, .slice ra rs.length rc, .string ⟨nm.toArray⟩, .slice a kids.length c, .int .i64 mn, .int .i64 mx] (Nat.le_refl _) rfl (NG.go ⟨by simp, fun k hk h2 => ⟨hk, ((Below.refl _ W).alloc (Nat.le_refl _) _).block k h2⟩⟩ _ _ ht)).rw (F := fun k => w.heap.size < k) (fun b hb => Nat.lt_of_lt_of_le hlt hb)
          · obtain rfl := Option.some.inj ho
            have hd9 : CG g w d 9 (ac.tmps.getD 74 undef) W := hd ⟨9, .data⟩ (by simp) rfl
            simp only [CG] at hd9
            have hd14 : CG g w d 14 (ac.tmps.getD 79 undef) W := hd ⟨14, .data⟩ (by simp) rfl
            simp only [CG] at hd14
            obtain ⟨y, hy, hv9⟩ := hd9
            obtain ⟨q, t, hv, hrw, hsm⟩ := hd14
            rw [hv] at hrw
            have hv2 : ac.tmps[79]?.getD undef = .slice (some ⟨q, 0, none⟩) 1 1 := by rw [← Array.getD_eq_getD_getElem?]; exact hv
            have hv3 : ac.tmps[74]?.getD undef = .string ⟨y.toArray⟩ := by rw [← Array.getD_eq_getD_getElem?]; exact hv9
            go_simp
            exact HKK.out _ _ (CRr.refl w W) hB.inv ⟨y, q, .node 5 [] y [t] 0 0, rfl, NG.node (rs := []) RW.nil hrw 5 y 0 0 hy, Sm.node (by simp) (by simp) (by simpa using hsm)⟩
          · obtain rfl := Option.some.inj ho
            have hd15 : CG g w d 15 (ac.tmps.getD 80 undef) W := hd ⟨15, .data⟩ (by simp) rfl
            simp only [CG] at hd15
            obtain ⟨y, q, t, hv, ht, hsm⟩ := hd15
            rw [hv] at ht
            obtain ⟨E, hE⟩ := hB.inv.2
            obtain ⟨k0, k1, k2, k3, k4, k5, f0, f1, f2, f3, f4, f5⟩ := bk6 hE
            go_simp
            have hfin := bk_set6 hE 5 none 0 0 y (some ⟨q, 0, none⟩) 1 1 0 0
            have hUP : UP w.heap.size W (setL W w.heap.size [.int .i64 5, .slice none 0 0, .string ⟨y.toArray⟩, .slice (some ⟨q, 0, none⟩) 1 1, .int .i64 0, .int .i64 0] 0) := ⟨by rw [setL_size]; exact Nat.le_refl _, fun k h1 _ => setL_heap _ (by omega) _ _⟩
            have hres : Cres w.heap.size (setL W w.heap.size [.int .i64 5, .slice none 0 0, .string ⟨y.toArray⟩, .slice (some ⟨q, 0, none⟩) 1 1, .int .i64 0, .int .i64 0] 0) := ⟨5, none, 0, 0, y, some ⟨q, 0, none⟩, 1, 1, 0, 0, t, hfin, NG.go hUP.stay _ _ ht, hsm⟩
            exact HKK.out undef (setL W w.heap.size [.int .i64 5, .slice none 0 0, .string ⟨y.toArray⟩, .slice (some ⟨q, 0, none⟩) 1 1, .int .i64 0, .int .i64 0] 0) ⟨hUP, fun _ => hres⟩ ⟨hB.inv.1.on (setL_below (Nat.le_refl _) _ _ _), _, hfin⟩ hres
        case refine_2 =>
          intro ac W hB hF
          have h16 : CG g w d 16 undef W := hF 16 (by decide)
          simp only [CG] at h16
          go_wp2_with fail
          exact node_ret2 (P := 4) rfl hB.inv.1 h16 ac hB.defers (hB.fixed 4 _ (by simp))
        case refine_3 =>
          refine ⟨rfl, rfl, fun s v hs => ?_, HS.out.gd.dr, _, HS.out.bk.dr⟩
          simp only [List.mem_cons, Prod.mk.injEq, List.not_mem_nil, or_false] at hs
          rcases hs with ⟨rfl, rfl⟩ | ⟨rfl, rfl⟩ | ⟨rfl, rfl⟩ <;> rfl
      · have y0 : ((r : Int) == 0) = false := by rw [beq_eq_false_iff_ne]; omega
        have y1 : ((r : Int) == 1) = false := by rw [beq_eq_false_iff_ne]; omega
        have y2 : ((r : Int) == 2) = false := by rw [beq_eq_false_iff_ne]; omega
        have y3 : ((r : Int) == 3) = false := by rw [beq_eq_false_iff_ne]; omega
        have y4 : ((r : Int) == 4) = false := by rw [beq_eq_false_iff_ne]; omega
        clear hr h5
        go_wp2_with fail
        refine (HIH.out d rfl g w2 HS.out.gd.codes).mono ?_
        rintro e w3 ⟨v, t, rfl, hT, hg2, hsm⟩
        have HSM := Lib.hid hsm
        clear hsm
        have HS3 := Lib.hid (HS.out.go hg2.ap hg2.codes)
        have HT3 := Lib.hid (NG.go (F' := fun k => w.heap.size < k) (w' := w3) ⟨Nat.le_refl _, fun k hk _ => ⟨Nat.lt_of_lt_of_le HS.out.bk.lt hk, rfl⟩⟩ _ _ hT)
        clear hT hg2
        obtain ⟨op, rs, nm, kids, mn, mx, ra, rc, a, c, _, rfl, _⟩ := HT3.out.open
        have HSA := Lib.hid (HS3.out.al (.cells #[.int .i64 op, .slice ra rs.length rc, .string ⟨nm.toArray⟩, .slice a kids.length c, .int .i64 mn, .int .i64 mx] 25))
        have HR := Lib.hid ((OR.lit (B := w3.heap.size) (e := 25) (k := 6) (R := KR (fun k => w.heap.size < k) (w3.alloc (.cells #[.int .i64 op, .slice ra rs.length rc, .string ⟨nm.toArray⟩, .slice a kids.length c, .int .i64 mn, .int .i64 mx] 25))) w3 t [.int .i64 op, .slice ra rs.length rc, .string ⟨nm.toArray⟩, .slice a kids.length c, .int .i64 mn, .int .i64 mx] (Nat.le_refl _) rfl (NG.go ⟨by simp, fun k hk h2 => ⟨hk, ((Below.refl _ w3).alloc (Nat.le_refl _) _).block k h2⟩⟩ _ _ HT3.out)).rw (F := fun k => w.heap.size < k) (fun b hb => Nat.lt_of_lt_of_le HS3.out.bk.lt hb))
        go_wp2_with fail
        refine (next_any g 3 _ HSA.out.gd.codes (by omega) (by omega)).mono ?_
        rintro e w4 ⟨m, hm, rfl, hca, hap⟩
        have HS4 := Lib.hid (HSA.out.go hap hca)
        have HI0 : Hid (BI g w w4.heap.size (some ⟨w3.heap.size, 0, none⟩) m t (w4.alloc (.cells #[.int .i64 4, .slice none 0 0, .string ⟨#[]⟩, .slice (some ⟨w3.heap.size, 0, none⟩) 1 1, .int .i64 (m : Int), .int .i64 0] 25))) := Lib.hid (by
          have hS : Stay (fun k => w.heap.size < k) (FB w w4.heap.size) (w3.alloc (.cells #[.int .i64 op, .slice ra rs.length rc, .string ⟨nm.toArray⟩, .slice a kids.length c, .int .i64 mn, .int .i64 mx] 25)) (w4.alloc (.cells #[.int .i64 4, .slice none 0 0, .string ⟨#[]⟩, .slice (some ⟨w3.heap.size, 0, none⟩) 1 1, .int .i64 (m : Int), .int .i64 0] 25)) :=
            ⟨Nat.le_trans hap.1.size (by simp), fun k hk hl => ⟨⟨hk, by have := hap.1.size; omega⟩, (((Below.refl _ w4).alloc (Nat.le_refl _) _).block k (Nat.lt_of_lt_of_le hl hap.1.size)).trans (hap.block (by have := HS.out.gd.hg; omega) hl)⟩⟩
          exact ⟨HS4.out.al _, ⟨0, nE_new w4 4 none 0 0 [] _ 1 1 (m : Int) 0⟩, HR.out.go hS (fun _ _ h => NG.go hS _ _ h), HS4.out.lt⟩)
        clear hca hap HSA HR HT3 HS3
        go_wp2_with fail
        obtain ⟨b, hb⟩ : ∃ b, w4.heap.size = b := ⟨_, rfl⟩
        rw [hb] at HI0 ⊢
        clear hb
        refine wp_region_slots (by rfl) (by kernel_rfl) (by kernel_rfl) 104 [] [(0, .pointer (some ⟨g, 0, none⟩)), (4, .pointer (some ⟨w.heap.size, 0, none⟩)), (9, .pointer (some ⟨b, 0, none⟩))] (by kernel_rfl) (BI g w b (some ⟨w3.heap.size, 0, none⟩) m t) (BRr w b) (BG g w b m) (BG.keep g w b m) ?_ ?_ ?_
        case refine_1 =>
          intro i o ho ac W hB hd K hK
          have hi : i < 15 := (Array.getElem?_eq_some_iff.1 ho).1
          have hs0 : ac.tmps.getD 0 undef = .pointer (some ⟨g, 0, none⟩) := hB.fixed 0 _ (by simp)
          have hs4 : ac.tmps.getD 4 undef = .pointer (some ⟨w.heap.size, 0, none⟩) := hB.fixed 4 _ (by simp)
          have hs9 : ac.tmps.getD 9 undef = .pointer (some ⟨b, 0, none⟩) := hB.fixed 9 _ (by simp)
          have HKK := Lib.hid hK
          clear hK
          rcases (show i = 0 ∨ i = 1 ∨ i = 2 ∨ i = 3 ∨ i = 4 ∨ i = 5 ∨ i = 6 ∨ i = 7 ∨ i = 8 ∨ i = 9 ∨ i = 10 ∨ i = 11 ∨ i = 12 ∨ i = 13 ∨ i = 14 by omega) with rfl | rfl | rfl | rfl | rfl | rfl | rfl | rfl | rfl | rfl | rfl | rfl | rfl | rfl | rfl
          · obtain rfl := Option.some.inj ho
            go_simp
            exact HKK.out _ _ (BRr.refl w b W) hB.inv rfl
          · obtain rfl := Option.some.inj ho
            have hd0 : BG g w b m 0 (ac.tmps.getD 89 undef) W := hd ⟨0, .data⟩ (by simp) rfl
            simp only [BG] at hd0
            obtain ⟨x0, hx0⟩ := hB.inv.bk
            have c4 : W.cell? ⟨b, 4, none⟩ = some (.int .i64 (m : Int)) := hx0.ev 4 (by omega)
            go_simp
            exact HKK.out _ _ (BRr.refl w b W) hB.inv rfl
          · obtain rfl := Option.some.inj ho
            go_simp
            exact HKK.out _ _ (BRr.refl w b W) hB.inv rfl
          · obtain rfl := Option.some.inj ho
            have hd2 : BG g w b m 2 (ac.tmps.getD 91 undef) W := hd ⟨2, .data⟩ (by simp) rfl
            simp only [BG] at hd2
            obtain ⟨x0, hx0⟩ := hB.inv.bk
            have c4 : W.cell? ⟨b, 4, none⟩ = some (.int .i64 (m : Int)) := hx0.ev 4 (by omega)
            go_simp
            exact HKK.out _ _ (BRr.refl w b W) hB.inv rfl
          · obtain rfl := Option.some.inj ho
            have hd3 : BG g w b m 3 (ac.tmps.getD 92 undef) W := hd ⟨3, .data⟩ (by simp) rfl
            simp only [BG] at hd3
            go_simp
            exact HKK.out _ _ (BRr.refl w b W) hB.inv ⟨_, rfl⟩
          · obtain rfl := Option.some.inj ho
            go_simp
            exact HKK.out _ _ (BRr.refl w b W) hB.inv rfl
          · obtain rfl := Option.some.inj ho
            have hd5 : BG g w b m 5 (ac.tmps.getD 94 undef) W := hd ⟨5, .data⟩ (by simp) rfl
            simp only [BG] at hd5
            obtain ⟨x0, hx0⟩ := hB.inv.bk
            have c4 : W.cell? ⟨b, 4, none⟩ = some (.int .i64 (m : Int)) := hx0.ev 4 (by omega)
            go_simp
            exact HKK.out _ _ (BRr.refl w b W) hB.inv rfl
          · obtain rfl := Option.some.inj ho
            have hd6 : BG g w b m 6 (ac.tmps.getD 95 undef) W := hd ⟨6, .data⟩ (by simp) rfl
            simp only [BG] at hd6
            go_simp
            exact HKK.out _ _ (BRr.refl w b W) hB.inv ⟨_, rfl⟩
          · obtain rfl := Option.some.inj ho
            have hd1 : BG g w b m 1 (ac.tmps.getD 90 undef) W := hd ⟨1, .data⟩ (by simp) rfl
            simp only [BG] at hd1
            have hd4 : BG g w b m 4 (ac.tmps.getD 93 undef) W := hd ⟨4, .data⟩ (by simp) rfl
            simp only [BG] at hd4
            have hd7 : BG g w b m 7 (ac.tmps.getD 96 undef) W := hd ⟨7, .data⟩ (by simp) rfl
            simp only [BG] at hd7
            obtain ⟨y2, hy2⟩ := hd4
            obtain ⟨y3, hy3⟩ := hd7
            have hx1 : ac.tmps[90]?.getD undef = .int .i64 (m : Int) := by rw [← Array.getD_eq_getD_getElem?]; exact hd1
            have hx2 : ac.tmps[93]?.getD undef = .int .i64 y2 := by rw [← Array.getD_eq_getD_getElem?]; exact hy2
            have hx3 : ac.tmps[96]?.getD undef = .int .i64 y3 := by rw [← Array.getD_eq_getD_getElem?]; exact hy3
            have hbW : b < W.heap.size := hB.inv.bk.choose_spec.lt
            go_simp
            exact HKK.out _ _ (BRr.al w b W _) (hB.inv.al _) ⟨_, _, _, _, _, rfl, hbW, Blk.new hB.inv.ns.lt _⟩
          · obtain rfl := Option.some.inj ho
            go_simp
            exact HKK.out _ _ (BRr.refl w b W) hB.inv rfl
          · obtain rfl := Option.some.inj ho
            have hd9 : BG g w b m 9 (ac.tmps.getD 98 undef) W := hd ⟨9, .data⟩ (by simp) rfl
            simp only [BG] at hd9
            go_simp
            refine (next_any g 4 _ hB.inv.ns.gd.codes (by omega) (by omega)).mono ?_
            rintro e W2 ⟨k, hk, rfl, hca, hap⟩
            exact HKK.out _ _ (BRr.ap b hap hB.inv.ns.gd.hg) (hB.inv.ap hap hca) ⟨k, hk, rfl⟩
          · obtain rfl := Option.some.inj ho
            have hd8 : BG g w b m 8 (ac.tmps.getD 97 undef) W := hd ⟨8, .data⟩ (by simp) rfl
            simp only [BG] at hd8
            have hd10 : BG g w b m 10 (ac.tmps.getD 99 undef) W := hd ⟨10, .data⟩ (by simp) rfl
            simp only [BG] at hd10
            obtain ⟨q, y0, y1, y2, y3, hv, hbq, hbl⟩ := hd8
            obtain ⟨k, hk, hv2⟩ := hd10
            have i1 : (k : Int) < 4 := by omega
            have i2 : (0 : Int) ≤ (k : Int) := by omega
            go_simp
            exact HKK.out _ _ (BRr.refl w b W) hB.inv ⟨q, k, y0, y1, y2, y3, hk, rfl, hbq, hbl⟩
          · obtain rfl := Option.some.inj ho
            have hd11 : BG g w b m 11 (ac.tmps.getD 100 undef) W := hd ⟨11, .data⟩ (by simp) rfl
            simp only [BG] at hd11
            obtain ⟨q, k, y0, y1, y2, y3, hk, hv, hbq, hbl⟩ := hd11
            obtain ⟨y, hy⟩ := four_at hk hbl.2.2
            go_simp
            exact HKK.out _ _ (BRr.refl w b W) hB.inv ⟨y, rfl⟩
          · obtain rfl := Option.some.inj ho
            go_simp
            exact HKK.out _ _ (BRr.refl w b W) hB.inv rfl
          · obtain rfl := Option.some.inj ho
            have hd13 : BG g w b m 13 (ac.tmps.getD 102 undef) W := hd ⟨13, .data⟩ (by simp) rfl
            simp only [BG] at hd13
            have hd12 : BG g w b m 12 (ac.tmps.getD 101 undef) W := hd ⟨12, .data⟩ (by simp) rfl
            simp only [BG] at hd12
            obtain ⟨y, hy⟩ := hd12
            obtain ⟨x0, hx0⟩ := hB.inv.bk
            have c5 : W.cell? ⟨b, 5, none⟩ = some (.int .i64 x0) := hx0.ev 5 (by omega)
            have f5 := hx0.fz 5
            go_simp
            exact HKK.out undef _ (BRr.set w b W _) (hB.inv.set y) trivial
        case refine_2 =>
          intro ac W hB hF
          have HBI := Lib.hid hB.inv
          obtain ⟨x, hx⟩ := HBI.out.bk
          have c0 : W.cell? ⟨b, 0, none⟩ = some (.int .i64 4) := hx.ev 0 (by omega)
          have c1 : W.cell? ⟨b, 1, none⟩ = some (.slice none 0 0) := hx.ev 1 (by omega)
          have c2 : W.cell? ⟨b, 2, none⟩ = some (.string ⟨#[]⟩) := hx.ev 2 (by omega)
          have c3 : W.cell? ⟨b, 3, none⟩ = some (.slice (some ⟨w3.heap.size, 0, none⟩) 1 1) := hx.ev 3 (by omega)
          have c4 : W.cell? ⟨b, 4, none⟩ = some (.int .i64 (m : Int)) := hx.ev 4 (by omega)
          have c5 : W.cell? ⟨b, 5, none⟩ = some (.int .i64 x) := hx.ev 5 (by omega)
          obtain ⟨k0, k1, k2, k3, k4, k5, f0, f1, f2, f3, f4, f5⟩ := bk6 HBI.out.ns.bk
          have hbne : b ≠ w.heap.size := Nat.ne_of_gt HBI.out.hb
          have h4 : ac.tmps.getD 4 undef = .pointer (some ⟨w.heap.size, 0, none⟩) := hB.fixed 4 _ (by simp)
          have h9 : ac.tmps.getD 9 undef = .pointer (some ⟨b, 0, none⟩) := hB.fixed 9 _ (by simp)
          have h4b := (Array.getD_eq_getD_getElem? (xs := ac.tmps) (i := 4) (d := undef)).symm.trans h4
          have h9b := (Array.getD_eq_getD_getElem? (xs := ac.tmps) (i := 9) (d := undef)).symm.trans h9
          have hp4 : ∀ v, (ac.tmps.setIfInBounds 103 v).getD 4 undef = .pointer (some ⟨w.heap.size, 0, none⟩) := fun v => (put_other (a := ac) (d := 103) v (by decide)).trans h4
          have hp103 : ∀ v, (ac.tmps.setIfInBounds 103 v).getD 103 undef = v := fun v => put_same (a := ac) v (by have := hB.size; omega)
          have hp4b : ∀ v, (ac.tmps.setIfInBounds 103 v)[4]?.getD undef = .pointer (some ⟨w.heap.size, 0, none⟩) := fun v => (Array.getD_eq_getD_getElem? (xs := ac.tmps.setIfInBounds 103 v) (i := 4) (d := undef)).symm.trans (hp4 v)
          have hp103b : ∀ v, (ac.tmps.setIfInBounds 103 v)[103]?.getD undef = v := fun v => (Array.getD_eq_getD_getElem? (xs := ac.tmps.setIfInBounds 103 v) (i := 103) (d := undef)).symm.trans (hp103 v)
          have HRF := Lib.hid (HBI.out.row.go (F' := fun k => w.heap.size < k) (w' := W) ⟨Nat.le_refl _, fun k hk _ => ⟨hk.1, rfl⟩⟩ (R' := KR (fun k => w.heap.size < k) W) (fun _ _ h => NG.go ⟨Nat.le_refl _, fun k hk _ => ⟨hk.1, rfl⟩⟩ _ _ h))
          go_wp2_with fail
          rw [nest6 W]
          refine node_ret (P := 4) rfl HBI.out.ns _ _ hB.defers ?_ (NG.node (rs := []) RW.nil HRF.out 4 [] (m : Int) x (by simp)) (Sm.node (by simp) (by simp) (by simpa using HSM.out))
          exact (put_other (a := ac) (d := 103) _ (by decide)).trans (hB.fixed 4 _ (by simp))
        case refine_3 =>
          refine ⟨rfl, rfl, fun s v hs => ?_, HI0.out.dr⟩
          simp only [List.mem_cons, Prod.mk.injEq, List.not_mem_nil, or_false] at hs
          rcases hs with ⟨rfl, rfl⟩ | ⟨rfl, rfl⟩ | ⟨rfl, rfl⟩ <;> rfl
theorem node_any (depth : Nat) : depth ≤ 4 → ∀ (g : Nat) (w : World), CodesAt w g → Calls Tryz.prog 8 #[.pointer (some ⟨g, 0, none⟩), .int .i64 depth] w (NP g w) := by
  induction depth with
  | zero => intro h g w hc; exact node_aux 0 h (fun d h => by omega) g w hc
  | succ d ih => intro h g w hc; exact node_aux (d + 1) h (fun d' h' => (show d' = d by omega) ▸ ih (by omega)) g w hc

end Go.Proofs.YtphbkompnddflaaGreatDoor

/-
 Joined: MtCi.
-/
import Derived.Test.YtmpbjaodgajnfaaGreatDoorEhJ
import Derived.BigRegion
namespace Go.Proofs.YtmpbjaodgajnfaaGreatDoor
open Go.RowKit
set_option maxHeartbeats 16000000 in
set_option maxRecDepth 1000000 in
theorem match_any (t : NT) (en : Bool) (s : List UInt8) (g fa : Nat) (hck : ckE t = 0) (hco : Mt.costN t ≤ 4000) (hs : s.length ≤ 20000) (at_ : Nat) (ha : at_ ≤ s.length) (F : Nat → Prop) (w : World) (h : MaB t en s F g fa w) :
  Calls Tryz.prog 84 #[.pointer (some ⟨g, 0, none⟩), .int .i64 (at_ : Int)] w (MatP t en s F g fa at_ w) := by
 have hok := Mt.okC_okN t (Mt.ckE_okC hck)
 have hn16 := Mt.nsN_16 hck
 obtain ⟨FU, hfu⟩ := Mt.progN_way s t en at_ ha (Mt.nst t) (Nat.le_refl _)
 have hnst := Mt.nst_cost t hok hco
 have hpl := Mt.progN_len hok hco en
 obtain ⟨Wa, hWa⟩ : ∃ Wa, w.alloc (.cells #[.int .i64 0, .int .i64 0, .slice none 0 0] 80) = Wa := ⟨_, rfl⟩
 have hb : Below w.heap.size w Wa := by rw [← hWa]; exact (Below.refl _ _).alloc (Nat.le_refl _) _
 have hbx : Wa.heap[w.heap.size]? = some (.cells #[.int .i64 0, .int .i64 0, .slice none 0 0] 80 (0, 0)) := by rw [← hWa]; exact Deep.blk_alloc_new w _
 have ha1 := h.below hb
 have HFb : Hid (Fg F w Wa w.heap.size) := Lib.hid (.inr ⟨Nat.le_refl _, heap_lt hbx⟩)
 have HG1 : Hid (GoF F (Fg F w Wa) w Wa) := Lib.hid (GoF.below hb)
 have HR := Lib.hid (run_any (Mt.progN t en) s (Mt.nst t) g fa hs (by omega) (by omega) (Mt.progN_op t en) FU (Fg F w Wa) 0 at_ 0 [] (.pointer none) Wa _ ha1.mb ha1.ft rfl ha hfu)
 have HM := Lib.hid ha1
 have HM0 := Lib.hid h
 have HBX := Lib.hid hbx
 have HLT := Lib.hid (fun (x : Nat × List Mt.Mk) (hx : Mt.matR s t en at_ = some x) => Mt.matR_lt hx)
 unfold MatP
 obtain ⟨r, hr⟩ : ∃ r, Mt.matR s t en at_ = r := ⟨_, rfl⟩
 rw [hr] at HR HLT ⊢
 obtain ⟨n, hn⟩ : ∃ n, (Mt.nsN t []).length = n := ⟨_, rfl⟩
 have HNN := Lib.hid hn
 rw [hn] at HLT hn16 ⊢
 clear h hck hco hb hbx ha1 hfu hpl hnst hok hr hn
 generalize Fg F w Wa = F1 at HR HM HFb HG1
 go_enter Tryz.func84, Tryz.ntmps84
 go_wp2_with fail
 refine HR.out.mono ?_
 rintro e w2 ⟨F2, hg2, hf2, he⟩
 have HM2 := Lib.hid (HM.out.go hg2 hf2)
 have HBX2 := Lib.hid (hg2.blk HFb.out HBX.out)
 have HFIN := Lib.hid (fun (W : World) (hW : SrtP w.heap.size w2 W) => HM0.out.fin (HG1.out.trans hg2) hf2 (hg2.mono _ HFb.out) hW)
 have d0 : w2.cell? ⟨w.heap.size, 0, none⟩ = some (.int .i64 0) := by rw [Lib.cell_of_heap HBX2.out]; rfl
 have d1 : w2.cell? ⟨w.heap.size, 1, none⟩ = some (.int .i64 0) := by rw [Lib.cell_of_heap HBX2.out]; rfl
 have d2 : w2.cell? ⟨w.heap.size, 2, none⟩ = some (.slice none 0 0) := by rw [Lib.cell_of_heap HBX2.out]; rfl
 have z0 := frz0 HBX2.out 0
 have z1 := frz0 HBX2.out 1
 have z2 := frz0 HBX2.out 2
 clear hg2 hf2 HR HM HFb HG1
 cases r with
 | none =>
  simp only at he
  subst he
  go_wp2_with fail
  refine agg_ret2 (cs := [.int .i64 0, .int .i64 0, .slice none 0 0]) (by rfl) rfl (by rfl) (set_at (set_at (set_at HBX2.out 0 _) 1 _) 2 _) Tryz.underlying80 rfl (by kernel_rfl) ?_
  exact ⟨HFIN.out _ (((SrtP.set _ _ _ _).trans (SrtP.set _ _ _ _)).trans (SrtP.set _ _ _ _)), rfl⟩
 | some x =>
  obtain ⟨xe, ms⟩ := x
  simp only at he
  obtain ⟨v, rfl, hmk⟩ := he
  rw [List.append_nil] at hmk
  have HMS := Lib.hid hmk
  have HLT2 := Lib.hid (HLT.out _ rfl)
  obtain ⟨nv, hnc, hnr⟩ := HM2.out.nm
  have hgl : g < w2.heap.size := HM2.out.mb.lt
  have hnr2 := hnr
  obtain ⟨na, nc, rfl, hnn, hne⟩ := hnr
  rw [HNN.out] at hnc hnr2
  have HNR := Lib.hid hnr2
  clear hmk hnn hne hnr2 HLT HM2
  obtain ⟨Wx, hWx⟩ : ∃ Wx, w2.alloc (.cells #[.int .i64 (at_ : Int), .int .i64 (xe : Int), .slice none 0 0] 80) = Wx := ⟨_, rfl⟩
  have hsx : Wx.heap.size = w2.heap.size + 1 := by rw [← hWx]; exact Deep.nblk_alloc _ _
  have hbx : Below w2.heap.size w2 Wx := by rw [← hWx]; exact (Below.refl _ _).alloc (Nat.le_refl _) _
  have hxx : Wx.heap[w2.heap.size]? = some (.cells #[.int .i64 (at_ : Int), .int .i64 (xe : Int), .slice none 0 0] 80 (0, 0)) := by rw [← hWx]; exact Deep.blk_alloc_new _ _
  have k2 : Wx.cell? ⟨w2.heap.size, 2, none⟩ = some (.slice none 0 0) := by rw [Lib.cell_of_heap hxx]; rfl
  have f2 := frz0 hxx 2
  have hst : Wx.setCell ⟨w2.heap.size, 2, none⟩ (.slice none 0 0) = Wx := by rw [← hWx]; simp [go_sem]
  have n1 := (hbx.cell (p := ⟨g, 1, none⟩) hgl).trans hnc
  obtain ⟨Ws, hWs⟩ : ∃ Ws, Wx.alloc (.cells ((List.replicate (n * 2) (0 : Int)).map fun x => Value.int .i64 x).toArray 77) = Ws := ⟨_, rfl⟩
  have hss : Ws.heap.size = w2.heap.size + 2 := by rw [← hWs, Deep.nblk_alloc, hsx]
  have hbs : Below w2.heap.size w2 Ws := by rw [← hWs]; exact hbx.alloc hbx.size _
  have hms := make_sp n (by omega) Wx
  rw [hWs, hsx] at hms
  have n2 := (hbs.cell (p := ⟨g, 1, none⟩) hgl).trans hnc
  obtain ⟨Wo, hWo⟩ : ∃ Wo, Ws.drew.alloc (.cells ((List.replicate n false).map fun x => Value.bool x).toArray 4) = Wo := ⟨_, rfl⟩
  have hso : Wo.heap.size = w2.heap.size + 3 := by rw [← hWo, Deep.nblk_alloc]; show Ws.heap.size + 1 = _; omega
  have hbo : Below w2.heap.size w2 Wo := by rw [← hWo]; exact hbs.drew.alloc (by show _ ≤ Ws.heap.size; omega) _
  have hmo := make_bo n (by omega) Ws.drew
  rw [hWo, show Ws.drew.heap.size = w2.heap.size + 2 from hss] at hmo
  have n3 := (hbo.cell (p := ⟨g, 1, none⟩) hgl).trans hnc
  obtain ⟨Wc, hWc⟩ : ∃ Wc, Wo.alloc (.cells ((List.replicate n false).map fun x => Value.bool x).toArray 4) = Wc := ⟨_, rfl⟩
  have hbc : Below w2.heap.size w2 Wc := by rw [← hWc]; exact hbo.alloc hbo.size _
  have hmc := make_bo n (by omega) Wo
  rw [hWc, hso] at hmc
  have hsc : Wc.heap.size = w2.heap.size + 4 := by rw [← hWc, Deep.nblk_alloc, hso]
  have hgc : ∀ k, k < w2.heap.size + 3 → Wc.heap[k]? = Wo.heap[k]? := fun k hk => by
   rw [← hWc]
   exact Deep.blk_alloc_lt _ _ _ (by rw [hso]; exact hk)
  have hgo : ∀ k, k < w2.heap.size + 2 → Wo.heap[k]? = Ws.heap[k]? := fun k hk => by
   rw [← hWo]
   exact Deep.blk_alloc_lt Ws.drew _ _ (by show _ < Ws.heap.size; rw [hss]; exact hk)
  have hgs : ∀ k, k < w2.heap.size + 1 → Ws.heap[k]? = Wx.heap[k]? := fun k hk => by
   rw [← hWs]
   exact Deep.blk_alloc_lt _ _ _ (by rw [hsx]; exact hk)
  have B1 : Hid (BoB Wc (w2.heap.size + 3) (List.replicate n false)) := Lib.hid (by unfold BoB; rw [← hWc, ← hso]; exact Deep.blk_alloc_new _ _)
  have B2 : Hid (BoB Wc (w2.heap.size + 2) (List.replicate n false)) := Lib.hid (by unfold BoB; rw [hgc _ (by omega), ← hWo, ← show Ws.drew.heap.size = w2.heap.size + 2 from hss]; exact Deep.blk_alloc_new _ _)
  have B3 : Hid (SpB Wc (w2.heap.size + 1) (List.replicate (n * 2) 0)) := Lib.hid (by unfold SpB; rw [hgc _ (by omega), hgo _ (by omega), ← hWs, ← hsx]; exact Deep.blk_alloc_new _ _)
  have B4 : Hid (Wc.heap[w2.heap.size]? = some (.cells #[.int .i64 (at_ : Int), .int .i64 (xe : Int), .slice none 0 0] 80 (0, 0))) := Lib.hid (by rw [hgc _ (by omega), hgo _ (by omega), hgs _ (by omega)]; exact hxx)
  have HBC := Lib.hid hbc
  have HSC := Lib.hid hsc
  clear hsx hbx hxx hss hbs hso hbo hbc hsc hgc hgo hgs
  go_wp2_with fail
  go_region
  ·go_wp2_with fail
   go_loopw [13] (fun v wr => ∃ (p q : List Mt.Mk) (sp : List Int), Hid (ms = p ++ q) ∧ Hid (MkAt F2 w2 q v) ∧ Hid (SpB wr (w2.heap.size + 1) sp) ∧ Hid (SpQ n p sp) ∧ Hid (BoB wr (w2.heap.size + 2) (flg n p true)) ∧ Hid (BoB wr (w2.heap.size + 3) (flg n p false)) ∧ Hid (wr.heap[w2.heap.size]? = some (.cells #[.int .i64 (at_ : Int), .int .i64 (xe : Int), .slice none 0 0] 80 (0, 0))) ∧ Hid (Below w2.heap.size w2 wr) ∧ Hid (wr.heap.size = w2.heap.size + 4)) (fun v _ => mkLen ms.length w2 v)
   case atStart => exact ⟨[], ms, List.replicate (n * 2) 0, Lib.hid rfl, HMS, B3, Lib.hid (SpQ.nil n), Lib.hid (by rw [flg_nil]; exact B2.out), Lib.hid (by rw [flg_nil]; exact B1.out), B4, HBC, HSC⟩
   case round =>
    obtain ⟨p, q, sp, HPQ, HQ, BS, HSP, BFtrue, BFfalse, BX, HB, HSZ⟩ := hrel
    cases q with
    | cons m q =>
     obtain ⟨m1, c, at1⟩ := m
     obtain ⟨b, v', hu, hbl, hF, c0, c1, c2, c3, hq'⟩ := HQ.out.cells
     subst hu
     have hcn : c < n := HLT2.out (m1, c, at1) (by rw [HPQ.out]; simp)
     have HQ2 := Lib.hid hq'
     have e0 := (HB.out.cell (p := ⟨b, 0, none⟩) hbl).trans c0
     have e1 := (HB.out.cell (p := ⟨b, 1, none⟩) hbl).trans c1
     have e2 := (HB.out.cell (p := ⟨b, 2, none⟩) hbl).trans c2
     have e3 := (HB.out.cell (p := ⟨b, 3, none⟩) hbl).trans c3
     have hbw : b < wr.heap.size := Nat.lt_of_lt_of_le hbl HB.out.size
     simp only at e0 e1 e2 e3
     clear c0 c1 c2 c3 hq' hF
     cases m1 with
     | true =>
      have hcb : c < (flg n p true).length := by rw [flg_len]; exact hcn
      have q1 := BFtrue.out.cell hcb
      rw [flg_at] at q1
      cases hfl : (Mt.fstM p true c).isSome with
      | true =>
       rw [hfl] at q1
       have HFL := Lib.hid hfl
       clear hfl hcb
       go_wp2_with fail
       go_roundw
       case rel => exact ⟨p ++ [(true, c, at1)], q, sp, Lib.hid (by rw [HPQ.out]; simp), HQ2, BS, Lib.hid (HSP.out.same HFL.out), Lib.hid (by rw [flg_same HFL.out]; exact BFtrue.out), Lib.hid (by rw [flg_other (by decide)]; exact BFfalse.out), BX, HB, HSZ⟩
       case measure =>
        have h1 := congrArg List.length HPQ.out
        simp only [List.length_append, List.length_cons] at h1
        rw [mkLen_at q _ v' HQ2.out (by omega), mkLen_at _ _ _ HQ.out (by simp; omega)]
        simp
      | false =>
       rw [hfl] at q1
       have hsi : c * 2 < sp.length := by rw [HSP.out.1]; omega
       have q2 := BS.out.cell hsi
       have f1 := frz0 BFtrue.out c
       have f2 := frz0 BS.out (c * 2)
       have HS2 : Hid (BoB ((wr.setCell ⟨w2.heap.size + 1, c * 2, none⟩ (.int .i64 (at1 : Int))).setCell ⟨w2.heap.size + 2, c, none⟩ (.bool true)) (w2.heap.size + 2) ((flg n p true).set c true) ∧ SpB ((wr.setCell ⟨w2.heap.size + 1, c * 2, none⟩ (.int .i64 (at1 : Int))).setCell ⟨w2.heap.size + 2, c, none⟩ (.bool true)) (w2.heap.size + 1) (sp.set (c * 2) (at1 : Int)) ∧ BoB ((wr.setCell ⟨w2.heap.size + 1, c * 2, none⟩ (.int .i64 (at1 : Int))).setCell ⟨w2.heap.size + 2, c, none⟩ (.bool true)) (w2.heap.size + 3) (flg n p false) ∧ ((wr.setCell ⟨w2.heap.size + 1, c * 2, none⟩ (.int .i64 (at1 : Int))).setCell ⟨w2.heap.size + 2, c, none⟩ (.bool true)).heap[w2.heap.size]? = some (.cells #[.int .i64 (at_ : Int), .int .i64 (xe : Int), .slice none 0 0] 80 (0, 0)) ∧ Below w2.heap.size w2 ((wr.setCell ⟨w2.heap.size + 1, c * 2, none⟩ (.int .i64 (at1 : Int))).setCell ⟨w2.heap.size + 2, c, none⟩ (.bool true))) := Lib.hid ⟨(BFtrue.out.other (b' := w2.heap.size + 1) (by omega)).set c true, (BS.out.set (c * 2) (at1 : Int)).other (b' := w2.heap.size + 2) (by omega), (BFfalse.out.other (b' := w2.heap.size + 1) (by omega)).other (b' := w2.heap.size + 2) (by omega), (Deep.blk_setCell_other _ _ _ _ (by show w2.heap.size ≠ w2.heap.size + 2; omega)).trans ((Deep.blk_setCell_other _ _ _ _ (by show w2.heap.size ≠ w2.heap.size + 1; omega)).trans BX.out), (HB.out.setCell (p := ⟨w2.heap.size + 1, c * 2, none⟩) (by show w2.heap.size ≤ w2.heap.size + 1; omega) _).setCell (p := ⟨w2.heap.size + 2, c, none⟩) (by show w2.heap.size ≤ w2.heap.size + 2; omega) _⟩
       have i1 : (c : Int) < (n : Int) := by omega
       have i2 : (0 : Int) ≤ (c : Int) := by omega
       have HFL := Lib.hid hfl
       clear hfl hcb
       go_wp2_with fail
       go_region
       all_goals
        go_wp2_with fail
        go_roundw
        case rel => exact ⟨p ++ [(true, c, at1)], q, sp.set (c * 2) (at1 : Int), Lib.hid (by rw [HPQ.out]; simp), HQ2, Lib.hid HS2.out.2.1, Lib.hid (HSP.out.settrue HFL.out hcn), Lib.hid (by rw [← flg_set]; exact HS2.out.1), Lib.hid (by rw [flg_other (by decide)]; exact HS2.out.2.2.1), Lib.hid HS2.out.2.2.2.1, Lib.hid HS2.out.2.2.2.2.drew, Lib.hid (by simp [World.drew, HSZ.out])⟩
        case measure =>
         have h1 := congrArg List.length HPQ.out
         simp only [List.length_append, List.length_cons] at h1
         rw [mkLen_at q _ v' HQ2.out (by omega), mkLen_at _ _ _ HQ.out (by simp; omega)]
         simp
     | false =>
      have hcb : c < (flg n p false).length := by rw [flg_len]; exact hcn
      have q1 := BFfalse.out.cell hcb
      rw [flg_at] at q1
      cases hfl : (Mt.fstM p false c).isSome with
      | true =>
       rw [hfl] at q1
       have HFL := Lib.hid hfl
       clear hfl hcb
       go_wp2_with fail
       go_roundw
       case rel => exact ⟨p ++ [(false, c, at1)], q, sp, Lib.hid (by rw [HPQ.out]; simp), HQ2, BS, Lib.hid (HSP.out.same HFL.out), Lib.hid (by rw [flg_other (by decide)]; exact BFtrue.out), Lib.hid (by rw [flg_same HFL.out]; exact BFfalse.out), BX, HB, HSZ⟩
       case measure =>
        have h1 := congrArg List.length HPQ.out
        simp only [List.length_append, List.length_cons] at h1
        rw [mkLen_at q _ v' HQ2.out (by omega), mkLen_at _ _ _ HQ.out (by simp; omega)]
        simp
      | false =>
       rw [hfl] at q1
       have hsi : c * 2 + 1 < sp.length := by rw [HSP.out.1]; omega
       have q2 := BS.out.cell hsi
       have f1 := frz0 BFfalse.out c
       have f2 := frz0 BS.out (c * 2 + 1)
       have HS2 : Hid (BoB ((wr.setCell ⟨w2.heap.size + 1, c * 2 + 1, none⟩ (.int .i64 (at1 : Int))).setCell ⟨w2.heap.size + 3, c, none⟩ (.bool true)) (w2.heap.size + 3) ((flg n p false).set c true) ∧ SpB ((wr.setCell ⟨w2.heap.size + 1, c * 2 + 1, none⟩ (.int .i64 (at1 : Int))).setCell ⟨w2.heap.size + 3, c, none⟩ (.bool true)) (w2.heap.size + 1) (sp.set (c * 2 + 1) (at1 : Int)) ∧ BoB ((wr.setCell ⟨w2.heap.size + 1, c * 2 + 1, none⟩ (.int .i64 (at1 : Int))).setCell ⟨w2.heap.size + 3, c, none⟩ (.bool true)) (w2.heap.size + 2) (flg n p true) ∧ ((wr.setCell ⟨w2.heap.size + 1, c * 2 + 1, none⟩ (.int .i64 (at1 : Int))).setCell ⟨w2.heap.size + 3, c, none⟩ (.bool true)).heap[w2.heap.size]? = some (.cells #[.int .i64 (at_ : Int), .int .i64 (xe : Int), .slice none 0 0] 80 (0, 0)) ∧ Below w2.heap.size w2 ((wr.setCell ⟨w2.heap.size + 1, c * 2 + 1, none⟩ (.int .i64 (at1 : Int))).setCell ⟨w2.heap.size + 3, c, none⟩ (.bool true))) := Lib.hid ⟨(BFfalse.out.other (b' := w2.heap.size + 1) (by omega)).set c true, (BS.out.set (c * 2 + 1) (at1 : Int)).other (b' := w2.heap.size + 3) (by omega), (BFtrue.out.other (b' := w2.heap.size + 1) (by omega)).other (b' := w2.heap.size + 3) (by omega), (Deep.blk_setCell_other _ _ _ _ (by show w2.heap.size ≠ w2.heap.size + 3; omega)).trans ((Deep.blk_setCell_other _ _ _ _ (by show w2.heap.size ≠ w2.heap.size + 1; omega)).trans BX.out), (HB.out.setCell (p := ⟨w2.heap.size + 1, c * 2 + 1, none⟩) (by show w2.heap.size ≤ w2.heap.size + 1; omega) _).setCell (p := ⟨w2.heap.size + 3, c, none⟩) (by show w2.heap.size ≤ w2.heap.size + 3; omega) _⟩
       have i1 : (c : Int) < (n : Int) := by omega
       have i2 : (0 : Int) ≤ (c : Int) := by omega
       have HFL := Lib.hid hfl
       clear hfl hcb
       go_wp2_with fail
       go_region
       all_goals
        go_wp2_with fail
        go_roundw
        case rel => exact ⟨p ++ [(false, c, at1)], q, sp.set (c * 2 + 1) (at1 : Int), Lib.hid (by rw [HPQ.out]; simp), HQ2, Lib.hid HS2.out.2.1, Lib.hid (HSP.out.setfalse HFL.out hcn), Lib.hid (by rw [flg_other (by decide)]; exact HS2.out.2.2.1), Lib.hid (by rw [← flg_set]; exact HS2.out.1), Lib.hid HS2.out.2.2.2.1, Lib.hid HS2.out.2.2.2.2.drew, Lib.hid (by simp [World.drew, HSZ.out])⟩
        case measure =>
         have h1 := congrArg List.length HPQ.out
         simp only [List.length_append, List.length_cons] at h1
         rw [mkLen_at q _ v' HQ2.out (by omega), mkLen_at _ _ _ HQ.out (by simp; omega)]
         simp
    | nil =>
     obtain rfl : u13 = .pointer none := HQ.out
     have hpq := HPQ.out
     rw [List.append_nil] at hpq
     subst hpq
     have n4 := (HB.out.cell (p := ⟨g, 1, none⟩) hgl).trans hnc
     have HSZ2 : Hid (w2.heap.size + 4 ≤ wr.heap.size) := Lib.hid (by rw [HSZ.out]; exact Nat.le_refl _)
     clear HSZ HQ HPQ B1 B2 B3 B4 HBC HSC n1 n2 n3 hms hmo hmc hWx hWs hWo hWc k2 f2 hst
     go_wp2_with fail
     go_loopw [129] (fun i wr => ∃ (k : Nat) (gs : List Grp) (gv : Value), i = .int .i64 (k : Int) ∧ k ≤ n ∧ Hid (gs = grpK ms (Mt.nsN t []) k) ∧ Hid (OR (w2.heap.size + 4) 85 3 GrR wr gs gv) ∧ Hid (SpB wr (w2.heap.size + 1) sp) ∧ Hid (BoB wr (w2.heap.size + 2) (flg n ms true)) ∧ Hid (BoB wr (w2.heap.size + 3) (flg n ms false)) ∧ Hid (wr.heap[w2.heap.size]? = some (.cells #[.int .i64 (at_ : Int), .int .i64 (xe : Int), gv] 80 (0, 0))) ∧ Hid (Below w2.heap.size w2 wr) ∧ Hid (w2.heap.size + 4 ≤ wr.heap.size)) (fun i _ => n - (intOf i).toNat)
     case atStart => exact ⟨0, [], .slice none 0 0, rfl, Nat.zero_le _, Lib.hid rfl, Lib.hid OR.nil, BS, BFtrue, BFfalse, BX, HB, HSZ2⟩
     case round =>
      obtain ⟨k, gs, gv, rfl, hkn, HGL, HOR, BS, BT, BF, BX, HB, HSZ⟩ := hrel
      by_cases hlt : k < n
      ·obtain ⟨na', nc', hnv, _, hnk⟩ := HNR.out
       have hkk : k < (Mt.nsN t []).length := by rw [HNN.out]; exact hlt
       obtain ⟨nb, no, hna, hnbl, _, hncc⟩ := hnk (by omega)
       obtain ⟨us, hus1, hus2, hus3⟩ := hncc k hkk
       injection hnv with hnv1 hnv2 hnv3
       subst hna
       subst hnv1
       unfold StrR at hus3
       subst hus3
       have s0 := (HB.out.cell (p := ⟨nb, no + k * 1 + 0, none⟩) hnbl).trans (hus2 0 (by decide))
       obtain ⟨nm, hnm⟩ : ∃ nm, (Mt.nsN t [])[k] = nm := ⟨_, rfl⟩
       rw [hnm] at s0
       simp only [Nat.mul_one, Nat.add_zero, List.getElem?_cons_zero] at s0
       have HGD : Hid ((Mt.nsN t []).getD k [] = nm) := Lib.hid (by rw [List.getD_eq_getElem?_getD, List.getElem?_eq_getElem hkk, hnm]; rfl)
       have hbw : nb < wr.heap.size := Nat.lt_of_lt_of_le hnbl HB.out.size
       have i1 : (k : Int) < (n : Int) := by omega
       have i2 : (0 : Int) ≤ (k : Int) := by omega
       have t1 : k < (flg n ms true).length := by rw [flg_len]; exact hlt
       have t2 : k < (flg n ms false).length := by rw [flg_len]; exact hlt
       have q1 := BT.out.cell t1
       have q2 := BF.out.cell t2
       rw [flg_at] at q1 q2
       clear hnv2 hnv3 hnk hncc hus1 hus2 hnm t1 t2 hkk
       cases hA : (Mt.fstM ms true k).isSome with
       | false =>
        rw [hA] at q1
        have HCS : Hid (gs = grpK ms (Mt.nsN t []) (k + 1)) := Lib.hid (by rw [HGL.out, grpK, hA]; simp)
        clear hA
        go_wp2_with fail
        go_roundw
        case rel => exact ⟨k + 1, gs, gv, by go_num, by omega, HCS, HOR, BS, BT, BF, BX, HB, HSZ⟩
        case measure => simp [intOf]; omega
       | true =>
        cases hB : (Mt.fstM ms false k).isSome with
        | false =>
         rw [hA] at q1
         rw [hB] at q2
         have HCS : Hid (gs = grpK ms (Mt.nsN t []) (k + 1)) := Lib.hid (by rw [HGL.out, grpK, hA, hB]; simp)
         clear hA hB
         go_wp2_with fail
         go_roundw
         case rel => exact ⟨k + 1, gs, gv, by go_num, by omega, HCS, HOR, BS, BT, BF, BX, HB, HSZ⟩
         case measure => simp [intOf]; omega
        | true =>
         rw [hA] at q1
         rw [hB] at q2
         have HCS : Hid (grpK ms (Mt.nsN t []) (k + 1) = gs ++ [(nm, posM ms true k, posM ms false k)]) := Lib.hid (by rw [grpK, hA, hB, ← HGL.out, HGD.out]; simp)
         have hgl16 : gs.length ≤ 16 := by rw [HGL.out, grpK_len]; exact Nat.le_trans (cntK_le ms k) (by omega)
         clear hA hB
         have x1 := BS.out.cell (show k * 2 < sp.length by rw [HSP.out.1]; omega)
         have x2 := BS.out.cell (show k * 2 + 1 < sp.length by rw [HSP.out.1]; omega)
         obtain ⟨y1, hy1⟩ : ∃ y, sp[k * 2]'(by rw [HSP.out.1]; omega) = y := ⟨_, rfl⟩
         obtain ⟨y2, hy2⟩ : ∃ y, sp[k * 2 + 1]'(by rw [HSP.out.1]; omega) = y := ⟨_, rfl⟩
         rw [hy1] at x1
         rw [hy2] at x2
         have hsq := HSP.out.2 k hlt
         rw [List.getElem?_eq_getElem (show k * 2 < sp.length by rw [HSP.out.1]; omega), List.getElem?_eq_getElem (show k * 2 + 1 < sp.length by rw [HSP.out.1]; omega), hy1, hy2] at hsq
         have HYY : Hid (y1 = posM ms true k ∧ y2 = posM ms false k) := Lib.hid ⟨Option.some.inj hsq.1, Option.some.inj hsq.2⟩
         clear hsq
         obtain ⟨i0, hi, hz0, hz1, hz2⟩ := info_parts infoG
         obtain ⟨cs, hown, hpush⟩ := HOR.out.cells
         obtain ⟨Wd, hWd⟩ : ∃ Wd, wr.drew.alloc (.cells #[.string ⟨nm.toArray⟩, .int .i64 y1, .int .i64 y2] 85) = Wd := ⟨_, rfl⟩
         have hdb : Below wr.heap.size wr Wd := by rw [← hWd]; exact (Below.refl wr.heap.size wr).drew.alloc (Nat.le_refl _) _
         have hds : Wd.heap.size = wr.heap.size + 1 := by rw [← hWd, Deep.nblk_alloc]; rfl
         have hnb : Wd.heap[wr.heap.size]? = some (.cells #[.string ⟨nm.toArray⟩, .int .i64 y1, .int .i64 y2] 85 (0, 0)) := by rw [← hWd]; exact Deep.blk_alloc_new wr.drew _
         have hownd := own_block hown fun b hb => hdb.block b (own_lt hown hb)
         obtain ⟨gv', We, hrun, hown2, hgr, _, hnew⟩ := run_append_own2 (P := Tryz.prog) (w := Wd) (w2.heap.size + 4) 78 78 85 i0 (.agg #[.string ⟨#[]⟩, .int .i64 0, .int .i64 0]) 3 32 Tryz.underlying78 hi hz0 hz1 hz2 rfl (by decide) gv gs.length cs hownd ⟨wr.heap.size, 0, none⟩ 1 1 [.string ⟨nm.toArray⟩, .int .i64 y1, .int .i64 y2] rfl (World.news_of_block hnb) (by intro u hu; simp only [List.mem_cons, List.not_mem_nil, or_false] at hu; rcases hu with rfl | rfl | rfl <;> rfl) (by unfold maxLen; omega) (by omega) (by have := HSZ.out; omega)
         obtain ⟨a5, c5, hg5⟩ : ∃ a c, gv' = .slice a (gs.length + 1) c := by
          obtain ⟨_, ⟨h1, h2⟩ | ⟨q, cap, cur, h1, _⟩⟩ := hown2
          ·omega
          ·exact ⟨_, _, h1⟩
         subst hg5
         have hgb : ∀ b, b < wr.heap.size → gv.ownBlock ≠ some b → We.heap[b]? = wr.heap[b]? := fun b hb hne => (hgr.block b (by omega) (fun e => hne e.symm)).trans (hdb.block b hb)
         have hnown : ∀ b, b < w2.heap.size + 4 → gv.ownBlock ≠ some b := fun b hb e => by have := (HOR.out.lt e).1; omega
         have hlow : ∀ b, b < w2.heap.size + 4 → We.heap[b]? = wr.heap[b]? := fun b hb => hgb b (by have := HSZ.out; omega) (hnown b hb)
         have hbx2 : We.heap[w2.heap.size]? = some (.cells #[.int .i64 (at_ : Int), .int .i64 (xe : Int), gv] 80 (0, 0)) := (hlow _ (by omega)).trans BX.out
         have k1 : wr.cell? ⟨w2.heap.size, 2, none⟩ = some gv := by rw [Lib.cell_of_heap BX.out]; rfl
         have k2 : Wd.cell? ⟨w2.heap.size, 2, none⟩ = some gv := by rw [Lib.cell_of_heap ((hdb.block _ (by have := HSZ.out; omega)).trans BX.out)]; rfl
         have k3 : We.cell? ⟨w2.heap.size, 2, none⟩ = some gv := by rw [Lib.cell_of_heap hbx2]; rfl
         have k4 := frz0 hbx2 2
         have hor5 : OR (w2.heap.size + 4) 85 3 GrR We (gs ++ [(nm, y1, y2)]) (Value.slice a5 (gs.length + 1) c5) := hpush GrR We (nm, y1, y2) _ (Value.slice a5 (gs.length + 1) c5) (fun _ _ h => h) rfl rfl (by omega) hown2
         have HN : Hid (gs ++ [(nm, y1, y2)] = grpK ms (Mt.nsN t []) (k + 1) ∧ OR (w2.heap.size + 4) 85 3 GrR (We.setCell ⟨w2.heap.size, 2, none⟩ (Value.slice a5 (gs.length + 1) c5)) (gs ++ [(nm, y1, y2)]) (Value.slice a5 (gs.length + 1) c5) ∧ SpB (We.setCell ⟨w2.heap.size, 2, none⟩ (Value.slice a5 (gs.length + 1) c5)) (w2.heap.size + 1) sp ∧ BoB (We.setCell ⟨w2.heap.size, 2, none⟩ (Value.slice a5 (gs.length + 1) c5)) (w2.heap.size + 2) (flg n ms true) ∧ BoB (We.setCell ⟨w2.heap.size, 2, none⟩ (Value.slice a5 (gs.length + 1) c5)) (w2.heap.size + 3) (flg n ms false) ∧ (We.setCell ⟨w2.heap.size, 2, none⟩ (Value.slice a5 (gs.length + 1) c5)).heap[w2.heap.size]? = some (.cells #[.int .i64 (at_ : Int), .int .i64 (xe : Int), Value.slice a5 (gs.length + 1) c5] 80 (0, 0)) ∧ Below w2.heap.size w2 (We.setCell ⟨w2.heap.size, 2, none⟩ (Value.slice a5 (gs.length + 1) c5)) ∧ w2.heap.size + 4 ≤ (We.setCell ⟨w2.heap.size, 2, none⟩ (Value.slice a5 (gs.length + 1) c5)).heap.size) := Lib.hid ⟨by rw [HCS.out, HYY.out.1, HYY.out.2], hor5.own (fun j hj => Deep.blk_setCell_other _ _ _ j (by have := (hor5.lt hj).1; show j ≠ w2.heap.size; omega)) (fun _ _ h => h) _ (Nat.le_refl _), SpB.other (b' := w2.heap.size) ((hlow _ (by omega)).trans BS.out) (by omega), BoB.other (b' := w2.heap.size) ((hlow _ (by omega)).trans BT.out) (by omega), BoB.other (b' := w2.heap.size) ((hlow _ (by omega)).trans BF.out) (by omega), set_at hbx2 2 (Value.slice a5 (gs.length + 1) c5), ⟨hgr.os.trans (hdb.os.trans HB.out.os), hgr.tape.trans (hdb.tape.trans HB.out.tape), hgr.output.trans (hdb.output.trans HB.out.output), by rw [Deep.nblk_setCell]; have := HSZ.out; have := hgr.size; omega, fun b hb => (Deep.blk_setCell_other _ _ _ b (by show b ≠ w2.heap.size; omega)).trans ((hlow b (by omega)).trans (HB.out.block b hb))⟩, by rw [Deep.nblk_setCell]; have := HSZ.out; have := hgr.size; omega⟩
         clear hi hz0 hz1 hz2 hown hpush hdb hds hnb hownd hown2 hgr hnew hgb hnown hlow hbx2 hor5 hy1 hy2
         go_wp2_with fail
         go_region_law (refine step_append_run (by rfl) _ _ _ (by rfl) _ _ _ (by rfl) (by rfl) hrun ?_)
         all_goals
          go_wp2_with fail
          go_roundw
          case rel => exact ⟨k + 1, gs ++ [(nm, y1, y2)], (Value.slice a5 (gs.length + 1) c5), by go_num, by omega, Lib.hid HN.out.1, Lib.hid HN.out.2.1, Lib.hid HN.out.2.2.1, Lib.hid HN.out.2.2.2.1, Lib.hid HN.out.2.2.2.2.1, Lib.hid HN.out.2.2.2.2.2.1, Lib.hid HN.out.2.2.2.2.2.2.1, Lib.hid HN.out.2.2.2.2.2.2.2⟩
          case measure => simp [intOf]; omega
      ·obtain rfl : k = n := by omega
       obtain ⟨ga, gc, hgv, hsrt⟩ := grow_sort HOR.out (by rw [HGL.out, grpK_len]; exact Nat.le_trans (cntK_le ms k) (by omega)) HSZ.out
       subst hgv
       have k0 : wr.cell? ⟨w2.heap.size, 2, none⟩ = some (.slice ga gs.length gc) := by rw [Lib.cell_of_heap BX.out]; rfl
       have HSRT := Lib.hid hsrt
       clear hsrt
       go_wp2_with fail
       refine HSRT.out.mono ?_
       rintro e w5 ⟨rfl, hb5, hrw5⟩
       have hbx5 := (hb5.block _ (by omega)).trans BX.out
       have hbl : w.heap.size < w2.heap.size := heap_lt HBX2.out
       have hb2 : Below w2.heap.size w2 w5 := HB.out.trans (hb5.mono (Nat.le_add_right _ _))
       have hbr := (hb2.block _ hbl).trans HBX2.out
       have k1 : w5.cell? ⟨w2.heap.size, 0, none⟩ = some (.int .i64 (at_ : Int)) := by rw [Lib.cell_of_heap hbx5]; rfl
       have k2 : w5.cell? ⟨w2.heap.size, 1, none⟩ = some (.int .i64 (xe : Int)) := by rw [Lib.cell_of_heap hbx5]; rfl
       have k3 : w5.cell? ⟨w2.heap.size, 2, none⟩ = some (.slice ga gs.length gc) := by rw [Lib.cell_of_heap hbx5]; rfl
       have d0 : w5.cell? ⟨w.heap.size, 0, none⟩ = some (.int .i64 0) := by rw [Lib.cell_of_heap hbr]; rfl
       have d1 : w5.cell? ⟨w.heap.size, 1, none⟩ = some (.int .i64 0) := by rw [Lib.cell_of_heap hbr]; rfl
       have d2 : w5.cell? ⟨w.heap.size, 2, none⟩ = some (.slice none 0 0) := by rw [Lib.cell_of_heap hbr]; rfl
       have z0 := frz0 hbr 0
       have z1 := frz0 hbr 1
       have z2 := frz0 hbr 2
       have HBR := Lib.hid hbr
       have HB2 := Lib.hid hb2
       have HGN : Hid (gs.length = cntK ms k) := Lib.hid (by rw [HGL.out, grpK_len])
       have HRW5 : Hid (∀ v0 v1 v2 : Value, RW (fun b => w.heap.size < b) 3 GrR (((w5.setCell ⟨w.heap.size, 0, none⟩ v0).setCell ⟨w.heap.size, 1, none⟩ v1).setCell ⟨w.heap.size, 2, none⟩ v2) (mgrp t ms) (.slice ga (Mt.cntM k ms) gc)) := Lib.hid (fun v0 v1 v2 => by
        have hs3 := ((SrtP.set w5 w.heap.size 0 v0).trans (SrtP.set _ w.heap.size 1 v1)).trans (SrtP.set _ w.heap.size 2 v2)
        have h5 := hrw5.go (F' := fun b => w.heap.size < b) ⟨hs3.size, fun b hb hl => ⟨by have : w2.heap.size + 4 ≤ b := hb; show w.heap.size < b; omega, hs3.block b hl (by have : w2.heap.size + 4 ≤ b := hb; omega)⟩⟩ (fun _ _ h => h)
        rw [HGN.out] at h5
        unfold mgrp
        rw [HNN.out, ← HGL.out]
        exact h5)
       clear hb5 hbx5 hbl hb2 hbr hrw5
       go_wp2_with fail
       refine agg_ret2 (cs := [.int .i64 (at_ : Int), .int .i64 (xe : Int), .slice ga gs.length gc]) (by rfl) rfl (by rfl) (set_at (set_at (set_at HBR.out 0 _) 1 _) 2 _) Tryz.underlying80 rfl (by kernel_rfl) ?_
       refine ⟨HFIN.out _ ((SrtP.of_below HB2.out).trans (((SrtP.set _ _ _ _).trans (SrtP.set _ _ _ _)).trans (SrtP.set _ _ _ _))), ga, gc, ?_, HRW5.out _ _ _⟩
       rw [HGN.out]
       rfl
  ·go_wp2_with fail
   go_loopw [13] (fun v wr => ∃ (p q : List Mt.Mk) (sp : List Int), Hid (ms = p ++ q) ∧ Hid (MkAt F2 w2 q v) ∧ Hid (SpB wr (w2.heap.size + 1) sp) ∧ Hid (SpQ n p sp) ∧ Hid (BoB wr (w2.heap.size + 3) (flg n p true)) ∧ Hid (BoB wr (w2.heap.size + 2) (flg n p false)) ∧ Hid (wr.heap[w2.heap.size]? = some (.cells #[.int .i64 (at_ : Int), .int .i64 (xe : Int), .slice none 0 0] 80 (0, 0))) ∧ Hid (Below w2.heap.size w2 wr) ∧ Hid (wr.heap.size = w2.heap.size + 4)) (fun v _ => mkLen ms.length w2 v)
   case atStart => exact ⟨[], ms, List.replicate (n * 2) 0, Lib.hid rfl, HMS, B3, Lib.hid (SpQ.nil n), Lib.hid (by rw [flg_nil]; exact B1.out), Lib.hid (by rw [flg_nil]; exact B2.out), B4, HBC, HSC⟩
   case round =>
    obtain ⟨p, q, sp, HPQ, HQ, BS, HSP, BFtrue, BFfalse, BX, HB, HSZ⟩ := hrel
    cases q with
    | cons m q =>
     obtain ⟨m1, c, at1⟩ := m
     obtain ⟨b, v', hu, hbl, hF, c0, c1, c2, c3, hq'⟩ := HQ.out.cells
     subst hu
     have hcn : c < n := HLT2.out (m1, c, at1) (by rw [HPQ.out]; simp)
     have HQ2 := Lib.hid hq'
     have e0 := (HB.out.cell (p := ⟨b, 0, none⟩) hbl).trans c0
     have e1 := (HB.out.cell (p := ⟨b, 1, none⟩) hbl).trans c1
     have e2 := (HB.out.cell (p := ⟨b, 2, none⟩) hbl).trans c2
     have e3 := (HB.out.cell (p := ⟨b, 3, none⟩) hbl).trans c3
     have hbw : b < wr.heap.size := Nat.lt_of_lt_of_le hbl HB.out.size
     simp only at e0 e1 e2 e3
     clear c0 c1 c2 c3 hq' hF
     cases m1 with
     | true =>
      have hcb : c < (flg n p true).length := by rw [flg_len]; exact hcn
      have q1 := BFtrue.out.cell hcb
      rw [flg_at] at q1
      cases hfl : (Mt.fstM p true c).isSome with
      | true =>
       rw [hfl] at q1
       have HFL := Lib.hid hfl
       clear hfl hcb
       go_wp2_with fail
       go_roundw
       case rel => exact ⟨p ++ [(true, c, at1)], q, sp, Lib.hid (by rw [HPQ.out]; simp), HQ2, BS, Lib.hid (HSP.out.same HFL.out), Lib.hid (by rw [flg_same HFL.out]; exact BFtrue.out), Lib.hid (by rw [flg_other (by decide)]; exact BFfalse.out), BX, HB, HSZ⟩
       case measure =>
        have h1 := congrArg List.length HPQ.out
        simp only [List.length_append, List.length_cons] at h1
        rw [mkLen_at q _ v' HQ2.out (by omega), mkLen_at _ _ _ HQ.out (by simp; omega)]
        simp
      | false =>
       rw [hfl] at q1
       have hsi : c * 2 < sp.length := by rw [HSP.out.1]; omega
       have q2 := BS.out.cell hsi
       have f1 := frz0 BFtrue.out c
       have f2 := frz0 BS.out (c * 2)
       have HS2 : Hid (BoB ((wr.setCell ⟨w2.heap.size + 1, c * 2, none⟩ (.int .i64 (at1 : Int))).setCell ⟨w2.heap.size + 3, c, none⟩ (.bool true)) (w2.heap.size + 3) ((flg n p true).set c true) ∧ SpB ((wr.setCell ⟨w2.heap.size + 1, c * 2, none⟩ (.int .i64 (at1 : Int))).setCell ⟨w2.heap.size + 3, c, none⟩ (.bool true)) (w2.heap.size + 1) (sp.set (c * 2) (at1 : Int)) ∧ BoB ((wr.setCell ⟨w2.heap.size + 1, c * 2, none⟩ (.int .i64 (at1 : Int))).setCell ⟨w2.heap.size + 3, c, none⟩ (.bool true)) (w2.heap.size + 2) (flg n p false) ∧ ((wr.setCell ⟨w2.heap.size + 1, c * 2, none⟩ (.int .i64 (at1 : Int))).setCell ⟨w2.heap.size + 3, c, none⟩ (.bool true)).heap[w2.heap.size]? = some (.cells #[.int .i64 (at_ : Int), .int .i64 (xe : Int), .slice none 0 0] 80 (0, 0)) ∧ Below w2.heap.size w2 ((wr.setCell ⟨w2.heap.size + 1, c * 2, none⟩ (.int .i64 (at1 : Int))).setCell ⟨w2.heap.size + 3, c, none⟩ (.bool true))) := Lib.hid ⟨(BFtrue.out.other (b' := w2.heap.size + 1) (by omega)).set c true, (BS.out.set (c * 2) (at1 : Int)).other (b' := w2.heap.size + 3) (by omega), (BFfalse.out.other (b' := w2.heap.size + 1) (by omega)).other (b' := w2.heap.size + 3) (by omega), (Deep.blk_setCell_other _ _ _ _ (by show w2.heap.size ≠ w2.heap.size + 3; omega)).trans ((Deep.blk_setCell_other _ _ _ _ (by show w2.heap.size ≠ w2.heap.size + 1; omega)).trans BX.out), (HB.out.setCell (p := ⟨w2.heap.size + 1, c * 2, none⟩) (by show w2.heap.size ≤ w2.heap.size + 1; omega) _).setCell (p := ⟨w2.heap.size + 3, c, none⟩) (by show w2.heap.size ≤ w2.heap.size + 3; omega) _⟩
       have i1 : (c : Int) < (n : Int) := by omega
       have i2 : (0 : Int) ≤ (c : Int) := by omega
       have HFL := Lib.hid hfl
       clear hfl hcb
       go_wp2_with fail
       go_region
       all_goals
        go_wp2_with fail
        go_roundw
        case rel => exact ⟨p ++ [(true, c, at1)], q, sp.set (c * 2) (at1 : Int), Lib.hid (by rw [HPQ.out]; simp), HQ2, Lib.hid HS2.out.2.1, Lib.hid (HSP.out.settrue HFL.out hcn), Lib.hid (by rw [← flg_set]; exact HS2.out.1), Lib.hid (by rw [flg_other (by decide)]; exact HS2.out.2.2.1), Lib.hid HS2.out.2.2.2.1, Lib.hid HS2.out.2.2.2.2.drew, Lib.hid (by simp [World.drew, HSZ.out])⟩
        case measure =>
         have h1 := congrArg List.length HPQ.out
         simp only [List.length_append, List.length_cons] at h1
         rw [mkLen_at q _ v' HQ2.out (by omega), mkLen_at _ _ _ HQ.out (by simp; omega)]
         simp
     | false =>
      have hcb : c < (flg n p false).length := by rw [flg_len]; exact hcn
      have q1 := BFfalse.out.cell hcb
      rw [flg_at] at q1
      cases hfl : (Mt.fstM p false c).isSome with
      | true =>
       rw [hfl] at q1
       have HFL := Lib.hid hfl
       clear hfl hcb
       go_wp2_with fail
       go_roundw
       case rel => exact ⟨p ++ [(false, c, at1)], q, sp, Lib.hid (by rw [HPQ.out]; simp), HQ2, BS, Lib.hid (HSP.out.same HFL.out), Lib.hid (by rw [flg_other (by decide)]; exact BFtrue.out), Lib.hid (by rw [flg_same HFL.out]; exact BFfalse.out), BX, HB, HSZ⟩
       case measure =>
        have h1 := congrArg List.length HPQ.out
        simp only [List.length_append, List.length_cons] at h1
        rw [mkLen_at q _ v' HQ2.out (by omega), mkLen_at _ _ _ HQ.out (by simp; omega)]
        simp
      | false =>
       rw [hfl] at q1
       have hsi : c * 2 + 1 < sp.length := by rw [HSP.out.1]; omega
       have q2 := BS.out.cell hsi
       have f1 := frz0 BFfalse.out c
       have f2 := frz0 BS.out (c * 2 + 1)
       have HS2 : Hid (BoB ((wr.setCell ⟨w2.heap.size + 1, c * 2 + 1, none⟩ (.int .i64 (at1 : Int))).setCell ⟨w2.heap.size + 2, c, none⟩ (.bool true)) (w2.heap.size + 2) ((flg n p false).set c true) ∧ SpB ((wr.setCell ⟨w2.heap.size + 1, c * 2 + 1, none⟩ (.int .i64 (at1 : Int))).setCell ⟨w2.heap.size + 2, c, none⟩ (.bool true)) (w2.heap.size + 1) (sp.set (c * 2 + 1) (at1 : Int)) ∧ BoB ((wr.setCell ⟨w2.heap.size + 1, c * 2 + 1, none⟩ (.int .i64 (at1 : Int))).setCell ⟨w2.heap.size + 2, c, none⟩ (.bool true)) (w2.heap.size + 3) (flg n p true) ∧ ((wr.setCell ⟨w2.heap.size + 1, c * 2 + 1, none⟩ (.int .i64 (at1 : Int))).setCell ⟨w2.heap.size + 2, c, none⟩ (.bool true)).heap[w2.heap.size]? = some (.cells #[.int .i64 (at_ : Int), .int .i64 (xe : Int), .slice none 0 0] 80 (0, 0)) ∧ Below w2.heap.size w2 ((wr.setCell ⟨w2.heap.size + 1, c * 2 + 1, none⟩ (.int .i64 (at1 : Int))).setCell ⟨w2.heap.size + 2, c, none⟩ (.bool true))) := Lib.hid ⟨(BFfalse.out.other (b' := w2.heap.size + 1) (by omega)).set c true, (BS.out.set (c * 2 + 1) (at1 : Int)).other (b' := w2.heap.size + 2) (by omega), (BFtrue.out.other (b' := w2.heap.size + 1) (by omega)).other (b' := w2.heap.size + 2) (by omega), (Deep.blk_setCell_other _ _ _ _ (by show w2.heap.size ≠ w2.heap.size + 2; omega)).trans ((Deep.blk_setCell_other _ _ _ _ (by show w2.heap.size ≠ w2.heap.size + 1; omega)).trans BX.out), (HB.out.setCell (p := ⟨w2.heap.size + 1, c * 2 + 1, none⟩) (by show w2.heap.size ≤ w2.heap.size + 1; omega) _).setCell (p := ⟨w2.heap.size + 2, c, none⟩) (by show w2.heap.size ≤ w2.heap.size + 2; omega) _⟩
       have i1 : (c : Int) < (n : Int) := by omega
       have i2 : (0 : Int) ≤ (c : Int) := by omega
       have HFL := Lib.hid hfl
       clear hfl hcb
       go_wp2_with fail
       go_region
       all_goals
        go_wp2_with fail
        go_roundw
        case rel => exact ⟨p ++ [(false, c, at1)], q, sp.set (c * 2 + 1) (at1 : Int), Lib.hid (by rw [HPQ.out]; simp), HQ2, Lib.hid HS2.out.2.1, Lib.hid (HSP.out.setfalse HFL.out hcn), Lib.hid (by rw [flg_other (by decide)]; exact HS2.out.2.2.1), Lib.hid (by rw [← flg_set]; exact HS2.out.1), Lib.hid HS2.out.2.2.2.1, Lib.hid HS2.out.2.2.2.2.drew, Lib.hid (by simp [World.drew, HSZ.out])⟩
        case measure =>
         have h1 := congrArg List.length HPQ.out
         simp only [List.length_append, List.length_cons] at h1
         rw [mkLen_at q _ v' HQ2.out (by omega), mkLen_at _ _ _ HQ.out (by simp; omega)]
         simp
    | nil =>
     obtain rfl : u13 = .pointer none := HQ.out
     have hpq := HPQ.out
     rw [List.append_nil] at hpq
     subst hpq
     have n4 := (HB.out.cell (p := ⟨g, 1, none⟩) hgl).trans hnc
     have HSZ2 : Hid (w2.heap.size + 4 ≤ wr.heap.size) := Lib.hid (by rw [HSZ.out]; exact Nat.le_refl _)
     clear HSZ HQ HPQ B1 B2 B3 B4 HBC HSC n1 n2 n3 hms hmo hmc hWx hWs hWo hWc k2 f2 hst
     go_wp2_with fail
     go_loopw [129] (fun i wr => ∃ (k : Nat) (gs : List Grp) (gv : Value), i = .int .i64 (k : Int) ∧ k ≤ n ∧ Hid (gs = grpK ms (Mt.nsN t []) k) ∧ Hid (OR (w2.heap.size + 4) 85 3 GrR wr gs gv) ∧ Hid (SpB wr (w2.heap.size + 1) sp) ∧ Hid (BoB wr (w2.heap.size + 3) (flg n ms true)) ∧ Hid (BoB wr (w2.heap.size + 2) (flg n ms false)) ∧ Hid (wr.heap[w2.heap.size]? = some (.cells #[.int .i64 (at_ : Int), .int .i64 (xe : Int), gv] 80 (0, 0))) ∧ Hid (Below w2.heap.size w2 wr) ∧ Hid (w2.heap.size + 4 ≤ wr.heap.size)) (fun i _ => n - (intOf i).toNat)
     case atStart => exact ⟨0, [], .slice none 0 0, rfl, Nat.zero_le _, Lib.hid rfl, Lib.hid OR.nil, BS, BFtrue, BFfalse, BX, HB, HSZ2⟩
     case round =>
      obtain ⟨k, gs, gv, rfl, hkn, HGL, HOR, BS, BT, BF, BX, HB, HSZ⟩ := hrel
      by_cases hlt : k < n
      ·obtain ⟨na', nc', hnv, _, hnk⟩ := HNR.out
       have hkk : k < (Mt.nsN t []).length := by rw [HNN.out]; exact hlt
       obtain ⟨nb, no, hna, hnbl, _, hncc⟩ := hnk (by omega)
       obtain ⟨us, hus1, hus2, hus3⟩ := hncc k hkk
       injection hnv with hnv1 hnv2 hnv3
       subst hna
       subst hnv1
       unfold StrR at hus3
       subst hus3
       have s0 := (HB.out.cell (p := ⟨nb, no + k * 1 + 0, none⟩) hnbl).trans (hus2 0 (by decide))
       obtain ⟨nm, hnm⟩ : ∃ nm, (Mt.nsN t [])[k] = nm := ⟨_, rfl⟩
       rw [hnm] at s0
       simp only [Nat.mul_one, Nat.add_zero, List.getElem?_cons_zero] at s0
       have HGD : Hid ((Mt.nsN t []).getD k [] = nm) := Lib.hid (by rw [List.getD_eq_getElem?_getD, List.getElem?_eq_getElem hkk, hnm]; rfl)
       have hbw : nb < wr.heap.size := Nat.lt_of_lt_of_le hnbl HB.out.size
       have i1 : (k : Int) < (n : Int) := by omega
       have i2 : (0 : Int) ≤ (k : Int) := by omega
       have t1 : k < (flg n ms true).length := by rw [flg_len]; exact hlt
       have t2 : k < (flg n ms false).length := by rw [flg_len]; exact hlt
       have q1 := BT.out.cell t1
       have q2 := BF.out.cell t2
       rw [flg_at] at q1 q2
       clear hnv2 hnv3 hnk hncc hus1 hus2 hnm t1 t2 hkk
       cases hA : (Mt.fstM ms true k).isSome with
       | false =>
        rw [hA] at q1
        have HCS : Hid (gs = grpK ms (Mt.nsN t []) (k + 1)) := Lib.hid (by rw [HGL.out, grpK, hA]; simp)
        clear hA
        go_wp2_with fail
        go_roundw
        case rel => exact ⟨k + 1, gs, gv, by go_num, by omega, HCS, HOR, BS, BT, BF, BX, HB, HSZ⟩
        case measure => simp [intOf]; omega
       | true =>
        cases hB : (Mt.fstM ms false k).isSome with
        | false =>
         rw [hA] at q1
         rw [hB] at q2
         have HCS : Hid (gs = grpK ms (Mt.nsN t []) (k + 1)) := Lib.hid (by rw [HGL.out, grpK, hA, hB]; simp)
         clear hA hB
         go_wp2_with fail
         go_roundw
         case rel => exact ⟨k + 1, gs, gv, by go_num, by omega, HCS, HOR, BS, BT, BF, BX, HB, HSZ⟩
         case measure => simp [intOf]; omega
        | true =>
         rw [hA] at q1
         rw [hB] at q2
         have HCS : Hid (grpK ms (Mt.nsN t []) (k + 1) = gs ++ [(nm, posM ms true k, posM ms false k)]) := Lib.hid (by rw [grpK, hA, hB, ← HGL.out, HGD.out]; simp)
         have hgl16 : gs.length ≤ 16 := by rw [HGL.out, grpK_len]; exact Nat.le_trans (cntK_le ms k) (by omega)
         clear hA hB
         have x1 := BS.out.cell (show k * 2 < sp.length by rw [HSP.out.1]; omega)
         have x2 := BS.out.cell (show k * 2 + 1 < sp.length by rw [HSP.out.1]; omega)
         obtain ⟨y1, hy1⟩ : ∃ y, sp[k * 2]'(by rw [HSP.out.1]; omega) = y := ⟨_, rfl⟩
         obtain ⟨y2, hy2⟩ : ∃ y, sp[k * 2 + 1]'(by rw [HSP.out.1]; omega) = y := ⟨_, rfl⟩
         rw [hy1] at x1
         rw [hy2] at x2
         have hsq := HSP.out.2 k hlt
         rw [List.getElem?_eq_getElem (show k * 2 < sp.length by rw [HSP.out.1]; omega), List.getElem?_eq_getElem (show k * 2 + 1 < sp.length by rw [HSP.out.1]; omega), hy1, hy2] at hsq
         have HYY : Hid (y1 = posM ms true k ∧ y2 = posM ms false k) := Lib.hid ⟨Option.some.inj hsq.1, Option.some.inj hsq.2⟩
         clear hsq
         obtain ⟨i0, hi, hz0, hz1, hz2⟩ := info_parts infoG
         obtain ⟨cs, hown, hpush⟩ := HOR.out.cells
         obtain ⟨Wd, hWd⟩ : ∃ Wd, wr.drew.alloc (.cells #[.string ⟨nm.toArray⟩, .int .i64 y1, .int .i64 y2] 85) = Wd := ⟨_, rfl⟩
         have hdb : Below wr.heap.size wr Wd := by rw [← hWd]; exact (Below.refl wr.heap.size wr).drew.alloc (Nat.le_refl _) _
         have hds : Wd.heap.size = wr.heap.size + 1 := by rw [← hWd, Deep.nblk_alloc]; rfl
         have hnb : Wd.heap[wr.heap.size]? = some (.cells #[.string ⟨nm.toArray⟩, .int .i64 y1, .int .i64 y2] 85 (0, 0)) := by rw [← hWd]; exact Deep.blk_alloc_new wr.drew _
         have hownd := own_block hown fun b hb => hdb.block b (own_lt hown hb)
         obtain ⟨gv', We, hrun, hown2, hgr, _, hnew⟩ := run_append_own2 (P := Tryz.prog) (w := Wd) (w2.heap.size + 4) 78 78 85 i0 (.agg #[.string ⟨#[]⟩, .int .i64 0, .int .i64 0]) 3 32 Tryz.underlying78 hi hz0 hz1 hz2 rfl (by decide) gv gs.length cs hownd ⟨wr.heap.size, 0, none⟩ 1 1 [.string ⟨nm.toArray⟩, .int .i64 y1, .int .i64 y2] rfl (World.news_of_block hnb) (by intro u hu; simp only [List.mem_cons, List.not_mem_nil, or_false] at hu; rcases hu with rfl | rfl | rfl <;> rfl) (by unfold maxLen; omega) (by omega) (by have := HSZ.out; omega)
         obtain ⟨a5, c5, hg5⟩ : ∃ a c, gv' = .slice a (gs.length + 1) c := by
          obtain ⟨_, ⟨h1, h2⟩ | ⟨q, cap, cur, h1, _⟩⟩ := hown2
          ·omega
          ·exact ⟨_, _, h1⟩
         subst hg5
         have hgb : ∀ b, b < wr.heap.size → gv.ownBlock ≠ some b → We.heap[b]? = wr.heap[b]? := fun b hb hne => (hgr.block b (by omega) (fun e => hne e.symm)).trans (hdb.block b hb)
         have hnown : ∀ b, b < w2.heap.size + 4 → gv.ownBlock ≠ some b := fun b hb e => by have := (HOR.out.lt e).1; omega
         have hlow : ∀ b, b < w2.heap.size + 4 → We.heap[b]? = wr.heap[b]? := fun b hb => hgb b (by have := HSZ.out; omega) (hnown b hb)
         have hbx2 : We.heap[w2.heap.size]? = some (.cells #[.int .i64 (at_ : Int), .int .i64 (xe : Int), gv] 80 (0, 0)) := (hlow _ (by omega)).trans BX.out
         have k1 : wr.cell? ⟨w2.heap.size, 2, none⟩ = some gv := by rw [Lib.cell_of_heap BX.out]; rfl
         have k2 : Wd.cell? ⟨w2.heap.size, 2, none⟩ = some gv := by rw [Lib.cell_of_heap ((hdb.block _ (by have := HSZ.out; omega)).trans BX.out)]; rfl
         have k3 : We.cell? ⟨w2.heap.size, 2, none⟩ = some gv := by rw [Lib.cell_of_heap hbx2]; rfl
         have k4 := frz0 hbx2 2
         have hor5 : OR (w2.heap.size + 4) 85 3 GrR We (gs ++ [(nm, y1, y2)]) (Value.slice a5 (gs.length + 1) c5) := hpush GrR We (nm, y1, y2) _ (Value.slice a5 (gs.length + 1) c5) (fun _ _ h => h) rfl rfl (by omega) hown2
         have HN : Hid (gs ++ [(nm, y1, y2)] = grpK ms (Mt.nsN t []) (k + 1) ∧ OR (w2.heap.size + 4) 85 3 GrR (We.setCell ⟨w2.heap.size, 2, none⟩ (Value.slice a5 (gs.length + 1) c5)) (gs ++ [(nm, y1, y2)]) (Value.slice a5 (gs.length + 1) c5) ∧ SpB (We.setCell ⟨w2.heap.size, 2, none⟩ (Value.slice a5 (gs.length + 1) c5)) (w2.heap.size + 1) sp ∧ BoB (We.setCell ⟨w2.heap.size, 2, none⟩ (Value.slice a5 (gs.length + 1) c5)) (w2.heap.size + 3) (flg n ms true) ∧ BoB (We.setCell ⟨w2.heap.size, 2, none⟩ (Value.slice a5 (gs.length + 1) c5)) (w2.heap.size + 2) (flg n ms false) ∧ (We.setCell ⟨w2.heap.size, 2, none⟩ (Value.slice a5 (gs.length + 1) c5)).heap[w2.heap.size]? = some (.cells #[.int .i64 (at_ : Int), .int .i64 (xe : Int), Value.slice a5 (gs.length + 1) c5] 80 (0, 0)) ∧ Below w2.heap.size w2 (We.setCell ⟨w2.heap.size, 2, none⟩ (Value.slice a5 (gs.length + 1) c5)) ∧ w2.heap.size + 4 ≤ (We.setCell ⟨w2.heap.size, 2, none⟩ (Value.slice a5 (gs.length + 1) c5)).heap.size) := Lib.hid ⟨by rw [HCS.out, HYY.out.1, HYY.out.2], hor5.own (fun j hj => Deep.blk_setCell_other _ _ _ j (by have := (hor5.lt hj).1; show j ≠ w2.heap.size; omega)) (fun _ _ h => h) _ (Nat.le_refl _), SpB.other (b' := w2.heap.size) ((hlow _ (by omega)).trans BS.out) (by omega), BoB.other (b' := w2.heap.size) ((hlow _ (by omega)).trans BT.out) (by omega), BoB.other (b' := w2.heap.size) ((hlow _ (by omega)).trans BF.out) (by omega), set_at hbx2 2 (Value.slice a5 (gs.length + 1) c5), ⟨hgr.os.trans (hdb.os.trans HB.out.os), hgr.tape.trans (hdb.tape.trans HB.out.tape), hgr.output.trans (hdb.output.trans HB.out.output), by rw [Deep.nblk_setCell]; have := HSZ.out; have := hgr.size; omega, fun b hb => (Deep.blk_setCell_other _ _ _ b (by show b ≠ w2.heap.size; omega)).trans ((hlow b (by omega)).trans (HB.out.block b hb))⟩, by rw [Deep.nblk_setCell]; have := HSZ.out; have := hgr.size; omega⟩
         clear hi hz0 hz1 hz2 hown hpush hdb hds hnb hownd hown2 hgr hnew hgb hnown hlow hbx2 hor5 hy1 hy2
         go_wp2_with fail
         go_region_law (refine step_append_run (by rfl) _ _ _ (by rfl) _ _ _ (by rfl) (by rfl) hrun ?_)
         all_goals
          go_wp2_with fail
          go_roundw
          case rel => exact ⟨k + 1, gs ++ [(nm, y1, y2)], (Value.slice a5 (gs.length + 1) c5), by go_num, by omega, Lib.hid HN.out.1, Lib.hid HN.out.2.1, Lib.hid HN.out.2.2.1, Lib.hid HN.out.2.2.2.1, Lib.hid HN.out.2.2.2.2.1, Lib.hid HN.out.2.2.2.2.2.1, Lib.hid HN.out.2.2.2.2.2.2.1, Lib.hid HN.out.2.2.2.2.2.2.2⟩
          case measure => simp [intOf]; omega
      ·obtain rfl : k = n := by omega
       obtain ⟨ga, gc, hgv, hsrt⟩ := grow_sort HOR.out (by rw [HGL.out, grpK_len]; exact Nat.le_trans (cntK_le ms k) (by omega)) HSZ.out
       subst hgv
       have k0 : wr.cell? ⟨w2.heap.size, 2, none⟩ = some (.slice ga gs.length gc) := by rw [Lib.cell_of_heap BX.out]; rfl
       have HSRT := Lib.hid hsrt
       clear hsrt
       go_wp2_with fail
       refine HSRT.out.mono ?_
       rintro e w5 ⟨rfl, hb5, hrw5⟩
       have hbx5 := (hb5.block _ (by omega)).trans BX.out
       have hbl : w.heap.size < w2.heap.size := heap_lt HBX2.out
       have hb2 : Below w2.heap.size w2 w5 := HB.out.trans (hb5.mono (Nat.le_add_right _ _))
       have hbr := (hb2.block _ hbl).trans HBX2.out
       have k1 : w5.cell? ⟨w2.heap.size, 0, none⟩ = some (.int .i64 (at_ : Int)) := by rw [Lib.cell_of_heap hbx5]; rfl
       have k2 : w5.cell? ⟨w2.heap.size, 1, none⟩ = some (.int .i64 (xe : Int)) := by rw [Lib.cell_of_heap hbx5]; rfl
       have k3 : w5.cell? ⟨w2.heap.size, 2, none⟩ = some (.slice ga gs.length gc) := by rw [Lib.cell_of_heap hbx5]; rfl
       have d0 : w5.cell? ⟨w.heap.size, 0, none⟩ = some (.int .i64 0) := by rw [Lib.cell_of_heap hbr]; rfl
       have d1 : w5.cell? ⟨w.heap.size, 1, none⟩ = some (.int .i64 0) := by rw [Lib.cell_of_heap hbr]; rfl
       have d2 : w5.cell? ⟨w.heap.size, 2, none⟩ = some (.slice none 0 0) := by rw [Lib.cell_of_heap hbr]; rfl
       have z0 := frz0 hbr 0
       have z1 := frz0 hbr 1
       have z2 := frz0 hbr 2
       have HBR := Lib.hid hbr
       have HB2 := Lib.hid hb2
       have HGN : Hid (gs.length = cntK ms k) := Lib.hid (by rw [HGL.out, grpK_len])
       have HRW5 : Hid (∀ v0 v1 v2 : Value, RW (fun b => w.heap.size < b) 3 GrR (((w5.setCell ⟨w.heap.size, 0, none⟩ v0).setCell ⟨w.heap.size, 1, none⟩ v1).setCell ⟨w.heap.size, 2, none⟩ v2) (mgrp t ms) (.slice ga (Mt.cntM k ms) gc)) := Lib.hid (fun v0 v1 v2 => by
        have hs3 := ((SrtP.set w5 w.heap.size 0 v0).trans (SrtP.set _ w.heap.size 1 v1)).trans (SrtP.set _ w.heap.size 2 v2)
        have h5 := hrw5.go (F' := fun b => w.heap.size < b) ⟨hs3.size, fun b hb hl => ⟨by have : w2.heap.size + 4 ≤ b := hb; show w.heap.size < b; omega, hs3.block b hl (by have : w2.heap.size + 4 ≤ b := hb; omega)⟩⟩ (fun _ _ h => h)
        rw [HGN.out] at h5
        unfold mgrp
        rw [HNN.out, ← HGL.out]
        exact h5)
       clear hb5 hbx5 hbl hb2 hbr hrw5
       go_wp2_with fail
       refine agg_ret2 (cs := [.int .i64 (at_ : Int), .int .i64 (xe : Int), .slice ga gs.length gc]) (by rfl) rfl (by rfl) (set_at (set_at (set_at HBR.out 0 _) 1 _) 2 _) Tryz.underlying80 rfl (by kernel_rfl) ?_
       refine ⟨HFIN.out _ ((SrtP.of_below HB2.out).trans (((SrtP.set _ _ _ _).trans (SrtP.set _ _ _ _)).trans (SrtP.set _ _ _ _))), ga, gc, ?_, HRW5.out _ _ _⟩
       rw [HGN.out]
       rfl
end Go.Proofs.YtmpbjaodgajnfaaGreatDoor

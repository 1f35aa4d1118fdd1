/-
 Joined: MtCk, MtCj, MtCi, MtCl, MtCp, PatP, Facts, PatR.
-/
import Derived.Test.YtihdnlpelfgklaaDoorMcH
import Derived.Test.YtihdnlpelfgklaaDoorMcE
import Derived.BigRegion
import Derived.Orders
import Derived.RegionTactic
import Derived.Laws.IdiomStrings
namespace Go.Proofs.YtihdnlpelfgklaaDoor
open Go.RowKit Go.Sort Go.Shelf
def flg (n : Nat) (p : List Mt.Mk) (b : Bool) : List Bool := (List.range n).map fun i => (Mt.fstM p b i).isSome
theorem flg_len (n : Nat) (p : List Mt.Mk) (b : Bool) : (flg n p b).length = n := by simp [flg]
theorem flg_at {n : Nat} {p : List Mt.Mk} {b : Bool} {c : Nat} (h : c < (flg n p b).length) : (flg n p b)[c] = (Mt.fstM p b c).isSome := by
 simp only [flg, List.getElem_map, List.getElem_range]
theorem flg_nil (n : Nat) (b : Bool) : flg n [] b = List.replicate n false := by
 unfold flg
 apply List.ext_getElem
 ·simp
 ·intro i h1 h2
  simp [Mt.fstM]
theorem flg_set {n : Nat} {p : List Mt.Mk} {b : Bool} {c a : Nat} : (flg n p b).set c true = flg n (p ++ [(b, c, a)]) b := by
 unfold flg
 apply List.ext_getElem
 ·simp
 ·intro i h1 h2
  rw [List.getElem_set]
  simp only [List.getElem_map, List.getElem_range]
  rw [Mt.fstM_snoc]
  by_cases e : c = i
  ·subst e; simp
  ·simp [e]
theorem flg_same {n : Nat} {p : List Mt.Mk} {b : Bool} {c a : Nat} (h : (Mt.fstM p b c).isSome = true) : flg n (p ++ [(b, c, a)]) b = flg n p b := by
 unfold flg
 apply List.map_congr_left
 intro i _
 rw [Mt.fstM_snoc]
 by_cases e : c = i
 ·subst e; rw [h]; rfl
 ·simp [e]
theorem flg_other {n : Nat} {p : List Mt.Mk} {b b' : Bool} {c a : Nat} (h : b' ≠ b) : flg n (p ++ [(b', c, a)]) b = flg n p b := by
 unfold flg
 apply List.map_congr_left
 intro i _
 rw [Mt.fstM_snoc]
 simp [h]
def cntK (ms : List Mt.Mk) (k : Nat) : Nat := ((List.range k).filter fun i => (Mt.fstM ms true i).isSome && (Mt.fstM ms false i).isSome).length
theorem cntK_succ (ms : List Mt.Mk) (k : Nat) : cntK ms (k + 1) = cntK ms k + if ((Mt.fstM ms true k).isSome && (Mt.fstM ms false k).isSome) = true then 1 else 0 := by
 unfold cntK
 rw [List.range_succ, List.filter_append, List.length_append]
 congr 1
 simp only [List.filter_cons, List.filter_nil]
 split <;> rfl
theorem cntK_le (ms : List Mt.Mk) : ∀ k, cntK ms k ≤ k
 | 0 => Nat.zero_le _
 | k + 1 => by
  have := cntK_le ms k
  rw [cntK_succ]
  split <;> omega
theorem BoB.other {w : World} {b b' o : Nat} {v : Value} {bs : List Bool} (h : BoB w b bs) (hne : b ≠ b') : BoB (w.setCell ⟨b', o, none⟩ v) b bs := (Deep.blk_setCell_other _ _ _ b hne).trans h
theorem SpB.other {w : World} {b b' o : Nat} {v : Value} {xs : List Int} (h : SpB w b xs) (hne : b ≠ b') : SpB (w.setCell ⟨b', o, none⟩ v) b xs := (Deep.blk_setCell_other _ _ _ b hne).trans h
def GrR (x : Grp) (us : List Value) : Prop := us = encG x
theorem infoG : (Tryd.prog.info? 85).map (fun i => (i.zero, i.size, i.bytes)) = some (some (.agg #[.string ⟨#[]⟩, .int .i64 0, .int .i64 0]), 3, 32) := by kernel_rfl
theorem flat_map (gs : List Grp) (uss : List (List Value)) (hl : uss.length = gs.length) (h : ∀ i (h : i < gs.length) (h' : i < uss.length), uss[i].length = 3 ∧ GrR gs[i] uss[i]) : uss = gs.map encG := by
 apply List.ext_getElem
 ·simp [hl]
 ·intro i h1 h2
  rw [List.getElem_map]
  exact (h i (by omega) h1).2
theorem gins_nil (w : World) (q : Option Addr) (c : Nat) : Calls Tryd.prog 67 #[.slice q 0 c, .int .i64 0, .int .i64 0, .func (.func 35) #[] #[]] w fun e w' => e = .returned (.tuple #[]) ∧ w' = w := by
 go_enter Tryd.func67, Tryd.ntmps67
 go_wp2_with fail
 refine wp_loop_rounds 1 ?_
 rw [rounds_succ]
 go_wp2_with fail
 go_end0
 exact ⟨rfl, rfl⟩
theorem gsort_nil (w : World) (q : Option Addr) (c : Nat) : Calls Tryd.prog 34 #[.slice q 0 c, .func (.func 35) #[] #[]] w fun e w' => e = .returned (.tuple #[]) ∧ w' = w := by
 have HI : Hid (Calls Tryd.prog 52 #[.slice q 0 c, .int .i64 0, .func (.func 35) #[] #[]] w fun e w' => e = .returned (.tuple #[]) ∧ w' = w) := Lib.hid (by
  have HJ := Lib.hid (gins_nil w q c)
  go_enter Tryd.func52, Tryd.ntmps52
  go_wp2_with fail
  refine wp_loop_rounds 1 ?_
  rw [rounds_succ]
  go_wp2_with (go_at_call 67; refine HJ.out.mono ?_; rintro e w' ⟨rfl, rfl⟩)
  refine wp_loop_rounds 1 ?_
  rw [rounds_succ]
  go_wp2_with fail
  go_end0
  exact ⟨rfl, rfl⟩)
 go_enter Tryd.func34, Tryd.ntmps34
 go_wp2_with (go_at_call 52; refine HI.out.mono ?_; rintro e w' ⟨rfl, rfl⟩)
 go_end0
 exact ⟨rfl, rfl⟩
theorem grow_sort {w : World} {B : Nat} {gs : List Grp} {gv : Value} (h : OR B 85 3 GrR w gs gv) (hl : gs.length ≤ 16) (hB : B ≤ w.heap.size) : ∃ a c, gv = .slice a gs.length c ∧
  Calls Tryd.prog 34 #[gv, .func (.func 35) #[] #[]] w fun e w' => e = .returned (.tuple #[]) ∧ Below B w w' := by
 obtain ⟨⟨uss, hlen, hel, _, ⟨h1, h2⟩ | ⟨q, cap, cur, h1, hq, hg, hnc, hcm, hcs, htk⟩⟩, hs⟩ := h
 ·refine ⟨none, 0, by rw [h1, h2], ?_⟩
  rw [h1]
  exact (gsort_nil w none 0).mono fun e w' ⟨h3, h4⟩ => ⟨h3, by rw [h4]; exact Below.refl _ _⟩
 ·subst h1
  have huss := flat_map gs uss hlen hel
  refine ⟨some ⟨q, 0, none⟩, cap, rfl, ?_⟩
  have hH : HoldsK encG 3 w q 0 gs.toArray := by
   intro t ht
   rw [size_flatK] at ht
   have ht' : t < gs.length * 3 := by simpa using ht
   rw [Nat.zero_add, get_flatK encG 3 gs.toArray t ht]
   refine ⟨?_, frz0 hg t⟩
   rw [Lib.cell_of_heap hg]
   have hd : t / 3 < gs.length := by omega
   have e := flat_at 3 uss (fun u hu => by obtain ⟨j, hj, rfl⟩ := List.getElem_of_mem hu; exact (hel j (by omega) hj).1) (t / 3) (t % 3) (by omega) (by omega)
   rw [show t / 3 * 3 + t % 3 = t by omega, ← htk, List.getElem?_take_of_lt ht'] at e
   have e1 : gs.toArray[t / 3]! = gs[t / 3] := by rw [getElem!_pos _ _ (by simpa using hd)]; simp
   rw [e1]
   have h3 := (hel (t / 3) hd (by omega)).2
   unfold GrR at h3
   rw [h3] at e
   have e2 : (encG gs[t / 3])[t % 3]? = some (encG gs[t / 3])[t % 3]! := by
    rw [List.getElem!_eq_getElem?_getD]
    have : t % 3 = 0 ∨ t % 3 = 1 ∨ t % 3 = 2 := by omega
    rcases this with e | e | e <;> rw [e] <;> rfl
   rw [e2] at e
   simpa using e
  have := gsort_any q 0 cap gs.toArray w hH (heap_lt hg) (by simpa using Nat.le_trans hl (by decide))
  simp only [List.size_toArray] at this
  exact this.mono fun e w' ⟨h3, h4⟩ => ⟨h3, h4.os, h4.tape, h4.output, h4.size, fun b hb => h4.block b (by omega) (by omega)⟩
end Go.Proofs.YtihdnlpelfgklaaDoor
namespace Go.Proofs.YtihdnlpelfgklaaDoor.Mt
def Op9 (l : List Ins) : Prop := ∀ i ∈ l, i.op ≤ 9
theorem Op9.nil : Op9 [] := fun i hi => by cases hi
theorem Op9.cons {i : Ins} {l : List Ins} (h : i.op ≤ 9) (k : Op9 l) : Op9 (i :: l) := fun j hj => by
 rcases List.mem_cons.1 hj with rfl | hj
 ·exact h
 ·exact k j hj
theorem Op9.app {l m : List Ins} (h : Op9 l) (k : Op9 m) : Op9 (l ++ m) := fun i hi => (List.mem_append.1 hi).elim (h i) (k i)
theorem times_op {f : Nat → List Nm → Cmp} (h : ∀ b ns, Op9 (f b ns).1) : ∀ n b ns, Op9 (times f n b ns).1
 | 0, _, _ => by rw [times]; exact Op9.nil
 | n + 1, b, ns => by rw [times]; exact (h b ns).app (times_op h n _ _)
theorem opts_op {f : Nat → List Nm → Cmp} (h : ∀ b ns, Op9 (f b ns).1) (E : Nat) : ∀ n b ns, Op9 (opts f E n b ns).1
 | 0, _, _ => by rw [opts]; exact Op9.nil
 | n + 1, b, ns => by
  rw [opts]
  exact Op9.app (Op9.cons (by simp) (h _ _)) (opts_op h E n _ _)
mutual
theorem compN_op : ∀ t : NT, ∀ b ns, Op9 (compN t b ns).1
 | .node op rs nm kids mn mx, b, ns => by
  rw [compN]
  by_cases h1 : op = 1
  ·rw [if_pos h1]; exact Op9.cons (by simp) Op9.nil
  rw [if_neg h1]
  by_cases h6 : op = 6
  ·rw [if_pos h6]; exact Op9.cons (by simp) Op9.nil
  rw [if_neg h6]
  by_cases h7 : op = 7
  ·rw [if_pos h7]; exact Op9.cons (by simp) Op9.nil
  rw [if_neg h7]
  by_cases h2 : op = 2
  ·rw [if_pos h2]; exact compL_op kids b ns
  rw [if_neg h2]
  by_cases h3 : op = 3
  ·rw [if_pos h3]; exact compA_op _ kids b ns
  rw [if_neg h3]
  by_cases h5 : op = 5
  ·rw [if_pos h5]
   exact Op9.app (Op9.cons (by simp) (compH_op kids _ _)) (Op9.cons (by simp) Op9.nil)
  rw [if_neg h5]
  by_cases h4 : op = 4
  ·rw [if_pos h4]
   by_cases h0 : mx = 0
   ·rw [if_pos h0]; exact Op9.nil
   ·rw [if_neg h0]
    have ih := compH_op kids
    unfold rept
    split
    ·unfold star
     exact Op9.app (times_op ih _ _ _) (Op9.app (Op9.cons (by simp) (Op9.cons (by simp) (ih _ _))) (Op9.cons (by simp) (Op9.cons (by simp) Op9.nil)))
    ·exact Op9.app (times_op ih _ _ _) (opts_op ih _ _ _ _)
  ·rw [if_neg h4]; exact Op9.nil
theorem compH_op : ∀ ks : List NT, ∀ b ns, Op9 (compH ks b ns).1
 | [], b, ns => by rw [compH]; exact Op9.nil
 | k :: ks, b, ns => by rw [compH]; exact compN_op k b ns
theorem compL_op : ∀ ks : List NT, ∀ b ns, Op9 (compL ks b ns).1
 | [], b, ns => by rw [compL]; exact Op9.nil
 | k :: ks, b, ns => by
  rw [compL]
  exact (compN_op k b ns).app (compL_op ks _ _)
theorem compA_op (E : Nat) : ∀ ks : List NT, ∀ b ns, Op9 (compA E ks b ns).1
 | [], b, ns => by rw [compA]; exact Op9.nil
 | [k], b, ns => by rw [compA]; exact compN_op k b ns
 | k :: k2 :: ks, b, ns => by
  rw [compA_two]
  exact Op9.app (Op9.cons (by simp) (compN_op k _ _)) (Op9.cons (by simp) (compA_op E (k2 :: ks) _ _))
end
theorem progN_op (t : NT) (en : Bool) : Op9 (progN t en) := by
 unfold progN
 refine (compN_op t 0 []).app ?_
 cases en
 ·exact Op9.cons (by simp) Op9.nil
 ·exact Op9.cons (by simp) (Op9.cons (by simp) Op9.nil)
end Go.Proofs.YtihdnlpelfgklaaDoor.Mt
namespace Go.Proofs.YtihdnlpelfgklaaDoor
open Go.RowKit
set_option maxHeartbeats 16000000 in
set_option maxRecDepth 1000000 in
theorem match_any (t : NT) (en : Bool) (s : List UInt8) (g fa : Nat) (hck : ckE t = 0) (hco : Mt.costN t ≤ 4000) (hs : s.length ≤ 20000) (at_ : Nat) (ha : at_ ≤ s.length) (F : Nat → Prop) (w : World) (h : MaB t en s F g fa w) :
  Calls Tryd.prog 23 #[.pointer (some ⟨g, 0, none⟩), .int .i64 (at_ : Int)] w (MatP t en s F g fa at_ w) := by
 have hok := Mt.okC_okN t (Mt.ckE_okC hck)
 have hn16 := Mt.nsN_16 hck
 obtain ⟨FU, hfu⟩ := Mt.progN_way s t en at_ ha (Mt.nst t) (Nat.le_refl _)
 have hnst := Mt.nst_cost t hok hco
 have hpl := Mt.progN_len hok hco en
 obtain ⟨Wa, hWa⟩ : ∃ Wa, w.alloc (.cells #[.int .i64 0, .int .i64 0, .slice none 0 0] 39) = Wa := ⟨_, rfl⟩
 have hb : Below w.heap.size w Wa := by rw [← hWa]; exact (Below.refl _ _).alloc (Nat.le_refl _) _
 have hbx : Wa.heap[w.heap.size]? = some (.cells #[.int .i64 0, .int .i64 0, .slice none 0 0] 39 (0, 0)) := by rw [← hWa]; exact Deep.blk_alloc_new w _
 have ha1 := h.below hb
 have HFb : Hid (Fg F w Wa w.heap.size) := Lib.hid (.inr ⟨Nat.le_refl _, heap_lt hbx⟩)
 have HG1 : Hid (GoF F (Fg F w Wa) w Wa) := Lib.hid (GoF.below hb)
 have HR := Lib.hid (run_any (Mt.progN t en) s (Mt.nst t) g fa hs (by omega) (by omega) (Mt.progN_op t en) FU (Fg F w Wa) 0 at_ 0 [] (.pointer none) Wa _ ha1.mb ha1.ft rfl ha hfu)
 have HM := Lib.hid ha1
 have HM0 := Lib.hid h
 have HBX := Lib.hid hbx
 have HLT := Lib.hid (fun (x : Nat × List Mt.Mk) (hx : Mt.matR s t en at_ = some x) => Mt.matR_lt hx)
 unfold MatP
 obtain ⟨r, hr⟩ : ∃ r, Mt.matR s t en at_ = r := ⟨_, rfl⟩
 rw [hr] at HR HLT ⊢
 obtain ⟨n, hn⟩ : ∃ n, (Mt.nsN t []).length = n := ⟨_, rfl⟩
 have HNN := Lib.hid hn
 rw [hn] at HLT hn16 ⊢
 clear h hck hco hb hbx ha1 hfu hpl hnst hok hr hn
 generalize Fg F w Wa = F1 at HR HM HFb HG1
 go_enter Tryd.func23, Tryd.ntmps23
 go_wp2_with fail
 refine HR.out.mono ?_
 rintro e w2 ⟨F2, hg2, hf2, he⟩
 have HM2 := Lib.hid (HM.out.go hg2 hf2)
 have HBX2 := Lib.hid (hg2.blk HFb.out HBX.out)
 have HFIN := Lib.hid (fun (W : World) (hW : SrtP w.heap.size w2 W) => HM0.out.fin (HG1.out.trans hg2) hf2 (hg2.mono _ HFb.out) hW)
 have d0 : w2.cell? ⟨w.heap.size, 0, none⟩ = some (.int .i64 0) := by rw [Lib.cell_of_heap HBX2.out]; rfl
 have d1 : w2.cell? ⟨w.heap.size, 1, none⟩ = some (.int .i64 0) := by rw [Lib.cell_of_heap HBX2.out]; rfl
 have d2 : w2.cell? ⟨w.heap.size, 2, none⟩ = some (.slice none 0 0) := by rw [Lib.cell_of_heap HBX2.out]; rfl
 have z0 := frz0 HBX2.out 0
 have z1 := frz0 HBX2.out 1
 have z2 := frz0 HBX2.out 2
 clear hg2 hf2 HR HM HFb HG1
 cases r with
 | none =>
  simp only at he
  subst he
  go_wp2_with fail
  refine agg_ret2 (cs := [.int .i64 0, .int .i64 0, .slice none 0 0]) (by rfl) rfl (by rfl) (set_at (set_at (set_at HBX2.out 0 _) 1 _) 2 _) Tryd.underlying39 rfl (by kernel_rfl) ?_
  exact ⟨HFIN.out _ (((SrtP.set _ _ _ _).trans (SrtP.set _ _ _ _)).trans (SrtP.set _ _ _ _)), rfl⟩
 | some x =>
  obtain ⟨xe, ms⟩ := x
  simp only at he
  obtain ⟨v, rfl, hmk⟩ := he
  rw [List.append_nil] at hmk
  have HMS := Lib.hid hmk
  have HLT2 := Lib.hid (HLT.out _ rfl)
  obtain ⟨nv, hnc, hnr⟩ := HM2.out.nm
  have hgl : g < w2.heap.size := HM2.out.mb.lt
  have hnr2 := hnr
  obtain ⟨na, nc, rfl, hnn, hne⟩ := hnr
  rw [HNN.out] at hnc hnr2
  have HNR := Lib.hid hnr2
  clear hmk hnn hne hnr2 HLT HM2
  obtain ⟨Wx, hWx⟩ : ∃ Wx, w2.alloc (.cells #[.int .i64 (at_ : Int), .int .i64 (xe : Int), .slice none 0 0] 39) = Wx := ⟨_, rfl⟩
  have hsx : Wx.heap.size = w2.heap.size + 1 := by rw [← hWx]; exact Deep.nblk_alloc _ _
  have hbx : Below w2.heap.size w2 Wx := by rw [← hWx]; exact (Below.refl _ _).alloc (Nat.le_refl _) _
  have hxx : Wx.heap[w2.heap.size]? = some (.cells #[.int .i64 (at_ : Int), .int .i64 (xe : Int), .slice none 0 0] 39 (0, 0)) := by rw [← hWx]; exact Deep.blk_alloc_new _ _
  have k2 : Wx.cell? ⟨w2.heap.size, 2, none⟩ = some (.slice none 0 0) := by rw [Lib.cell_of_heap hxx]; rfl
  have f2 := frz0 hxx 2
  have hst : Wx.setCell ⟨w2.heap.size, 2, none⟩ (.slice none 0 0) = Wx := by rw [← hWx]; simp [go_sem]
  have n1 := (hbx.cell (p := ⟨g, 1, none⟩) hgl).trans hnc
  obtain ⟨Ws, hWs⟩ : ∃ Ws, Wx.alloc (.cells ((List.replicate (n * 2) (0 : Int)).map fun x => Value.int .i64 x).toArray 36) = Ws := ⟨_, rfl⟩
  have hss : Ws.heap.size = w2.heap.size + 2 := by rw [← hWs, Deep.nblk_alloc, hsx]
  have hbs : Below w2.heap.size w2 Ws := by rw [← hWs]; exact hbx.alloc hbx.size _
  have hms := make_sp n (by omega) Wx
  rw [hWs, hsx] at hms
  have n2 := (hbs.cell (p := ⟨g, 1, none⟩) hgl).trans hnc
  obtain ⟨Wo, hWo⟩ : ∃ Wo, Ws.drew.alloc (.cells ((List.replicate n false).map fun x => Value.bool x).toArray 4) = Wo := ⟨_, rfl⟩
  have hso : Wo.heap.size = w2.heap.size + 3 := by rw [← hWo, Deep.nblk_alloc]; show Ws.heap.size + 1 = _; omega
  have hbo : Below w2.heap.size w2 Wo := by rw [← hWo]; exact hbs.drew.alloc (by show _ ≤ Ws.heap.size; omega) _
  have hmo := make_bo n (by omega) Ws.drew
  rw [hWo, show Ws.drew.heap.size = w2.heap.size + 2 from hss] at hmo
  have n3 := (hbo.cell (p := ⟨g, 1, none⟩) hgl).trans hnc
  obtain ⟨Wc, hWc⟩ : ∃ Wc, Wo.alloc (.cells ((List.replicate n false).map fun x => Value.bool x).toArray 4) = Wc := ⟨_, rfl⟩
  have hbc : Below w2.heap.size w2 Wc := by rw [← hWc]; exact hbo.alloc hbo.size _
  have hmc := make_bo n (by omega) Wo
  rw [hWc, hso] at hmc
  have hsc : Wc.heap.size = w2.heap.size + 4 := by rw [← hWc, Deep.nblk_alloc, hso]
  have hgc : ∀ k, k < w2.heap.size + 3 → Wc.heap[k]? = Wo.heap[k]? := fun k hk => by
   rw [← hWc]
   exact Deep.blk_alloc_lt _ _ _ (by rw [hso]; exact hk)
  have hgo : ∀ k, k < w2.heap.size + 2 → Wo.heap[k]? = Ws.heap[k]? := fun k hk => by
   rw [← hWo]
   exact Deep.blk_alloc_lt Ws.drew _ _ (by show _ < Ws.heap.size; rw [hss]; exact hk)
  have hgs : ∀ k, k < w2.heap.size + 1 → Ws.heap[k]? = Wx.heap[k]? := fun k hk => by
   rw [← hWs]
   exact Deep.blk_alloc_lt _ _ _ (by rw [hsx]; exact hk)
  have B1 : Hid (BoB Wc (w2.heap.size + 3) (List.replicate n false)) := Lib.hid (by unfold BoB; rw [← hWc, ← hso]; exact Deep.blk_alloc_new _ _)
  have B2 : Hid (BoB Wc (w2.heap.size + 2) (List.replicate n false)) := Lib.hid (by unfold BoB; rw [hgc _ (by omega), ← hWo, ← show Ws.drew.heap.size = w2.heap.size + 2 from hss]; exact Deep.blk_alloc_new _ _)
  have B3 : Hid (SpB Wc (w2.heap.size + 1) (List.replicate (n * 2) 0)) := Lib.hid (by unfold SpB; rw [hgc _ (by omega), hgo _ (by omega), ← hWs, ← hsx]; exact Deep.blk_alloc_new _ _)
  have B4 : Hid (Wc.heap[w2.heap.size]? = some (.cells #[.int .i64 (at_ : Int), .int .i64 (xe : Int), .slice none 0 0] 39 (0, 0))) := Lib.hid (by rw [hgc _ (by omega), hgo _ (by omega), hgs _ (by omega)]; exact hxx)
  have HBC := Lib.hid hbc
  have HSC := Lib.hid hsc
  clear hsx hbx hxx hss hbs hso hbo hbc hsc hgc hgo hgs
  go_wp2_with fail
  go_region
  ·go_wp2_with fail
   go_loopw [13] (fun v wr => ∃ (p q : List Mt.Mk) (sp : List Int), Hid (ms = p ++ q) ∧ Hid (MkAt F2 w2 q v) ∧ Hid (SpB wr (w2.heap.size + 1) sp) ∧ Hid (sp.length = n * 2) ∧ Hid (BoB wr (w2.heap.size + 2) (flg n p true)) ∧ Hid (BoB wr (w2.heap.size + 3) (flg n p false)) ∧ Hid (wr.heap[w2.heap.size]? = some (.cells #[.int .i64 (at_ : Int), .int .i64 (xe : Int), .slice none 0 0] 39 (0, 0))) ∧ Hid (Below w2.heap.size w2 wr) ∧ Hid (wr.heap.size = w2.heap.size + 4)) (fun v _ => mkLen ms.length w2 v)
   case atStart => exact ⟨[], ms, List.replicate (n * 2) 0, Lib.hid rfl, HMS, B3, Lib.hid (by simp), Lib.hid (by rw [flg_nil]; exact B2.out), Lib.hid (by rw [flg_nil]; exact B1.out), B4, HBC, HSC⟩
   case round =>
    obtain ⟨p, q, sp, HPQ, HQ, BS, HSP, BFtrue, BFfalse, BX, HB, HSZ⟩ := hrel
    cases q with
    | cons m q =>
     obtain ⟨m1, c, at1⟩ := m
     obtain ⟨b, v', hu, hbl, hF, c0, c1, c2, c3, hq'⟩ := HQ.out.cells
     subst hu
     have hcn : c < n := HLT2.out (m1, c, at1) (by rw [HPQ.out]; simp)
     have HQ2 := Lib.hid hq'
     have e0 := (HB.out.cell (p := ⟨b, 0, none⟩) hbl).trans c0
     have e1 := (HB.out.cell (p := ⟨b, 1, none⟩) hbl).trans c1
     have e2 := (HB.out.cell (p := ⟨b, 2, none⟩) hbl).trans c2
     have e3 := (HB.out.cell (p := ⟨b, 3, none⟩) hbl).trans c3
     have hbw : b < wr.heap.size := Nat.lt_of_lt_of_le hbl HB.out.size
     simp only at e0 e1 e2 e3
     clear c0 c1 c2 c3 hq' hF
     cases m1 with
     | true =>
      have hcb : c < (flg n p true).length := by rw [flg_len]; exact hcn
      have q1 := BFtrue.out.cell hcb
      rw [flg_at] at q1
      cases hfl : (Mt.fstM p true c).isSome with
      | true =>
       rw [hfl] at q1
       have HFL := Lib.hid hfl
       clear hfl hcb
       go_wp2_with fail
       go_roundw
       case rel => exact ⟨p ++ [(true, c, at1)], q, sp, Lib.hid (by rw [HPQ.out]; simp), HQ2, BS, HSP, Lib.hid (by rw [flg_same HFL.out]; exact BFtrue.out), Lib.hid (by rw [flg_other (by decide)]; exact BFfalse.out), BX, HB, HSZ⟩
       case measure =>
        have h1 := congrArg List.length HPQ.out
        simp only [List.length_append, List.length_cons] at h1
        rw [mkLen_at q _ v' HQ2.out (by omega), mkLen_at _ _ _ HQ.out (by simp; omega)]
        simp
      | false =>
       rw [hfl] at q1
       have hsi : c * 2 < sp.length := by rw [HSP.out]; omega
       have q2 := BS.out.cell hsi
       have f1 := frz0 BFtrue.out c
       have f2 := frz0 BS.out (c * 2)
       have HS2 : Hid (BoB ((wr.setCell ⟨w2.heap.size + 1, c * 2, none⟩ (.int .i64 (at1 : Int))).setCell ⟨w2.heap.size + 2, c, none⟩ (.bool true)) (w2.heap.size + 2) ((flg n p true).set c true) ∧ SpB ((wr.setCell ⟨w2.heap.size + 1, c * 2, none⟩ (.int .i64 (at1 : Int))).setCell ⟨w2.heap.size + 2, c, none⟩ (.bool true)) (w2.heap.size + 1) (sp.set (c * 2) (at1 : Int)) ∧ BoB ((wr.setCell ⟨w2.heap.size + 1, c * 2, none⟩ (.int .i64 (at1 : Int))).setCell ⟨w2.heap.size + 2, c, none⟩ (.bool true)) (w2.heap.size + 3) (flg n p false) ∧ ((wr.setCell ⟨w2.heap.size + 1, c * 2, none⟩ (.int .i64 (at1 : Int))).setCell ⟨w2.heap.size + 2, c, none⟩ (.bool true)).heap[w2.heap.size]? = some (.cells #[.int .i64 (at_ : Int), .int .i64 (xe : Int), .slice none 0 0] 39 (0, 0)) ∧ Below w2.heap.size w2 ((wr.setCell ⟨w2.heap.size + 1, c * 2, none⟩ (.int .i64 (at1 : Int))).setCell ⟨w2.heap.size + 2, c, none⟩ (.bool true))) := Lib.hid ⟨(BFtrue.out.other (b' := w2.heap.size + 1) (by omega)).set c true, (BS.out.set (c * 2) (at1 : Int)).other (b' := w2.heap.size + 2) (by omega), (BFfalse.out.other (b' := w2.heap.size + 1) (by omega)).other (b' := w2.heap.size + 2) (by omega), (Deep.blk_setCell_other _ _ _ _ (by show w2.heap.size ≠ w2.heap.size + 2; omega)).trans ((Deep.blk_setCell_other _ _ _ _ (by show w2.heap.size ≠ w2.heap.size + 1; omega)).trans BX.out), (HB.out.setCell (p := ⟨w2.heap.size + 1, c * 2, none⟩) (by show w2.heap.size ≤ w2.heap.size + 1; omega) _).setCell (p := ⟨w2.heap.size + 2, c, none⟩) (by show w2.heap.size ≤ w2.heap.size + 2; omega) _⟩
       have i1 : (c : Int) < (n : Int) := by omega
       have i2 : (0 : Int) ≤ (c : Int) := by omega
       clear hfl hcb
       go_wp2_with fail
       go_region
       all_goals
        go_wp2_with fail
        go_roundw
        case rel => exact ⟨p ++ [(true, c, at1)], q, sp.set (c * 2) (at1 : Int), Lib.hid (by rw [HPQ.out]; simp), HQ2, Lib.hid HS2.out.2.1, Lib.hid (by rw [List.length_set]; exact HSP.out), Lib.hid (by rw [← flg_set]; exact HS2.out.1), Lib.hid (by rw [flg_other (by decide)]; exact HS2.out.2.2.1), Lib.hid HS2.out.2.2.2.1, Lib.hid HS2.out.2.2.2.2.drew, Lib.hid (by simp [World.drew, HSZ.out])⟩
        case measure =>
         have h1 := congrArg List.length HPQ.out
         simp only [List.length_append, List.length_cons] at h1
         rw [mkLen_at q _ v' HQ2.out (by omega), mkLen_at _ _ _ HQ.out (by simp; omega)]
         simp
     | false =>
      have hcb : c < (flg n p false).length := by rw [flg_len]; exact hcn
      have q1 := BFfalse.out.cell hcb
      rw [flg_at] at q1
      cases hfl : (Mt.fstM p false c).isSome with
      | true =>
       rw [hfl] at q1
       have HFL := Lib.hid hfl
       clear hfl hcb
       go_wp2_with fail
       go_roundw
       case rel => exact ⟨p ++ [(false, c, at1)], q, sp, Lib.hid (by rw [HPQ.out]; simp), HQ2, BS, HSP, Lib.hid (by rw [flg_other (by decide)]; exact BFtrue.out), Lib.hid (by rw [flg_same HFL.out]; exact BFfalse.out), BX, HB, HSZ⟩
       case measure =>
        have h1 := congrArg List.length HPQ.out
        simp only [List.length_append, List.length_cons] at h1
        rw [mkLen_at q _ v' HQ2.out (by omega), mkLen_at _ _ _ HQ.out (by simp; omega)]
        simp
      | false =>
       rw [hfl] at q1
       have hsi : c * 2 + 1 < sp.length := by rw [HSP.out]; omega
       have q2 := BS.out.cell hsi
       have f1 := frz0 BFfalse.out c
       have f2 := frz0 BS.out (c * 2 + 1)
       have HS2 : Hid (BoB ((wr.setCell ⟨w2.heap.size + 1, c * 2 + 1, none⟩ (.int .i64 (at1 : Int))).setCell ⟨w2.heap.size + 3, c, none⟩ (.bool true)) (w2.heap.size + 3) ((flg n p false).set c true) ∧ SpB ((wr.setCell ⟨w2.heap.size + 1, c * 2 + 1, none⟩ (.int .i64 (at1 : Int))).setCell ⟨w2.heap.size + 3, c, none⟩ (.bool true)) (w2.heap.size + 1) (sp.set (c * 2 + 1) (at1 : Int)) ∧ BoB ((wr.setCell ⟨w2.heap.size + 1, c * 2 + 1, none⟩ (.int .i64 (at1 : Int))).setCell ⟨w2.heap.size + 3, c, none⟩ (.bool true)) (w2.heap.size + 2) (flg n p true) ∧ ((wr.setCell ⟨w2.heap.size + 1, c * 2 + 1, none⟩ (.int .i64 (at1 : Int))).setCell ⟨w2.heap.size + 3, c, none⟩ (.bool true)).heap[w2.heap.size]? = some (.cells #[.int .i64 (at_ : Int), .int .i64 (xe : Int), .slice none 0 0] 39 (0, 0)) ∧ Below w2.heap.size w2 ((wr.setCell ⟨w2.heap.size + 1, c * 2 + 1, none⟩ (.int .i64 (at1 : Int))).setCell ⟨w2.heap.size + 3, c, none⟩ (.bool true))) := Lib.hid ⟨(BFfalse.out.other (b' := w2.heap.size + 1) (by omega)).set c true, (BS.out.set (c * 2 + 1) (at1 : Int)).other (b' := w2.heap.size + 3) (by omega), (BFtrue.out.other (b' := w2.heap.size + 1) (by omega)).other (b' := w2.heap.size + 3) (by omega), (Deep.blk_setCell_other _ _ _ _ (by show w2.heap.size ≠ w2.heap.size + 3; omega)).trans ((Deep.blk_setCell_other _ _ _ _ (by show w2.heap.size ≠ w2.heap.size + 1; omega)).trans BX.out), (HB.out.setCell (p := ⟨w2.heap.size + 1, c * 2 + 1, none⟩) (by show w2.heap.size ≤ w2.heap.size + 1; omega) _).setCell (p := ⟨w2.heap.size + 3, c, none⟩) (by show w2.heap.size ≤ w2.heap.size + 3; omega) _⟩
       have i1 : (c : Int) < (n : Int) := by omega
       have i2 : (0 : Int) ≤ (c : Int) := by omega
       clear hfl hcb
       go_wp2_with fail
       go_region
       all_goals
        go_wp2_with fail
        go_roundw
        case rel => exact ⟨p ++ [(false, c, at1)], q, sp.set (c * 2 + 1) (at1 : Int), Lib.hid (by rw [HPQ.out]; simp), HQ2, Lib.hid HS2.out.2.1, Lib.hid (by rw [List.length_set]; exact HSP.out), Lib.hid (by rw [flg_other (by decide)]; exact HS2.out.2.2.1), Lib.hid (by rw [← flg_set]; exact HS2.out.1), Lib.hid HS2.out.2.2.2.1, Lib.hid HS2.out.2.2.2.2.drew, Lib.hid (by simp [World.drew, HSZ.out])⟩
        case measure =>
         have h1 := congrArg List.length HPQ.out
         simp only [List.length_append, List.length_cons] at h1
         rw [mkLen_at q _ v' HQ2.out (by omega), mkLen_at _ _ _ HQ.out (by simp; omega)]
         simp
    | nil =>
     obtain rfl : u13 = .pointer none := HQ.out
     have hpq := HPQ.out
     rw [List.append_nil] at hpq
     subst hpq
     have n4 := (HB.out.cell (p := ⟨g, 1, none⟩) hgl).trans hnc
     have HSZ2 : Hid (w2.heap.size + 4 ≤ wr.heap.size) := Lib.hid (by rw [HSZ.out]; exact Nat.le_refl _)
     clear HSZ HQ HPQ B1 B2 B3 B4 HBC HSC n1 n2 n3 hms hmo hmc hWx hWs hWo hWc k2 f2 hst
     go_wp2_with fail
     go_loopw [129] (fun i wr => ∃ (k : Nat) (gs : List Grp) (gv : Value), i = .int .i64 (k : Int) ∧ k ≤ n ∧ Hid (gs.length = cntK ms k) ∧ Hid (OR (w2.heap.size + 4) 85 3 GrR wr gs gv) ∧ Hid (SpB wr (w2.heap.size + 1) sp) ∧ Hid (BoB wr (w2.heap.size + 2) (flg n ms true)) ∧ Hid (BoB wr (w2.heap.size + 3) (flg n ms false)) ∧ Hid (wr.heap[w2.heap.size]? = some (.cells #[.int .i64 (at_ : Int), .int .i64 (xe : Int), gv] 39 (0, 0))) ∧ Hid (Below w2.heap.size w2 wr) ∧ Hid (w2.heap.size + 4 ≤ wr.heap.size)) (fun i _ => n - (intOf i).toNat)
     case atStart => exact ⟨0, [], .slice none 0 0, rfl, Nat.zero_le _, Lib.hid rfl, Lib.hid OR.nil, BS, BFtrue, BFfalse, BX, HB, HSZ2⟩
     case round =>
      obtain ⟨k, gs, gv, rfl, hkn, HGL, HOR, BS, BT, BF, BX, HB, HSZ⟩ := hrel
      by_cases hlt : k < n
      ·obtain ⟨na', nc', hnv, _, hnk⟩ := HNR.out
       have hkk : k < (Mt.nsN t []).length := by rw [HNN.out]; exact hlt
       obtain ⟨nb, no, hna, hnbl, _, hncc⟩ := hnk (by omega)
       obtain ⟨us, hus1, hus2, hus3⟩ := hncc k hkk
       injection hnv with hnv1 hnv2 hnv3
       subst hna
       subst hnv1
       unfold StrR at hus3
       subst hus3
       have s0 := (HB.out.cell (p := ⟨nb, no + k * 1 + 0, none⟩) hnbl).trans (hus2 0 (by decide))
       obtain ⟨nm, hnm⟩ : ∃ nm, (Mt.nsN t [])[k] = nm := ⟨_, rfl⟩
       rw [hnm] at s0
       simp only [Nat.mul_one, Nat.add_zero, List.getElem?_cons_zero] at s0
       have hbw : nb < wr.heap.size := Nat.lt_of_lt_of_le hnbl HB.out.size
       have i1 : (k : Int) < (n : Int) := by omega
       have i2 : (0 : Int) ≤ (k : Int) := by omega
       have t1 : k < (flg n ms true).length := by rw [flg_len]; exact hlt
       have t2 : k < (flg n ms false).length := by rw [flg_len]; exact hlt
       have q1 := BT.out.cell t1
       have q2 := BF.out.cell t2
       rw [flg_at] at q1 q2
       have hcs := cntK_succ ms k
       clear hnv2 hnv3 hnk hncc hus1 hus2 hnm t1 t2 hkk
       cases hA : (Mt.fstM ms true k).isSome with
       | false =>
        rw [hA] at q1 hcs
        simp only [Bool.false_and, Bool.false_eq_true, if_false, Nat.add_zero] at hcs
        have HCS := Lib.hid hcs
        clear hA hcs
        go_wp2_with fail
        go_roundw
        case rel => exact ⟨k + 1, gs, gv, by go_num, by omega, Lib.hid (by rw [HCS.out]; exact HGL.out), HOR, BS, BT, BF, BX, HB, HSZ⟩
        case measure => simp [intOf]; omega
       | true =>
        cases hB : (Mt.fstM ms false k).isSome with
        | false =>
         rw [hA] at q1
         rw [hB] at q2
         rw [hA, hB] at hcs
         simp only [Bool.and_false, Bool.false_eq_true, if_false, Nat.add_zero] at hcs
         have HCS := Lib.hid hcs
         clear hA hB hcs
         go_wp2_with fail
         go_roundw
         case rel => exact ⟨k + 1, gs, gv, by go_num, by omega, Lib.hid (by rw [HCS.out]; exact HGL.out), HOR, BS, BT, BF, BX, HB, HSZ⟩
         case measure => simp [intOf]; omega
        | true =>
         rw [hA] at q1
         rw [hB] at q2
         rw [hA, hB] at hcs
         simp only [Bool.and_true, if_true] at hcs
         have HCS := Lib.hid hcs
         have hgl16 : gs.length ≤ 16 := by rw [HGL.out]; exact Nat.le_trans (cntK_le ms k) (by omega)
         clear hA hB hcs
         have x1 := BS.out.cell (show k * 2 < sp.length by rw [HSP.out]; omega)
         have x2 := BS.out.cell (show k * 2 + 1 < sp.length by rw [HSP.out]; omega)
         obtain ⟨y1, hy1⟩ : ∃ y, sp[k * 2]'(by rw [HSP.out]; omega) = y := ⟨_, rfl⟩
         obtain ⟨y2, hy2⟩ : ∃ y, sp[k * 2 + 1]'(by rw [HSP.out]; omega) = y := ⟨_, rfl⟩
         rw [hy1] at x1
         rw [hy2] at x2
         obtain ⟨i0, hi, hz0, hz1, hz2⟩ := info_parts infoG
         obtain ⟨cs, hown, hpush⟩ := HOR.out.cells
         obtain ⟨Wd, hWd⟩ : ∃ Wd, wr.drew.alloc (.cells #[.string ⟨nm.toArray⟩, .int .i64 y1, .int .i64 y2] 85) = Wd := ⟨_, rfl⟩
         have hdb : Below wr.heap.size wr Wd := by rw [← hWd]; exact (Below.refl wr.heap.size wr).drew.alloc (Nat.le_refl _) _
         have hds : Wd.heap.size = wr.heap.size + 1 := by rw [← hWd, Deep.nblk_alloc]; rfl
         have hnb : Wd.heap[wr.heap.size]? = some (.cells #[.string ⟨nm.toArray⟩, .int .i64 y1, .int .i64 y2] 85 (0, 0)) := by rw [← hWd]; exact Deep.blk_alloc_new wr.drew _
         have hownd := own_block hown fun b hb => hdb.block b (own_lt hown hb)
         obtain ⟨gv', We, hrun, hown2, hgr, _, hnew⟩ := run_append_own2 (P := Tryd.prog) (w := Wd) (w2.heap.size + 4) 37 37 85 i0 (.agg #[.string ⟨#[]⟩, .int .i64 0, .int .i64 0]) 3 32 Tryd.underlying37 hi hz0 hz1 hz2 rfl (by decide) gv gs.length cs hownd ⟨wr.heap.size, 0, none⟩ 1 1 [.string ⟨nm.toArray⟩, .int .i64 y1, .int .i64 y2] rfl (World.news_of_block hnb) (by intro u hu; simp only [List.mem_cons, List.not_mem_nil, or_false] at hu; rcases hu with rfl | rfl | rfl <;> rfl) (by unfold maxLen; omega) (by omega) (by have := HSZ.out; omega)
         obtain ⟨a5, c5, hg5⟩ : ∃ a c, gv' = .slice a (gs.length + 1) c := by
          obtain ⟨_, ⟨h1, h2⟩ | ⟨q, cap, cur, h1, _⟩⟩ := hown2
          ·omega
          ·exact ⟨_, _, h1⟩
         subst hg5
         have hgb : ∀ b, b < wr.heap.size → gv.ownBlock ≠ some b → We.heap[b]? = wr.heap[b]? := fun b hb hne => (hgr.block b (by omega) (fun e => hne e.symm)).trans (hdb.block b hb)
         have hnown : ∀ b, b < w2.heap.size + 4 → gv.ownBlock ≠ some b := fun b hb e => by have := (HOR.out.lt e).1; omega
         have hlow : ∀ b, b < w2.heap.size + 4 → We.heap[b]? = wr.heap[b]? := fun b hb => hgb b (by have := HSZ.out; omega) (hnown b hb)
         have hbx2 : We.heap[w2.heap.size]? = some (.cells #[.int .i64 (at_ : Int), .int .i64 (xe : Int), gv] 39 (0, 0)) := (hlow _ (by omega)).trans BX.out
         have k1 : wr.cell? ⟨w2.heap.size, 2, none⟩ = some gv := by rw [Lib.cell_of_heap BX.out]; rfl
         have k2 : Wd.cell? ⟨w2.heap.size, 2, none⟩ = some gv := by rw [Lib.cell_of_heap ((hdb.block _ (by have := HSZ.out; omega)).trans BX.out)]; rfl
         have k3 : We.cell? ⟨w2.heap.size, 2, none⟩ = some gv := by rw [Lib.cell_of_heap hbx2]; rfl
         have k4 := frz0 hbx2 2
         have hor5 : OR (w2.heap.size + 4) 85 3 GrR We (gs ++ [(nm, y1, y2)]) (Value.slice a5 (gs.length + 1) c5) := hpush GrR We (nm, y1, y2) _ (Value.slice a5 (gs.length + 1) c5) (fun _ _ h => h) rfl rfl (by omega) hown2
         have HN : Hid (gs.length + 1 = cntK ms (k + 1) ∧ OR (w2.heap.size + 4) 85 3 GrR (We.setCell ⟨w2.heap.size, 2, none⟩ (Value.slice a5 (gs.length + 1) c5)) (gs ++ [(nm, y1, y2)]) (Value.slice a5 (gs.length + 1) c5) ∧ SpB (We.setCell ⟨w2.heap.size, 2, none⟩ (Value.slice a5 (gs.length + 1) c5)) (w2.heap.size + 1) sp ∧ BoB (We.setCell ⟨w2.heap.size, 2, none⟩ (Value.slice a5 (gs.length + 1) c5)) (w2.heap.size + 2) (flg n ms true) ∧ BoB (We.setCell ⟨w2.heap.size, 2, none⟩ (Value.slice a5 (gs.length + 1) c5)) (w2.heap.size + 3) (flg n ms false) ∧ (We.setCell ⟨w2.heap.size, 2, none⟩ (Value.slice a5 (gs.length + 1) c5)).heap[w2.heap.size]? = some (.cells #[.int .i64 (at_ : Int), .int .i64 (xe : Int), Value.slice a5 (gs.length + 1) c5] 39 (0, 0)) ∧ Below w2.heap.size w2 (We.setCell ⟨w2.heap.size, 2, none⟩ (Value.slice a5 (gs.length + 1) c5)) ∧ w2.heap.size + 4 ≤ (We.setCell ⟨w2.heap.size, 2, none⟩ (Value.slice a5 (gs.length + 1) c5)).heap.size) := Lib.hid ⟨by rw [HCS.out, HGL.out], hor5.own (fun j hj => Deep.blk_setCell_other _ _ _ j (by have := (hor5.lt hj).1; show j ≠ w2.heap.size; omega)) (fun _ _ h => h) _ (Nat.le_refl _), SpB.other (b' := w2.heap.size) ((hlow _ (by omega)).trans BS.out) (by omega), BoB.other (b' := w2.heap.size) ((hlow _ (by omega)).trans BT.out) (by omega), BoB.other (b' := w2.heap.size) ((hlow _ (by omega)).trans BF.out) (by omega), set_at hbx2 2 (Value.slice a5 (gs.length + 1) c5), ⟨hgr.os.trans (hdb.os.trans HB.out.os), hgr.tape.trans (hdb.tape.trans HB.out.tape), hgr.output.trans (hdb.output.trans HB.out.output), by rw [Deep.nblk_setCell]; have := HSZ.out; have := hgr.size; omega, fun b hb => (Deep.blk_setCell_other _ _ _ b (by show b ≠ w2.heap.size; omega)).trans ((hlow b (by omega)).trans (HB.out.block b hb))⟩, by rw [Deep.nblk_setCell]; have := HSZ.out; have := hgr.size; omega⟩
         clear hi hz0 hz1 hz2 hown hpush hdb hds hnb hownd hown2 hgr hnew hgb hnown hlow hbx2 hor5 hy1 hy2
         go_wp2_with fail
         go_region_law (refine step_append_run (by rfl) _ _ _ (by rfl) _ _ _ (by rfl) (by rfl) hrun ?_)
         all_goals
          go_wp2_with fail
          go_roundw
          case rel => exact ⟨k + 1, gs ++ [(nm, y1, y2)], (Value.slice a5 (gs.length + 1) c5), by go_num, by omega, Lib.hid (by rw [List.length_append]; exact HN.out.1), Lib.hid HN.out.2.1, Lib.hid HN.out.2.2.1, Lib.hid HN.out.2.2.2.1, Lib.hid HN.out.2.2.2.2.1, Lib.hid HN.out.2.2.2.2.2.1, Lib.hid HN.out.2.2.2.2.2.2.1, Lib.hid HN.out.2.2.2.2.2.2.2⟩
          case measure => simp [intOf]; omega
      ·obtain rfl : k = n := by omega
       obtain ⟨ga, gc, hgv, hsrt⟩ := grow_sort HOR.out (by rw [HGL.out]; exact Nat.le_trans (cntK_le ms k) (by omega)) HSZ.out
       subst hgv
       have k0 : wr.cell? ⟨w2.heap.size, 2, none⟩ = some (.slice ga gs.length gc) := by rw [Lib.cell_of_heap BX.out]; rfl
       have HSRT := Lib.hid hsrt
       clear hsrt
       go_wp2_with fail
       refine HSRT.out.mono ?_
       rintro e w5 ⟨rfl, hb5⟩
       have hbx5 := (hb5.block _ (by omega)).trans BX.out
       have hbl : w.heap.size < w2.heap.size := heap_lt HBX2.out
       have hb2 : Below w2.heap.size w2 w5 := HB.out.trans (hb5.mono (Nat.le_add_right _ _))
       have hbr := (hb2.block _ hbl).trans HBX2.out
       have k1 : w5.cell? ⟨w2.heap.size, 0, none⟩ = some (.int .i64 (at_ : Int)) := by rw [Lib.cell_of_heap hbx5]; rfl
       have k2 : w5.cell? ⟨w2.heap.size, 1, none⟩ = some (.int .i64 (xe : Int)) := by rw [Lib.cell_of_heap hbx5]; rfl
       have k3 : w5.cell? ⟨w2.heap.size, 2, none⟩ = some (.slice ga gs.length gc) := by rw [Lib.cell_of_heap hbx5]; rfl
       have d0 : w5.cell? ⟨w.heap.size, 0, none⟩ = some (.int .i64 0) := by rw [Lib.cell_of_heap hbr]; rfl
       have d1 : w5.cell? ⟨w.heap.size, 1, none⟩ = some (.int .i64 0) := by rw [Lib.cell_of_heap hbr]; rfl
       have d2 : w5.cell? ⟨w.heap.size, 2, none⟩ = some (.slice none 0 0) := by rw [Lib.cell_of_heap hbr]; rfl
       have z0 := frz0 hbr 0
       have z1 := frz0 hbr 1
       have z2 := frz0 hbr 2
       have HBR := Lib.hid hbr
       have HB2 := Lib.hid hb2
       clear hb5 hbx5 hbl hb2 hbr
       go_wp2_with fail
       refine agg_ret2 (cs := [.int .i64 (at_ : Int), .int .i64 (xe : Int), .slice ga gs.length gc]) (by rfl) rfl (by rfl) (set_at (set_at (set_at HBR.out 0 _) 1 _) 2 _) Tryd.underlying39 rfl (by kernel_rfl) ?_
       refine ⟨HFIN.out _ ((SrtP.of_below HB2.out).trans (((SrtP.set _ _ _ _).trans (SrtP.set _ _ _ _)).trans (SrtP.set _ _ _ _))), ga, gc, ?_⟩
       rw [HGL.out]
       rfl
  ·go_wp2_with fail
   go_loopw [13] (fun v wr => ∃ (p q : List Mt.Mk) (sp : List Int), Hid (ms = p ++ q) ∧ Hid (MkAt F2 w2 q v) ∧ Hid (SpB wr (w2.heap.size + 1) sp) ∧ Hid (sp.length = n * 2) ∧ Hid (BoB wr (w2.heap.size + 3) (flg n p true)) ∧ Hid (BoB wr (w2.heap.size + 2) (flg n p false)) ∧ Hid (wr.heap[w2.heap.size]? = some (.cells #[.int .i64 (at_ : Int), .int .i64 (xe : Int), .slice none 0 0] 39 (0, 0))) ∧ Hid (Below w2.heap.size w2 wr) ∧ Hid (wr.heap.size = w2.heap.size + 4)) (fun v _ => mkLen ms.length w2 v)
   case atStart => exact ⟨[], ms, List.replicate (n * 2) 0, Lib.hid rfl, HMS, B3, Lib.hid (by simp), Lib.hid (by rw [flg_nil]; exact B1.out), Lib.hid (by rw [flg_nil]; exact B2.out), B4, HBC, HSC⟩
   case round =>
    obtain ⟨p, q, sp, HPQ, HQ, BS, HSP, BFtrue, BFfalse, BX, HB, HSZ⟩ := hrel
    cases q with
    | cons m q =>
     obtain ⟨m1, c, at1⟩ := m
     obtain ⟨b, v', hu, hbl, hF, c0, c1, c2, c3, hq'⟩ := HQ.out.cells
     subst hu
     have hcn : c < n := HLT2.out (m1, c, at1) (by rw [HPQ.out]; simp)
     have HQ2 := Lib.hid hq'
     have e0 := (HB.out.cell (p := ⟨b, 0, none⟩) hbl).trans c0
     have e1 := (HB.out.cell (p := ⟨b, 1, none⟩) hbl).trans c1
     have e2 := (HB.out.cell (p := ⟨b, 2, none⟩) hbl).trans c2
     have e3 := (HB.out.cell (p := ⟨b, 3, none⟩) hbl).trans c3
     have hbw : b < wr.heap.size := Nat.lt_of_lt_of_le hbl HB.out.size
     simp only at e0 e1 e2 e3
     clear c0 c1 c2 c3 hq' hF
     cases m1 with
     | true =>
      have hcb : c < (flg n p true).length := by rw [flg_len]; exact hcn
      have q1 := BFtrue.out.cell hcb
      rw [flg_at] at q1
      cases hfl : (Mt.fstM p true c).isSome with
      | true =>
       rw [hfl] at q1
       have HFL := Lib.hid hfl
       clear hfl hcb
       go_wp2_with fail
       go_roundw
       case rel => exact ⟨p ++ [(true, c, at1)], q, sp, Lib.hid (by rw [HPQ.out]; simp), HQ2, BS, HSP, Lib.hid (by rw [flg_same HFL.out]; exact BFtrue.out), Lib.hid (by rw [flg_other (by decide)]; exact BFfalse.out), BX, HB, HSZ⟩
       case measure =>
        have h1 := congrArg List.length HPQ.out
        simp only [List.length_append, List.length_cons] at h1
        rw [mkLen_at q _ v' HQ2.out (by omega), mkLen_at _ _ _ HQ.out (by simp; omega)]
        simp
      | false =>
       rw [hfl] at q1
       have hsi : c * 2 < sp.length := by rw [HSP.out]; omega
       have q2 := BS.out.cell hsi
       have f1 := frz0 BFtrue.out c
       have f2 := frz0 BS.out (c * 2)
       have HS2 : Hid (BoB ((wr.setCell ⟨w2.heap.size + 1, c * 2, none⟩ (.int .i64 (at1 : Int))).setCell ⟨w2.heap.size + 3, c, none⟩ (.bool true)) (w2.heap.size + 3) ((flg n p true).set c true) ∧ SpB ((wr.setCell ⟨w2.heap.size + 1, c * 2, none⟩ (.int .i64 (at1 : Int))).setCell ⟨w2.heap.size + 3, c, none⟩ (.bool true)) (w2.heap.size + 1) (sp.set (c * 2) (at1 : Int)) ∧ BoB ((wr.setCell ⟨w2.heap.size + 1, c * 2, none⟩ (.int .i64 (at1 : Int))).setCell ⟨w2.heap.size + 3, c, none⟩ (.bool true)) (w2.heap.size + 2) (flg n p false) ∧ ((wr.setCell ⟨w2.heap.size + 1, c * 2, none⟩ (.int .i64 (at1 : Int))).setCell ⟨w2.heap.size + 3, c, none⟩ (.bool true)).heap[w2.heap.size]? = some (.cells #[.int .i64 (at_ : Int), .int .i64 (xe : Int), .slice none 0 0] 39 (0, 0)) ∧ Below w2.heap.size w2 ((wr.setCell ⟨w2.heap.size + 1, c * 2, none⟩ (.int .i64 (at1 : Int))).setCell ⟨w2.heap.size + 3, c, none⟩ (.bool true))) := Lib.hid ⟨(BFtrue.out.other (b' := w2.heap.size + 1) (by omega)).set c true, (BS.out.set (c * 2) (at1 : Int)).other (b' := w2.heap.size + 3) (by omega), (BFfalse.out.other (b' := w2.heap.size + 1) (by omega)).other (b' := w2.heap.size + 3) (by omega), (Deep.blk_setCell_other _ _ _ _ (by show w2.heap.size ≠ w2.heap.size + 3; omega)).trans ((Deep.blk_setCell_other _ _ _ _ (by show w2.heap.size ≠ w2.heap.size + 1; omega)).trans BX.out), (HB.out.setCell (p := ⟨w2.heap.size + 1, c * 2, none⟩) (by show w2.heap.size ≤ w2.heap.size + 1; omega) _).setCell (p := ⟨w2.heap.size + 3, c, none⟩) (by show w2.heap.size ≤ w2.heap.size + 3; omega) _⟩
       have i1 : (c : Int) < (n : Int) := by omega
       have i2 : (0 : Int) ≤ (c : Int) := by omega
       clear hfl hcb
       go_wp2_with fail
       go_region
       all_goals
        go_wp2_with fail
        go_roundw
        case rel => exact ⟨p ++ [(true, c, at1)], q, sp.set (c * 2) (at1 : Int), Lib.hid (by rw [HPQ.out]; simp), HQ2, Lib.hid HS2.out.2.1, Lib.hid (by rw [List.length_set]; exact HSP.out), Lib.hid (by rw [← flg_set]; exact HS2.out.1), Lib.hid (by rw [flg_other (by decide)]; exact HS2.out.2.2.1), Lib.hid HS2.out.2.2.2.1, Lib.hid HS2.out.2.2.2.2.drew, Lib.hid (by simp [World.drew, HSZ.out])⟩
        case measure =>
         have h1 := congrArg List.length HPQ.out
         simp only [List.length_append, List.length_cons] at h1
         rw [mkLen_at q _ v' HQ2.out (by omega), mkLen_at _ _ _ HQ.out (by simp; omega)]
         simp
     | false =>
      have hcb : c < (flg n p false).length := by rw [flg_len]; exact hcn
      have q1 := BFfalse.out.cell hcb
      rw [flg_at] at q1
      cases hfl : (Mt.fstM p false c).isSome with
      | true =>
       rw [hfl] at q1
       have HFL := Lib.hid hfl
       clear hfl hcb
       go_wp2_with fail
       go_roundw
       case rel => exact ⟨p ++ [(false, c, at1)], q, sp, Lib.hid (by rw [HPQ.out]; simp), HQ2, BS, HSP, Lib.hid (by rw [flg_other (by decide)]; exact BFtrue.out), Lib.hid (by rw [flg_same HFL.out]; exact BFfalse.out), BX, HB, HSZ⟩
       case measure =>
        have h1 := congrArg List.length HPQ.out
        simp only [List.length_append, List.length_cons] at h1
        rw [mkLen_at q _ v' HQ2.out (by omega), mkLen_at _ _ _ HQ.out (by simp; omega)]
        simp
      | false =>
       rw [hfl] at q1
       have hsi : c * 2 + 1 < sp.length := by rw [HSP.out]; omega
       have q2 := BS.out.cell hsi
       have f1 := frz0 BFfalse.out c
       have f2 := frz0 BS.out (c * 2 + 1)
       have HS2 : Hid (BoB ((wr.setCell ⟨w2.heap.size + 1, c * 2 + 1, none⟩ (.int .i64 (at1 : Int))).setCell ⟨w2.heap.size + 2, c, none⟩ (.bool true)) (w2.heap.size + 2) ((flg n p false).set c true) ∧ SpB ((wr.setCell ⟨w2.heap.size + 1, c * 2 + 1, none⟩ (.int .i64 (at1 : Int))).setCell ⟨w2.heap.size + 2, c, none⟩ (.bool true)) (w2.heap.size + 1) (sp.set (c * 2 + 1) (at1 : Int)) ∧ BoB ((wr.setCell ⟨w2.heap.size + 1, c * 2 + 1, none⟩ (.int .i64 (at1 : Int))).setCell ⟨w2.heap.size + 2, c, none⟩ (.bool true)) (w2.heap.size + 3) (flg n p true) ∧ ((wr.setCell ⟨w2.heap.size + 1, c * 2 + 1, none⟩ (.int .i64 (at1 : Int))).setCell ⟨w2.heap.size + 2, c, none⟩ (.bool true)).heap[w2.heap.size]? = some (.cells #[.int .i64 (at_ : Int), .int .i64 (xe : Int), .slice none 0 0] 39 (0, 0)) ∧ Below w2.heap.size w2 ((wr.setCell ⟨w2.heap.size + 1, c * 2 + 1, none⟩ (.int .i64 (at1 : Int))).setCell ⟨w2.heap.size + 2, c, none⟩ (.bool true))) := Lib.hid ⟨(BFfalse.out.other (b' := w2.heap.size + 1) (by omega)).set c true, (BS.out.set (c * 2 + 1) (at1 : Int)).other (b' := w2.heap.size + 2) (by omega), (BFtrue.out.other (b' := w2.heap.size + 1) (by omega)).other (b' := w2.heap.size + 2) (by omega), (Deep.blk_setCell_other _ _ _ _ (by show w2.heap.size ≠ w2.heap.size + 2; omega)).trans ((Deep.blk_setCell_other _ _ _ _ (by show w2.heap.size ≠ w2.heap.size + 1; omega)).trans BX.out), (HB.out.setCell (p := ⟨w2.heap.size + 1, c * 2 + 1, none⟩) (by show w2.heap.size ≤ w2.heap.size + 1; omega) _).setCell (p := ⟨w2.heap.size + 2, c, none⟩) (by show w2.heap.size ≤ w2.heap.size + 2; omega) _⟩
       have i1 : (c : Int) < (n : Int) := by omega
       have i2 : (0 : Int) ≤ (c : Int) := by omega
       clear hfl hcb
       go_wp2_with fail
       go_region
       all_goals
        go_wp2_with fail
        go_roundw
        case rel => exact ⟨p ++ [(false, c, at1)], q, sp.set (c * 2 + 1) (at1 : Int), Lib.hid (by rw [HPQ.out]; simp), HQ2, Lib.hid HS2.out.2.1, Lib.hid (by rw [List.length_set]; exact HSP.out), Lib.hid (by rw [flg_other (by decide)]; exact HS2.out.2.2.1), Lib.hid (by rw [← flg_set]; exact HS2.out.1), Lib.hid HS2.out.2.2.2.1, Lib.hid HS2.out.2.2.2.2.drew, Lib.hid (by simp [World.drew, HSZ.out])⟩
        case measure =>
         have h1 := congrArg List.length HPQ.out
         simp only [List.length_append, List.length_cons] at h1
         rw [mkLen_at q _ v' HQ2.out (by omega), mkLen_at _ _ _ HQ.out (by simp; omega)]
         simp
    | nil =>
     obtain rfl : u13 = .pointer none := HQ.out
     have hpq := HPQ.out
     rw [List.append_nil] at hpq
     subst hpq
     have n4 := (HB.out.cell (p := ⟨g, 1, none⟩) hgl).trans hnc
     have HSZ2 : Hid (w2.heap.size + 4 ≤ wr.heap.size) := Lib.hid (by rw [HSZ.out]; exact Nat.le_refl _)
     clear HSZ HQ HPQ B1 B2 B3 B4 HBC HSC n1 n2 n3 hms hmo hmc hWx hWs hWo hWc k2 f2 hst
     go_wp2_with fail
     go_loopw [129] (fun i wr => ∃ (k : Nat) (gs : List Grp) (gv : Value), i = .int .i64 (k : Int) ∧ k ≤ n ∧ Hid (gs.length = cntK ms k) ∧ Hid (OR (w2.heap.size + 4) 85 3 GrR wr gs gv) ∧ Hid (SpB wr (w2.heap.size + 1) sp) ∧ Hid (BoB wr (w2.heap.size + 3) (flg n ms true)) ∧ Hid (BoB wr (w2.heap.size + 2) (flg n ms false)) ∧ Hid (wr.heap[w2.heap.size]? = some (.cells #[.int .i64 (at_ : Int), .int .i64 (xe : Int), gv] 39 (0, 0))) ∧ Hid (Below w2.heap.size w2 wr) ∧ Hid (w2.heap.size + 4 ≤ wr.heap.size)) (fun i _ => n - (intOf i).toNat)
     case atStart => exact ⟨0, [], .slice none 0 0, rfl, Nat.zero_le _, Lib.hid rfl, Lib.hid OR.nil, BS, BFtrue, BFfalse, BX, HB, HSZ2⟩
     case round =>
      obtain ⟨k, gs, gv, rfl, hkn, HGL, HOR, BS, BT, BF, BX, HB, HSZ⟩ := hrel
      by_cases hlt : k < n
      ·obtain ⟨na', nc', hnv, _, hnk⟩ := HNR.out
       have hkk : k < (Mt.nsN t []).length := by rw [HNN.out]; exact hlt
       obtain ⟨nb, no, hna, hnbl, _, hncc⟩ := hnk (by omega)
       obtain ⟨us, hus1, hus2, hus3⟩ := hncc k hkk
       injection hnv with hnv1 hnv2 hnv3
       subst hna
       subst hnv1
       unfold StrR at hus3
       subst hus3
       have s0 := (HB.out.cell (p := ⟨nb, no + k * 1 + 0, none⟩) hnbl).trans (hus2 0 (by decide))
       obtain ⟨nm, hnm⟩ : ∃ nm, (Mt.nsN t [])[k] = nm := ⟨_, rfl⟩
       rw [hnm] at s0
       simp only [Nat.mul_one, Nat.add_zero, List.getElem?_cons_zero] at s0
       have hbw : nb < wr.heap.size := Nat.lt_of_lt_of_le hnbl HB.out.size
       have i1 : (k : Int) < (n : Int) := by omega
       have i2 : (0 : Int) ≤ (k : Int) := by omega
       have t1 : k < (flg n ms true).length := by rw [flg_len]; exact hlt
       have t2 : k < (flg n ms false).length := by rw [flg_len]; exact hlt
       have q1 := BT.out.cell t1
       have q2 := BF.out.cell t2
       rw [flg_at] at q1 q2
       have hcs := cntK_succ ms k
       clear hnv2 hnv3 hnk hncc hus1 hus2 hnm t1 t2 hkk
       cases hA : (Mt.fstM ms true k).isSome with
       | false =>
        rw [hA] at q1 hcs
        simp only [Bool.false_and, Bool.false_eq_true, if_false, Nat.add_zero] at hcs
        have HCS := Lib.hid hcs
        clear hA hcs
        go_wp2_with fail
        go_roundw
        case rel => exact ⟨k + 1, gs, gv, by go_num, by omega, Lib.hid (by rw [HCS.out]; exact HGL.out), HOR, BS, BT, BF, BX, HB, HSZ⟩
        case measure => simp [intOf]; omega
       | true =>
        cases hB : (Mt.fstM ms false k).isSome with
        | false =>
         rw [hA] at q1
         rw [hB] at q2
         rw [hA, hB] at hcs
         simp only [Bool.and_false, Bool.false_eq_true, if_false, Nat.add_zero] at hcs
         have HCS := Lib.hid hcs
         clear hA hB hcs
         go_wp2_with fail
         go_roundw
         case rel => exact ⟨k + 1, gs, gv, by go_num, by omega, Lib.hid (by rw [HCS.out]; exact HGL.out), HOR, BS, BT, BF, BX, HB, HSZ⟩
         case measure => simp [intOf]; omega
        | true =>
         rw [hA] at q1
         rw [hB] at q2
         rw [hA, hB] at hcs
         simp only [Bool.and_true, if_true] at hcs
         have HCS := Lib.hid hcs
         have hgl16 : gs.length ≤ 16 := by rw [HGL.out]; exact Nat.le_trans (cntK_le ms k) (by omega)
         clear hA hB hcs
         have x1 := BS.out.cell (show k * 2 < sp.length by rw [HSP.out]; omega)
         have x2 := BS.out.cell (show k * 2 + 1 < sp.length by rw [HSP.out]; omega)
         obtain ⟨y1, hy1⟩ : ∃ y, sp[k * 2]'(by rw [HSP.out]; omega) = y := ⟨_, rfl⟩
         obtain ⟨y2, hy2⟩ : ∃ y, sp[k * 2 + 1]'(by rw [HSP.out]; omega) = y := ⟨_, rfl⟩
         rw [hy1] at x1
         rw [hy2] at x2
         obtain ⟨i0, hi, hz0, hz1, hz2⟩ := info_parts infoG
         obtain ⟨cs, hown, hpush⟩ := HOR.out.cells
         obtain ⟨Wd, hWd⟩ : ∃ Wd, wr.drew.alloc (.cells #[.string ⟨nm.toArray⟩, .int .i64 y1, .int .i64 y2] 85) = Wd := ⟨_, rfl⟩
         have hdb : Below wr.heap.size wr Wd := by rw [← hWd]; exact (Below.refl wr.heap.size wr).drew.alloc (Nat.le_refl _) _
         have hds : Wd.heap.size = wr.heap.size + 1 := by rw [← hWd, Deep.nblk_alloc]; rfl
         have hnb : Wd.heap[wr.heap.size]? = some (.cells #[.string ⟨nm.toArray⟩, .int .i64 y1, .int .i64 y2] 85 (0, 0)) := by rw [← hWd]; exact Deep.blk_alloc_new wr.drew _
         have hownd := own_block hown fun b hb => hdb.block b (own_lt hown hb)
         obtain ⟨gv', We, hrun, hown2, hgr, _, hnew⟩ := run_append_own2 (P := Tryd.prog) (w := Wd) (w2.heap.size + 4) 37 37 85 i0 (.agg #[.string ⟨#[]⟩, .int .i64 0, .int .i64 0]) 3 32 Tryd.underlying37 hi hz0 hz1 hz2 rfl (by decide) gv gs.length cs hownd ⟨wr.heap.size, 0, none⟩ 1 1 [.string ⟨nm.toArray⟩, .int .i64 y1, .int .i64 y2] rfl (World.news_of_block hnb) (by intro u hu; simp only [List.mem_cons, List.not_mem_nil, or_false] at hu; rcases hu with rfl | rfl | rfl <;> rfl) (by unfold maxLen; omega) (by omega) (by have := HSZ.out; omega)
         obtain ⟨a5, c5, hg5⟩ : ∃ a c, gv' = .slice a (gs.length + 1) c := by
          obtain ⟨_, ⟨h1, h2⟩ | ⟨q, cap, cur, h1, _⟩⟩ := hown2
          ·omega
          ·exact ⟨_, _, h1⟩
         subst hg5
         have hgb : ∀ b, b < wr.heap.size → gv.ownBlock ≠ some b → We.heap[b]? = wr.heap[b]? := fun b hb hne => (hgr.block b (by omega) (fun e => hne e.symm)).trans (hdb.block b hb)
         have hnown : ∀ b, b < w2.heap.size + 4 → gv.ownBlock ≠ some b := fun b hb e => by have := (HOR.out.lt e).1; omega
         have hlow : ∀ b, b < w2.heap.size + 4 → We.heap[b]? = wr.heap[b]? := fun b hb => hgb b (by have := HSZ.out; omega) (hnown b hb)
         have hbx2 : We.heap[w2.heap.size]? = some (.cells #[.int .i64 (at_ : Int), .int .i64 (xe : Int), gv] 39 (0, 0)) := (hlow _ (by omega)).trans BX.out
         have k1 : wr.cell? ⟨w2.heap.size, 2, none⟩ = some gv := by rw [Lib.cell_of_heap BX.out]; rfl
         have k2 : Wd.cell? ⟨w2.heap.size, 2, none⟩ = some gv := by rw [Lib.cell_of_heap ((hdb.block _ (by have := HSZ.out; omega)).trans BX.out)]; rfl
         have k3 : We.cell? ⟨w2.heap.size, 2, none⟩ = some gv := by rw [Lib.cell_of_heap hbx2]; rfl
         have k4 := frz0 hbx2 2
         have hor5 : OR (w2.heap.size + 4) 85 3 GrR We (gs ++ [(nm, y1, y2)]) (Value.slice a5 (gs.length + 1) c5) := hpush GrR We (nm, y1, y2) _ (Value.slice a5 (gs.length + 1) c5) (fun _ _ h => h) rfl rfl (by omega) hown2
         have HN : Hid (gs.length + 1 = cntK ms (k + 1) ∧ OR (w2.heap.size + 4) 85 3 GrR (We.setCell ⟨w2.heap.size, 2, none⟩ (Value.slice a5 (gs.length + 1) c5)) (gs ++ [(nm, y1, y2)]) (Value.slice a5 (gs.length + 1) c5) ∧ SpB (We.setCell ⟨w2.heap.size, 2, none⟩ (Value.slice a5 (gs.length + 1) c5)) (w2.heap.size + 1) sp ∧ BoB (We.setCell ⟨w2.heap.size, 2, none⟩ (Value.slice a5 (gs.length + 1) c5)) (w2.heap.size + 3) (flg n ms true) ∧ BoB (We.setCell ⟨w2.heap.size, 2, none⟩ (Value.slice a5 (gs.length + 1) c5)) (w2.heap.size + 2) (flg n ms false) ∧ (We.setCell ⟨w2.heap.size, 2, none⟩ (Value.slice a5 (gs.length + 1) c5)).heap[w2.heap.size]? = some (.cells #[.int .i64 (at_ : Int), .int .i64 (xe : Int), Value.slice a5 (gs.length + 1) c5] 39 (0, 0)) ∧ Below w2.heap.size w2 (We.setCell ⟨w2.heap.size, 2, none⟩ (Value.slice a5 (gs.length + 1) c5)) ∧ w2.heap.size + 4 ≤ (We.setCell ⟨w2.heap.size, 2, none⟩ (Value.slice a5 (gs.length + 1) c5)).heap.size) := Lib.hid ⟨by rw [HCS.out, HGL.out], hor5.own (fun j hj => Deep.blk_setCell_other _ _ _ j (by have := (hor5.lt hj).1; show j ≠ w2.heap.size; omega)) (fun _ _ h => h) _ (Nat.le_refl _), SpB.other (b' := w2.heap.size) ((hlow _ (by omega)).trans BS.out) (by omega), BoB.other (b' := w2.heap.size) ((hlow _ (by omega)).trans BT.out) (by omega), BoB.other (b' := w2.heap.size) ((hlow _ (by omega)).trans BF.out) (by omega), set_at hbx2 2 (Value.slice a5 (gs.length + 1) c5), ⟨hgr.os.trans (hdb.os.trans HB.out.os), hgr.tape.trans (hdb.tape.trans HB.out.tape), hgr.output.trans (hdb.output.trans HB.out.output), by rw [Deep.nblk_setCell]; have := HSZ.out; have := hgr.size; omega, fun b hb => (Deep.blk_setCell_other _ _ _ b (by show b ≠ w2.heap.size; omega)).trans ((hlow b (by omega)).trans (HB.out.block b hb))⟩, by rw [Deep.nblk_setCell]; have := HSZ.out; have := hgr.size; omega⟩
         clear hi hz0 hz1 hz2 hown hpush hdb hds hnb hownd hown2 hgr hnew hgb hnown hlow hbx2 hor5 hy1 hy2
         go_wp2_with fail
         go_region_law (refine step_append_run (by rfl) _ _ _ (by rfl) _ _ _ (by rfl) (by rfl) hrun ?_)
         all_goals
          go_wp2_with fail
          go_roundw
          case rel => exact ⟨k + 1, gs ++ [(nm, y1, y2)], (Value.slice a5 (gs.length + 1) c5), by go_num, by omega, Lib.hid (by rw [List.length_append]; exact HN.out.1), Lib.hid HN.out.2.1, Lib.hid HN.out.2.2.1, Lib.hid HN.out.2.2.2.1, Lib.hid HN.out.2.2.2.2.1, Lib.hid HN.out.2.2.2.2.2.1, Lib.hid HN.out.2.2.2.2.2.2.1, Lib.hid HN.out.2.2.2.2.2.2.2⟩
          case measure => simp [intOf]; omega
      ·obtain rfl : k = n := by omega
       obtain ⟨ga, gc, hgv, hsrt⟩ := grow_sort HOR.out (by rw [HGL.out]; exact Nat.le_trans (cntK_le ms k) (by omega)) HSZ.out
       subst hgv
       have k0 : wr.cell? ⟨w2.heap.size, 2, none⟩ = some (.slice ga gs.length gc) := by rw [Lib.cell_of_heap BX.out]; rfl
       have HSRT := Lib.hid hsrt
       clear hsrt
       go_wp2_with fail
       refine HSRT.out.mono ?_
       rintro e w5 ⟨rfl, hb5⟩
       have hbx5 := (hb5.block _ (by omega)).trans BX.out
       have hbl : w.heap.size < w2.heap.size := heap_lt HBX2.out
       have hb2 : Below w2.heap.size w2 w5 := HB.out.trans (hb5.mono (Nat.le_add_right _ _))
       have hbr := (hb2.block _ hbl).trans HBX2.out
       have k1 : w5.cell? ⟨w2.heap.size, 0, none⟩ = some (.int .i64 (at_ : Int)) := by rw [Lib.cell_of_heap hbx5]; rfl
       have k2 : w5.cell? ⟨w2.heap.size, 1, none⟩ = some (.int .i64 (xe : Int)) := by rw [Lib.cell_of_heap hbx5]; rfl
       have k3 : w5.cell? ⟨w2.heap.size, 2, none⟩ = some (.slice ga gs.length gc) := by rw [Lib.cell_of_heap hbx5]; rfl
       have d0 : w5.cell? ⟨w.heap.size, 0, none⟩ = some (.int .i64 0) := by rw [Lib.cell_of_heap hbr]; rfl
       have d1 : w5.cell? ⟨w.heap.size, 1, none⟩ = some (.int .i64 0) := by rw [Lib.cell_of_heap hbr]; rfl
       have d2 : w5.cell? ⟨w.heap.size, 2, none⟩ = some (.slice none 0 0) := by rw [Lib.cell_of_heap hbr]; rfl
       have z0 := frz0 hbr 0
       have z1 := frz0 hbr 1
       have z2 := frz0 hbr 2
       have HBR := Lib.hid hbr
       have HB2 := Lib.hid hb2
       clear hb5 hbx5 hbl hb2 hbr
       go_wp2_with fail
       refine agg_ret2 (cs := [.int .i64 (at_ : Int), .int .i64 (xe : Int), .slice ga gs.length gc]) (by rfl) rfl (by rfl) (set_at (set_at (set_at HBR.out 0 _) 1 _) 2 _) Tryd.underlying39 rfl (by kernel_rfl) ?_
       refine ⟨HFIN.out _ ((SrtP.of_below HB2.out).trans (((SrtP.set _ _ _ _).trans (SrtP.set _ _ _ _)).trans (SrtP.set _ _ _ _))), ga, gc, ?_⟩
       rw [HGL.out]
       rfl
end Go.Proofs.YtihdnlpelfgklaaDoor
namespace Go.Proofs.YtihdnlpelfgklaaDoor
open Go.RowKit
def MtV (at_ n : Nat) (r : Mt.Res) (v : Value) : Prop := match r with
 | none => v = .tuple #[.agg #[.int .i64 0, .int .i64 0, .slice none 0 0], .bool false]
 | some x => ∃ a c, v = .tuple #[.agg #[.int .i64 (at_ : Int), .int .i64 (x.1 : Int), .slice a (Mt.cntM n x.2) c], .bool true]
def MtW (t : NT) (s : List UInt8) (en : Bool) (at_ : Nat) (w : World) (e : Ending) (w' : World) : Prop := ∃ v, e = .returned v ∧ MtV at_ (Mt.nsN t []).length (Mt.matR s t en at_) v ∧ Below w.heap.size w w'
theorem MtV.two {at_ n : Nat} {r : Mt.Res} {v : Value} (h : MtV at_ n r v) : ∃ p q a m c ok, v = .tuple #[.agg #[.int .i64 p, .int .i64 q, .slice a m c], .bool ok] := by
 cases r with
 | none => exact ⟨0, 0, none, 0, 0, false, h⟩
 | some x =>
  obtain ⟨a, c, h⟩ := h
  exact ⟨_, _, a, _, c, true, h⟩
theorem CompP.low {w w' : World} {fa : Nat} (hb : Below w.heap.size w w') (hf : w.heap.size ≤ fa) : ∀ b, b < w.heap.size → Fa fa w' b := fun b hbl => ⟨Nat.lt_of_lt_of_le hbl hb.size, by omega⟩
set_option maxHeartbeats 4000000 in
set_option maxRecDepth 1000000 in
theorem Match_any (t : NT) (v : Value) (s : List UInt8) (at_ : Nat) (w : World) (h : NAt w t v) (hk : Kinds w) (hs : s.length ≤ 20000) (hck : ckE t = 0) (hco : Mt.costN t ≤ 4000) (ha : at_ ≤ s.length) :
  Calls Tryd.prog 12 #[v, .string ⟨s.toArray⟩, .int .i64 (at_ : Int)] w (MtW t s false at_ w) := by
 have hN := h
 obtain ⟨op, rs, nm, kids, mn, mx, ra, rc, a, c, e0, rfl, _⟩ := h.open
 clear e0
 obtain ⟨nk, hnk⟩ : ∃ n, kids.length = n := ⟨_, rfl⟩
 obtain ⟨nr, hnr⟩ : ∃ n, rs.length = n := ⟨_, rfl⟩
 rw [hnk, hnr] at hN ⊢
 obtain ⟨Wa, hWa⟩ : ∃ Wa, w.alloc (.cells #[.int .i64 op, .slice ra nr rc, .string ⟨nm.toArray⟩, .slice a nk c, .int .i64 mn, .int .i64 mx] 29) = Wa := ⟨_, rfl⟩
 have hb : Below w.heap.size w Wa := by rw [← hWa]; exact (Below.refl _ _).alloc (Nat.le_refl _) _
 have hsz : Wa.heap.size = w.heap.size + 1 := by rw [← hWa]; exact Deep.nblk_alloc _ _
 have hbx : Wa.heap[w.heap.size]? = some (.cells #[.int .i64 op, .slice ra nr rc, .string ⟨nm.toArray⟩, .slice a nk c, .int .i64 mn, .int .i64 mx] 29 (0, 0)) := by rw [← hWa]; exact Deep.blk_alloc_new w _
 obtain ⟨Wm, hWm⟩ : ∃ Wm, Wa.alloc (.cells #[.int .i64 0, .int .i64 0, .slice none 0 0] 39) = Wm := ⟨_, rfl⟩
 have hbm : Below w.heap.size w Wm := by rw [← hWm]; exact hb.alloc hb.size _
 have hmx : Wm.heap[w.heap.size + 1]? = some (.cells #[.int .i64 0, .int .i64 0, .slice none 0 0] 39 (0, 0)) := by rw [← hWm, ← hsz]; exact Deep.blk_alloc_new Wa _
 have hnx : Wm.heap[w.heap.size]? = some (.cells #[.int .i64 op, .slice ra nr rc, .string ⟨nm.toArray⟩, .slice a nk c, .int .i64 mn, .int .i64 mx] 29 (0, 0)) := by rw [← hWm]; exact (Deep.blk_alloc_lt _ _ _ (by omega)).trans hbx
 have HC := Lib.hid (compile_any t _ s false Wm (NAt.later hbm _ _ hN) (hk.below hbm) hs hck hco)
 have HB := Lib.hid hbm
 have HMX := Lib.hid hmx
 obtain ⟨b0, b1, b2, b3, b4, b5⟩ := box6 hnx
 have z1 : decide ((at_ : Int) < 0) = false := decide_eq_false (by omega)
 have z2 : decide ((s.length : Int) < (at_ : Int)) = false := decide_eq_false (by omega)
 have HCK := Lib.hid hck
 have HCO := Lib.hid hco
 clear hk hb hbx hN h hnk hnr hbm hmx hnx hck hco
 go_enter Tryd.func12, Tryd.ntmps12
 go_wp2_with fail
 refine HC.out.mono ?_
 rintro e w2 ⟨g, fa, rfl, hb2, hg, hf, hm⟩
 have HM := Lib.hid hm
 have HB2 := Lib.hid hb2
 have HGF := Lib.hid (And.intro hg hf)
 clear hb2 hg hf hm
 go_wp2_with fail
 refine (match_any t false s g fa HCK.out HCO.out hs at_ ha _ w2 HM.out).mono ?_
 rintro e w3 ⟨⟨hg3, hm3⟩, he⟩
 have HB3 : Hid (Below Wm.heap.size Wm w3) := Lib.hid (HB2.out.trans (hg3.low (CompP.low HB2.out HGF.out.2) HB2.out.size))
 obtain ⟨r, hr⟩ : ∃ r, Mt.matR s t false at_ = r := ⟨_, rfl⟩
 have HV : Hid (∃ v, e = .returned v ∧ MtV at_ (Mt.nsN t []).length (Mt.matR s t false at_) v) := Lib.hid (by
  rw [hr] at he ⊢
  cases r with
  | none => exact ⟨_, he, rfl⟩
  | some x =>
   obtain ⟨a, c, he⟩ := he
   exact ⟨_, he, a, c, rfl⟩)
 obtain ⟨v, rfl, hv⟩ := HV.out
 have hv2 := hv
 obtain ⟨p1, p2, a1, m1, c1, ok, rfl⟩ := hv.two
 have HVV := Lib.hid hv2
 have hx3 := (HB3.out.block _ (heap_lt HMX.out)).trans HMX.out
 have d0 : w3.cell? ⟨w.heap.size + 1, 0, none⟩ = some (.int .i64 0) := by rw [Lib.cell_of_heap hx3]; rfl
 have d1 : w3.cell? ⟨w.heap.size + 1, 1, none⟩ = some (.int .i64 0) := by rw [Lib.cell_of_heap hx3]; rfl
 have d2 : w3.cell? ⟨w.heap.size + 1, 2, none⟩ = some (.slice none 0 0) := by rw [Lib.cell_of_heap hx3]; rfl
 have f0 := frz0 hx3 0
 have f1 := frz0 hx3 1
 have f2 := frz0 hx3 2
 have HX3 := Lib.hid hx3
 clear hg3 hm3 he HV hr hv hv2 hx3
 go_wp2_with fail
 refine agg_ret2 (cs := [.int .i64 p1, .int .i64 p2, .slice a1 m1 c1]) (by rfl) rfl (by rfl) (set_at (set_at (set_at HX3.out 0 _) 1 _) 2 _) Tryd.underlying39 rfl (by kernel_rfl) ?_
 have hb4 : Below w.heap.size w w3 := HB.out.trans (HB3.out.mono HB.out.size)
 exact ⟨_, rfl, HVV.out, ((hb4.setCell (p := ⟨w.heap.size + 1, 0, none⟩) (Nat.le_succ _) _).setCell (p := ⟨w.heap.size + 1, 1, none⟩) (Nat.le_succ _) _).setCell (p := ⟨w.heap.size + 1, 2, none⟩) (Nat.le_succ _) _⟩
set_option maxHeartbeats 4000000 in
set_option maxRecDepth 1000000 in
theorem Full_any (t : NT) (v : Value) (s : List UInt8) (w : World) (h : NAt w t v) (hk : Kinds w) (hs : s.length ≤ 20000) (hck : ckE t = 0) (hco : Mt.costN t ≤ 4000) :
  Calls Tryd.prog 16 #[v, .string ⟨s.toArray⟩] w (MtW t s true 0 w) := by
 have hN := h
 obtain ⟨op, rs, nm, kids, mn, mx, ra, rc, a, c, e0, rfl, _⟩ := h.open
 clear e0
 obtain ⟨nk, hnk⟩ : ∃ n, kids.length = n := ⟨_, rfl⟩
 obtain ⟨nr, hnr⟩ : ∃ n, rs.length = n := ⟨_, rfl⟩
 rw [hnk, hnr] at hN ⊢
 obtain ⟨Wa, hWa⟩ : ∃ Wa, w.alloc (.cells #[.int .i64 op, .slice ra nr rc, .string ⟨nm.toArray⟩, .slice a nk c, .int .i64 mn, .int .i64 mx] 29) = Wa := ⟨_, rfl⟩
 have hb : Below w.heap.size w Wa := by rw [← hWa]; exact (Below.refl _ _).alloc (Nat.le_refl _) _
 have hsz : Wa.heap.size = w.heap.size + 1 := by rw [← hWa]; exact Deep.nblk_alloc _ _
 have hbx : Wa.heap[w.heap.size]? = some (.cells #[.int .i64 op, .slice ra nr rc, .string ⟨nm.toArray⟩, .slice a nk c, .int .i64 mn, .int .i64 mx] 29 (0, 0)) := by rw [← hWa]; exact Deep.blk_alloc_new w _
 obtain ⟨Wm, hWm⟩ : ∃ Wm, Wa.alloc (.cells #[.int .i64 0, .int .i64 0, .slice none 0 0] 39) = Wm := ⟨_, rfl⟩
 have hbm : Below w.heap.size w Wm := by rw [← hWm]; exact hb.alloc hb.size _
 have hmx : Wm.heap[w.heap.size + 1]? = some (.cells #[.int .i64 0, .int .i64 0, .slice none 0 0] 39 (0, 0)) := by rw [← hWm, ← hsz]; exact Deep.blk_alloc_new Wa _
 have hnx : Wm.heap[w.heap.size]? = some (.cells #[.int .i64 op, .slice ra nr rc, .string ⟨nm.toArray⟩, .slice a nk c, .int .i64 mn, .int .i64 mx] 29 (0, 0)) := by rw [← hWm]; exact (Deep.blk_alloc_lt _ _ _ (by omega)).trans hbx
 have HC := Lib.hid (compile_any t _ s true Wm (NAt.later hbm _ _ hN) (hk.below hbm) hs hck hco)
 have HB := Lib.hid hbm
 have HMX := Lib.hid hmx
 obtain ⟨b0, b1, b2, b3, b4, b5⟩ := box6 hnx
 have HCK := Lib.hid hck
 have HCO := Lib.hid hco
 clear hk hb hbx hN h hnk hnr hbm hmx hnx hck hco
 go_enter Tryd.func16, Tryd.ntmps16
 go_wp2_with fail
 refine HC.out.mono ?_
 rintro e w2 ⟨g, fa, rfl, hb2, hg, hf, hm⟩
 have HM := Lib.hid hm
 have HB2 := Lib.hid hb2
 have HGF := Lib.hid (And.intro hg hf)
 clear hb2 hg hf hm
 go_wp2_with fail
 refine (match_any t true s g fa HCK.out HCO.out hs 0 (Nat.zero_le _) _ w2 HM.out).mono ?_
 rintro e w3 ⟨⟨hg3, hm3⟩, he⟩
 have HB3 : Hid (Below Wm.heap.size Wm w3) := Lib.hid (HB2.out.trans (hg3.low (CompP.low HB2.out HGF.out.2) HB2.out.size))
 obtain ⟨r, hr⟩ : ∃ r, Mt.matR s t true 0 = r := ⟨_, rfl⟩
 have HV : Hid (∃ v, e = .returned v ∧ MtV 0 (Mt.nsN t []).length (Mt.matR s t true 0) v) := Lib.hid (by
  rw [hr] at he ⊢
  cases r with
  | none => exact ⟨_, he, rfl⟩
  | some x =>
   obtain ⟨a, c, he⟩ := he
   exact ⟨_, he, a, c, rfl⟩)
 obtain ⟨v, rfl, hv⟩ := HV.out
 have hv2 := hv
 obtain ⟨p1, p2, a1, m1, c1, ok, rfl⟩ := hv.two
 have HVV := Lib.hid hv2
 have hx3 := (HB3.out.block _ (heap_lt HMX.out)).trans HMX.out
 have d0 : w3.cell? ⟨w.heap.size + 1, 0, none⟩ = some (.int .i64 0) := by rw [Lib.cell_of_heap hx3]; rfl
 have d1 : w3.cell? ⟨w.heap.size + 1, 1, none⟩ = some (.int .i64 0) := by rw [Lib.cell_of_heap hx3]; rfl
 have d2 : w3.cell? ⟨w.heap.size + 1, 2, none⟩ = some (.slice none 0 0) := by rw [Lib.cell_of_heap hx3]; rfl
 have f0 := frz0 hx3 0
 have f1 := frz0 hx3 1
 have f2 := frz0 hx3 2
 have HX3 := Lib.hid hx3
 clear hg3 hm3 he HV hr hv hv2 hx3
 go_wp2_with fail
 refine agg_ret2 (cs := [.int .i64 p1, .int .i64 p2, .slice a1 m1 c1]) (by rfl) rfl (by rfl) (set_at (set_at (set_at HX3.out 0 _) 1 _) 2 _) Tryd.underlying39 rfl (by kernel_rfl) ?_
 have hb4 : Below w.heap.size w w3 := HB.out.trans (HB3.out.mono HB.out.size)
 exact ⟨_, rfl, HVV.out, ((hb4.setCell (p := ⟨w.heap.size + 1, 0, none⟩) (Nat.le_succ _) _).setCell (p := ⟨w.heap.size + 1, 1, none⟩) (Nat.le_succ _) _).setCell (p := ⟨w.heap.size + 1, 2, none⟩) (Nat.le_succ _) _⟩
end Go.Proofs.YtihdnlpelfgklaaDoor
namespace Go.Proofs.YtihdnlpelfgklaaDoor
open Go.RowKit
theorem Mt.choice_names {rs : List (UInt8 × UInt8)} {nm : List UInt8} {x y : NT} {mn mx : Int} (hf : Mt.frN (Mt.nsN x []) y) : (Mt.nsN (.node 3 rs nm [x, y] mn mx) []).length = (Mt.nsN x []).length + (Mt.nsN y []).length := by
 rw [Mt.nsN]
 simp only [show ¬ (3 : Int) = 1 by decide, show ¬ (3 : Int) = 6 by decide, show ¬ (3 : Int) = 7 by decide, show ¬ (3 : Int) = 2 by decide, if_false, if_true]
 rw [Mt.nsL, Mt.nsL, Mt.nsL]
 have h := (Mt.denN_sh [] (Mt.nsN x []) y hf []).1
 rw [List.append_nil] at h
 rw [h, List.length_append]
theorem Mt.choice_mat {rs : List (UInt8 × UInt8)} {nm : List UInt8} {x y : NT} {mn mx : Int} (h : ckE (.node 3 rs nm [x, y] mn mx) = 0) (s : List UInt8) (a : Nat) :
  (∀ e ms, Mt.matR s x false a = some (e, ms) → ∃ ms', Mt.matR s (.node 3 rs nm [x, y] mn mx) false a = some (e, ms') ∧ Mt.cntM (Mt.nsN (.node 3 rs nm [x, y] mn mx) []).length ms' = Mt.cntM (Mt.nsN x []).length ms) ∧
  (Mt.matR s x false a = none → ∀ e ms, Mt.matR s y false a = some (e, ms) → ∃ ms', Mt.matR s (.node 3 rs nm [x, y] mn mx) false a = some (e, ms') ∧ Mt.cntM (Mt.nsN (.node 3 rs nm [x, y] mn mx) []).length ms' = Mt.cntM (Mt.nsN y []).length ms) ∧
  (Mt.matR s x false a = none → Mt.matR s y false a = none → Mt.matR s (.node 3 rs nm [x, y] mn mx) false a = none) := by
 obtain ⟨_, _, hf⟩ := Mt.choice_ok h
 have hd := Mt.choice_den s rs nm x y mn mx hf a
 have hn := Mt.choice_names (rs := rs) (nm := nm) (mn := mn) (mx := mx) hf
 refine ⟨fun e ms hx => ?_, fun hx e ms hy => ?_, fun hx hy => ?_⟩
 ·have hlt := Mt.matR_lt hx
  rw [Mt.matR_head] at hx ⊢
  rw [hd]
  obtain ⟨o, ho, he⟩ := Option.map_eq_some_iff.1 hx
  rw [List.head?_append, ho]
  refine ⟨ms, by simpa using he, ?_⟩
  rw [hn]
  exact Mt.cnt_lo _ hlt
 ·rw [Mt.matR_head] at hx hy ⊢
  rw [hd]
  rw [Option.map_eq_none_iff] at hx
  obtain ⟨o, ho, he⟩ := Option.map_eq_some_iff.1 hy
  rw [List.head?_append, hx, List.head?_map, ho]
  injection he with h1 h2
  refine ⟨o.2.2.map (Mt.shM (Mt.nsN x []).length), by simp [Mt.shO, h1], ?_⟩
  rw [hn, ← h2]
  exact Mt.cnt_hi _ _ _
 ·rw [Mt.matR_head] at hx hy ⊢
  rw [Option.map_eq_none_iff] at hx hy
  rw [hd, List.head?_append, hx, List.head?_map, hy]
  rfl
theorem Mt.choice_cost {rs : List (UInt8 × UInt8)} {nm : List UInt8} {x y : NT} {mn mx : Int} (h : Mt.costN (.node 3 rs nm [x, y] mn mx) ≤ 400) : Mt.costN x ≤ 4000 ∧ Mt.costN y ≤ 4000 := by
 rw [Mt.costN, Mt.costL, Mt.costL, Mt.costL] at h
 simp only [show ¬ (3 : Int) = 5 by decide, or_true, if_true, if_false] at h
 omega
theorem MtV.cases {at_ n : Nat} {r : Mt.Res} {p q : Int} {a : Option Addr} {m c : Nat} {ok : Bool} (h : MtV at_ n r (.tuple #[.agg #[.int .i64 p, .int .i64 q, .slice a m c], .bool ok])) : (ok = false ∧ r = none ∧ p = 0 ∧ q = 0 ∧ m = 0) ∨ (ok = true ∧ ∃ e ms, r = some (e, ms) ∧ p = (at_ : Int) ∧ q = (e : Int) ∧ m = Mt.cntM n ms) := by
 cases r with
 | none =>
  unfold MtV at h
  simp at h
  exact .inl ⟨h.2, rfl, h.1.1, h.1.2.1, h.1.2.2.2.1⟩
 | some x =>
  obtain ⟨a', c', h⟩ := h
  simp at h
  exact .inr ⟨h.2, x.1, x.2, rfl, h.1.1, h.1.2.1, h.1.2.2.2.1⟩
theorem nat_two {w : World} {op : Int} {x y : NT} {vx vy : List Value} {h c : Nat} (hx : NAt w x (.agg vx.toArray)) (hy : NAt w y (.agg vy.toArray)) (hh : ∃ ty fr, w.heap[h]? = some (.cells (vx ++ vy).toArray ty fr)) : NAt w (.node op [] [] [x, y] 0 0) (.agg #[.int .i64 op, .slice none 0 0, .string ⟨#[]⟩, .slice (some ⟨h, 0, none⟩) 2 c, .int .i64 0, .int .i64 0]) := by
 obtain ⟨ty, fr, hh⟩ := hh
 have hx0 := hx
 have hy0 := hy
 obtain ⟨o1, r1, n1, k1, m1, m1', ra1, rc1, a1, c1, _, e1, _⟩ := hx.open
 obtain ⟨o2, r2, n2, k2, m2, m2', ra2, rc2, a2, c2, _, e2, _⟩ := hy.open
 injection e1 with e1
 injection e2 with e2
 have f1 : vx = [.int .i64 o1, .slice ra1 r1.length rc1, .string ⟨n1.toArray⟩, .slice a1 k1.length c1, .int .i64 m1, .int .i64 m1'] := by simpa using congrArg Array.toList e1
 have f2 : vy = [.int .i64 o2, .slice ra2 r2.length rc2, .string ⟨n2.toArray⟩, .slice a2 k2.length c2, .int .i64 m2, .int .i64 m2'] := by simpa using congrArg Array.toList e2
 subst f1 f2
 rw [NAt]
 refine ⟨none, 0, some ⟨h, 0, none⟩, c, rfl, ⟨rg_nil w, by simp, by simp⟩, fun _ => ⟨h, 0, rfl, heap_lt hh, fun i hi => ?_⟩⟩
 have h2 : i = 0 ∨ i = 1 := by simp at hi; omega
 rcases h2 with rfl | rfl
 ·exact ⟨_, _, _, _, _, _, by rw [Lib.cell_of_heap hh]; rfl, by rw [Lib.cell_of_heap hh]; rfl, by rw [Lib.cell_of_heap hh]; rfl, by rw [Lib.cell_of_heap hh]; rfl, by rw [Lib.cell_of_heap hh]; rfl, by rw [Lib.cell_of_heap hh]; rfl, hx0⟩
 ·exact ⟨_, _, _, _, _, _, by rw [Lib.cell_of_heap hh]; rfl, by rw [Lib.cell_of_heap hh]; rfl, by rw [Lib.cell_of_heap hh]; rfl, by rw [Lib.cell_of_heap hh]; rfl, by rw [Lib.cell_of_heap hh]; rfl, by rw [Lib.cell_of_heap hh]; rfl, hy0⟩
end Go.Proofs.YtihdnlpelfgklaaDoor
namespace Go.Proofs.YtihdnlpelfgklaaDoor
open Go.RowKit
def leafO : Obj := .cells #[.int .i64 97, .int .i64 98, .int .i64 32, .int .i64 49, .int .i64 120, .int .i64 46, .int .i64 45, .int .i64 61] 3
theorem leaf_at (k : Nat) (hk : k < 8) : ∃ x : Nat, x < 256 ∧ (∀ W : World, (W.alloc leafO).cell? ⟨W.heap.size, k, none⟩ = some (.int .i64 (x : Int))) := by
 match k, hk with
 | 0, _ => exact ⟨97, by decide, fun W => by simp [go_sem, leafO]⟩
 | 1, _ => exact ⟨98, by decide, fun W => by simp [go_sem, leafO]⟩
 | 2, _ => exact ⟨32, by decide, fun W => by simp [go_sem, leafO]⟩
 | 3, _ => exact ⟨49, by decide, fun W => by simp [go_sem, leafO]⟩
 | 4, _ => exact ⟨120, by decide, fun W => by simp [go_sem, leafO]⟩
 | 5, _ => exact ⟨46, by decide, fun W => by simp [go_sem, leafO]⟩
 | 6, _ => exact ⟨45, by decide, fun W => by simp [go_sem, leafO]⟩
 | 7, _ => exact ⟨61, by decide, fun W => by simp [go_sem, leafO]⟩
set_option maxRecDepth 100000 in
set_option maxHeartbeats 8000000 in
theorem leaf_any (g : Nat) (w : World) (hc : CodesAt w g) : Calls Tryd.prog 18 #[.pointer (some ⟨g, 0, none⟩)] w (NP g w) := by
 have HS0 := Lib.hid (NS.start hc)
 clear hc
 go_enter Tryd.func18, Tryd.ntmps18
 go_wp2_with fail
 refine (next_any g 10 _ HS0.out.gd.codes (by omega) (by omega)).mono ?_
 rintro e w1 ⟨q, hq, rfl, hca, hap⟩
 have HS := Lib.hid (HS0.out.go hap hca)
 clear hca hap HS0
 obtain ⟨k0, k1, k2, k3, k4, k5, f0, f1, f2, f3, f4, f5⟩ := bk6 HS.out.bk
 have hlt := HS.out.lt
 rcases (show q = 0 ∨ q = 1 ∨ q = 2 ∨ q = 3 ∨ q = 4 ∨ q = 5 ∨ 6 ≤ q by omega) with rfl | rfl | rfl | rfl | rfl | rfl | hq6
 ·go_wp2_with fail
  rw [nest6 w1]
  exact node_ret (P := 2) rfl HS.out _ _ rfl (by rfl) (NG.node (rs := []) RW.nil RW.nil 0 [] 0 0 (by simp)) (Sm.node (by simp) (by simp) (by simp))
 ·go_wp2_with fail
  rw [nest6 w1]
  exact node_ret (P := 2) rfl HS.out _ _ rfl (by rfl) (NG.node (rs := []) RW.nil RW.nil 6 [] 0 0 (by simp)) (Sm.node (by simp) (by simp) (by simp))
 ·go_wp2_with fail
  rw [nest6 w1]
  exact node_ret (P := 2) rfl HS.out _ _ rfl (by rfl) (NG.node (rs := []) RW.nil RW.nil 7 [] 0 0 (by simp)) (Sm.node (by simp) (by simp) (by simp))
 ·have HSA := Lib.hid (HS.out.al (.cells #[.int .u8 48, .int .u8 57] 47))
  have HR := Lib.hid (rg_lit (fun k => w.heap.size < k) w1 [((48 : UInt8), (57 : UInt8))] #[.int .u8 48, .int .u8 57] (by simp) hlt (fun i hi => by
   match i, hi with
   | 0, _ => exact ⟨rfl, rfl⟩) 47)
  have hne : w.heap.size ≠ w1.heap.size := Nat.ne_of_lt hlt
  go_wp2_with fail
  rw [nest6 w1, setL_alloc _ _ _ _ hlt]
  exact node_ret (P := 2) rfl HSA.out _ _ rfl (by rfl) (NG.node HR.out RW.nil 1 [] 0 0 (by simp)) (Sm.node (by simp) (by simp) (by simp))
 ·have HSA := Lib.hid (HS.out.al (.cells #[.int .u8 0, .int .u8 9, .int .u8 11, .int .u8 255] 47))
  have HR := Lib.hid (rg_lit (fun k => w.heap.size < k) w1 [((0 : UInt8), (9 : UInt8)), ((11 : UInt8), (255 : UInt8))] #[.int .u8 0, .int .u8 9, .int .u8 11, .int .u8 255] (by simp) hlt (fun i hi => by
   match i, hi with
   | 0, _ => exact ⟨rfl, rfl⟩
   | 1, _ => exact ⟨rfl, rfl⟩) 47)
  have hne : w.heap.size ≠ w1.heap.size := Nat.ne_of_lt hlt
  go_wp2_with fail
  rw [nest6 w1, setL_alloc _ _ _ _ hlt]
  exact node_ret (P := 2) rfl HSA.out _ _ rfl (by rfl) (NG.node HR.out RW.nil 1 [] 0 0 (by simp)) (Sm.node (by simp) (by simp) (by simp))
 ·have HSA := Lib.hid (HS.out.al (.cells #[.int .u8 97, .int .u8 99, .int .u8 120, .int .u8 122] 47))
  have HR := Lib.hid (rg_lit (fun k => w.heap.size < k) w1 [((97 : UInt8), (99 : UInt8)), ((120 : UInt8), (122 : UInt8))] #[.int .u8 97, .int .u8 99, .int .u8 120, .int .u8 122] (by simp) hlt (fun i hi => by
   match i, hi with
   | 0, _ => exact ⟨rfl, rfl⟩
   | 1, _ => exact ⟨rfl, rfl⟩) 47)
  have hne : w.heap.size ≠ w1.heap.size := Nat.ne_of_lt hlt
  go_wp2_with fail
  rw [nest6 w1, setL_alloc _ _ _ _ hlt]
  exact node_ret (P := 2) rfl HSA.out _ _ rfl (by rfl) (NG.node HR.out RW.nil 1 [] 0 0 (by simp)) (Sm.node (by simp) (by simp) (by simp))
 ·have z0 : ((q : Int) == 0) = false := by rw [beq_eq_false_iff_ne]; omega
  have z1 : ((q : Int) == 1) = false := by rw [beq_eq_false_iff_ne]; omega
  have z2 : ((q : Int) == 2) = false := by rw [beq_eq_false_iff_ne]; omega
  have z3 : ((q : Int) == 3) = false := by rw [beq_eq_false_iff_ne]; omega
  have z4 : ((q : Int) == 4) = false := by rw [beq_eq_false_iff_ne]; omega
  have z5 : ((q : Int) == 5) = false := by rw [beq_eq_false_iff_ne]; omega
  have HSA := Lib.hid (HS.out.al leafO)
  go_wp2_with fail
  refine (next_any g 8 _ HSA.out.gd.codes (by omega) (by omega)).mono ?_
  rintro e w2 ⟨k, hk, rfl, hca, hap⟩
  obtain ⟨x, hx, hcell⟩ := leaf_at k hk
  have hgl : g < w1.heap.size := HS.out.gd.codes.1
  have hc2 : w2.cell? ⟨w1.heap.size, k, none⟩ = some (.int .i64 (x : Int)) := (hap.cell (p := ⟨w1.heap.size, k, none⟩) (by show w1.heap.size ≠ g; omega) (by simp)).trans (hcell w1)
  have HS2 := Lib.hid (HSA.out.go hap hca)
  have i1 : (k : Int) < 8 := by omega
  have i2 : (0 : Int) ≤ (k : Int) := by omega
  clear hca hap hcell k0 k1 k2 k3 k4 k5 f0 f1 f2 f3 f4 f5 HS HSA
  obtain ⟨k0, k1, k2, k3, k4, k5, f0, f1, f2, f3, f4, f5⟩ := bk6 HS2.out.bk
  have hlt2 := HS2.out.lt
  have HSB := Lib.hid (HS2.out.al (.cells #[.int .u8 (x : Int), .int .u8 (x : Int)] 47))
  have HR := Lib.hid (rg_lit (fun k => w.heap.size < k) w2 [(UInt8.ofNat x, UInt8.ofNat x)] #[.int .u8 (x : Int), .int .u8 (x : Int)] (by simp) hlt2 (fun i hi => by
   match i, hi with
   | 0, _ => simp [Asc.ofNat_toNat8 hx]) 47)
  have hne : w.heap.size ≠ w2.heap.size := Nat.ne_of_lt hlt2
  have x1 : (x : Int) < 256 := by omega
  have x2 : (0 : Int) ≤ (x : Int) := by omega
  go_wp2_with fail
  rw [nest6 w2, setL_alloc _ _ _ _ hlt2]
  exact node_ret (P := 2) rfl HSB.out _ _ rfl (by rfl) (NG.node HR.out RW.nil 1 [] 0 0 (by simp)) (Sm.node (by simp) (by simp) (by simp))
end Go.Proofs.YtihdnlpelfgklaaDoor
namespace Go.Proofs.YtihdnlpelfgklaaDoor
open Go
def unl (l : Array Bool) : Nat → Nat
 | 0 => 0
 | n + 1 => unl l n + if l.getD n true then 0 else 1
theorem unl_le (l : Array Bool) : ∀ n, unl l n ≤ n
 | 0 => Nat.le_refl _
 | n + 1 => by
  have := unl_le l n
  unfold unl
  split <;> omega
theorem getD_set (l : Array Bool) (i k : Nat) (d : Bool) : (l.setIfInBounds i true).getD k d = if i = k ∧ k < l.size then true else l.getD k d := by
 simp only [Array.getD_eq_getD_getElem?, Array.getElem?_setIfInBounds]
 by_cases h : i = k
 ·subst h
  by_cases h2 : i < l.size <;> simp [h2]
 ·simp [h]
theorem getD_lt {l : Array Bool} {i : Nat} (h : l.getD i true = false) : i < l.size := by
 rcases Nat.lt_or_ge i l.size with c | c
 ·exact c
 ·simp [Array.getD_eq_getD_getElem?, Array.getElem?_eq_none c] at h
theorem getD_two {l : Array Bool} {i : Nat} (h : i < l.size) (d d' : Bool) : l.getD i d = l.getD i d' := by
 simp [Array.getD_eq_getD_getElem?, Array.getElem?_eq_getElem h]
theorem unl_past (l : Array Bool) (i : Nat) : ∀ n, n ≤ i → unl (l.setIfInBounds i true) n = unl l n
 | 0, _ => rfl
 | n + 1, h => by
  have e : (l.setIfInBounds i true).getD n true = l.getD n true := by rw [getD_set, if_neg (by omega)]
  rw [unl, unl, unl_past l i n (by omega), e]
theorem unl_set (l : Array Bool) (i : Nat) (hi : l.getD i true = false) : ∀ n, i < n → unl (l.setIfInBounds i true) n + 1 = unl l n
 | 0, h => by omega
 | n + 1, h => by
  rw [unl, unl]
  by_cases e : i = n
  ·subst e
   have e2 : (l.setIfInBounds i true).getD i true = true := by rw [getD_set, if_pos ⟨rfl, getD_lt hi⟩]
   rw [unl_past l i i (Nat.le_refl _), e2, hi]
   simp
  ·have e2 : (l.setIfInBounds i true).getD n true = l.getD n true := by rw [getD_set, if_neg (fun c => e c.1)]
   have := unl_set l i hi n (by omega)
   rw [e2]
   omega
theorem unl_zero (l : Array Bool) : ∀ n, unl l n = 0 → ∀ i, i < n → l.getD i true = true
 | 0, _, i, h => by omega
 | n + 1, h0, i, h => by
  rw [unl] at h0
  by_cases e : i = n
  ·subst e
   cases hl : l.getD i true with
   | true => rfl
   | false => rw [hl] at h0; simp at h0
  ·exact unl_zero l n (by omega) i (by omega)
section
variable {P : Program} {ops : Array Oper} {Q : Exit → Act → World → Prop}
theorem ready_mem {md : Region.Mode} {listed : Array Bool} {i : Nat} (h : i ∈ Region.ready md ops listed) :
  i < ops.size ∧ listed.getD i true = false ∧ ∀ o, ops[i]? = some o → ∀ e ∈ o.after, Region.binds md e = true → listed.getD e.on false = true := by
 unfold Region.ready at h
 rw [List.mem_filter, List.mem_range] at h
 obtain ⟨h1, h2⟩ := h
 rw [Bool.and_eq_true, Bool.not_eq_true'] at h2
 refine ⟨h1, h2.1, fun o ho e he hb => ?_⟩
 have h3 := h2.2
 rw [ho] at h3
 simp only [Option.map_some, Option.getD_some, Array.all_eq_true_iff_forall_mem] at h3
 have := h3 e he
 rw [hb] at this
 simpa using this
theorem ready_of {md : Region.Mode} {listed : Array Bool} {i : Nat} {o : Oper} (ho : ops[i]? = some o) (h2 : listed.getD i true = false) (h3 : ∀ e ∈ o.after, Region.binds md e = true → listed.getD e.on false = true) : i ∈ Region.ready md ops listed := by
 unfold Region.ready
 rw [List.mem_filter, List.mem_range]
 refine ⟨(Array.getElem?_eq_some_iff.1 ho).1, ?_⟩
 rw [Bool.and_eq_true, Bool.not_eq_true']
 refine ⟨h2, ?_⟩
 rw [ho]
 simp only [Option.map_some, Option.getD_some, Array.all_eq_true_iff_forall_mem]
 intro e he
 cases hb : Region.binds md e with
 | false => rfl
 | true => simpa using h3 e he hb
def edgesBack (ops : Array Oper) : Bool := (List.range ops.size).all fun i => ((ops[i]?).map (·.after.all fun e => decide (e.on < i))).getD true
theorem edges_back (h : edgesBack ops = true) {i : Nat} {o : Oper} (ho : ops[i]? = some o) (e : Edge) (he : e ∈ o.after) : e.on < i := by
 unfold edgesBack at h
 have := List.all_eq_true.1 h i (List.mem_range.2 (Array.getElem?_eq_some_iff.1 ho).1)
 rw [ho] at this
 simp only [Option.map_some, Option.getD_some, Array.all_eq_true_iff_forall_mem] at this
 simpa using this e he
theorem all_listed (h : edgesBack ops = true) {listed : Array Bool} (hr : Region.ready .any ops listed = []) (hs : listed.size = ops.size) : ∀ i, i < ops.size → listed.getD i true = true := by
 intro i
 induction i using Nat.strongRecOn with
 | ind i ih =>
  intro hi
  cases hl : listed.getD i true with
  | true => rfl
  | false =>
   have := ready_of (md := .any) (listed := listed) (Array.getElem?_eq_getElem hi) hl (fun e he _ => by
    have hb := edges_back h (Array.getElem?_eq_getElem hi) e he
    rw [getD_two (by omega) false true]
    exact ih e.on hb (by omega))
   rw [hr] at this
   cases this
theorem wpAny_facts (hb : edgesBack ops = true) (Base : Act → World → Prop) (F : Nat → Act → World → Prop)
  (hstep : ∀ i o, ops[i]? = some o → ∀ (a : Act) (w : World) (D : Nat → Prop), Base a w → (∀ k, D k → k < ops.size ∧ F k a w) → ¬ D i → (∀ e ∈ o.after, Region.binds .any e = true → D e.on) → wpOp P ops Q i (fun a' w' => Base a' w' ∧ ∀ k, D k ∨ k = i → F k a' w') a w)
  (hend : ∀ a w, Base a w → (∀ k, k < ops.size → F k a w) → Q .normal a w) : ∀ (fuel : Nat) (listed : Array Bool) (a : Act) (w : World), unl listed ops.size ≤ fuel → listed.size = ops.size → Base a w → (∀ k, listed.getD k false = true → F k a w) → wpAny P .any ops Q fuel listed a w := by
 intro fuel
 induction fuel with
 | zero =>
  intro listed a w hf hs hB hF
  have hall := unl_zero listed ops.size (by omega)
  refine ⟨?_, hend a w hB fun k hk => hF k (by rw [getD_two (by omega) false true]; exact hall k hk)⟩
  cases hr : Region.ready .any ops listed with
  | nil => rfl
  | cons x xs =>
   have hx := ready_mem (i := x) (by rw [hr]; simp)
   have := hall x hx.1
   rw [hx.2.1] at this
   cases this
 | succ fuel ih =>
  intro listed a w hf hs hB hF
  refine ⟨fun hr => hend a w hB fun k hk => hF k ?_, fun i hi => ?_⟩
  ·rw [getD_two (by omega) false true]
   exact all_listed hb hr hs k hk
  ·obtain ⟨h1, h2, h3⟩ := ready_mem hi
   have ho := Array.getElem?_eq_getElem h1
   have hD : ∀ k, listed.getD k false = true → k < ops.size ∧ F k a w := fun k hk => ⟨by
    rcases Nat.lt_or_ge k listed.size with c | c
    ·omega
    ·simp [Array.getD_eq_getD_getElem?, Array.getElem?_eq_none c] at hk, hF k hk⟩
   refine wpOp_mono (fun a' w' h => ?_) (hstep i _ ho a w (fun k => listed.getD k false = true) hB hD (fun hc => by rw [getD_two (getD_lt h2) false true, h2] at hc; cases hc) (h3 _ ho))
   refine ih _ a' w' (by have := unl_set listed i h2 ops.size h1; omega) (by simpa using hs) h.1 (fun k hk => h.2 k ?_)
   rw [getD_set] at hk
   by_cases e : i = k
   ·exact .inr e.symm
   ·rw [if_neg (fun c => e c.1)] at hk
    exact .inl hk
theorem wp_region_facts (hm : P.follows .mixedOrders = true) (hb : edgesBack ops = true) (Base : Act → World → Prop) (F : Nat → Act → World → Prop)
  (hstep : ∀ i o, ops[i]? = some o → ∀ (a : Act) (w : World) (D : Nat → Prop), Base a w → (∀ k, D k → k < ops.size ∧ F k a w) → ¬ D i → (∀ e ∈ o.after, Region.binds .any e = true → D e.on) → wpOp P ops Q i (fun a' w' => Base a' w' ∧ ∀ k, D k ∨ k = i → F k a' w') a w)
  (hend : ∀ a w, Base a w → (∀ k, k < ops.size → F k a w) → Q .normal a w) {id : Nat} {a : Act} {w : World} (h0 : Base a w.drew) : (Code.region id ops true).wp P Q a w :=
 wp_region_any hm (wpAny_facts hb Base F hstep hend ops.size _ a _ (unl_le _ _) (by simp) h0 (fun k hk => by
  simp [Array.getD_eq_getD_getElem?, Array.getElem?_replicate] at hk
  split at hk <;> simp at hk))
def dstOf (ops : Array Oper) (i : Nat) : Option Nat := (ops[i]?).bind (·.dst)
def slotOf (ops : Array Oper) (a : Act) (i : Nat) : Value :=
 match dstOf ops i with
 | some d => a.tmps.getD d undef
 | none => undef
def dstsApart (ops : Array Oper) (fx : List Nat) (N : Nat) : Bool :=
 (List.range ops.size).all fun i => match dstOf ops i with
  | some d => decide (d < N) && fx.all (fun s => decide (s ≠ d)) && (List.range ops.size).all (fun k => decide (k = i) || decide (dstOf ops k ≠ some d))
  | none => true
theorem put_same {a : Act} {d : Nat} (v : Value) (h : d < a.tmps.size) : (a.put (some d) v).tmps.getD d undef = v := by
 simp [Act.put, h]
theorem put_other {a : Act} {d s : Nat} (v : Value) (h : s ≠ d) : (a.put (some d) v).tmps.getD s undef = a.tmps.getD s undef := by
 simp only [Act.put, Array.getD_eq_getD_getElem?, Array.getElem?_setIfInBounds]
 rw [if_neg (fun e => h e.symm)]
theorem put_size {a : Act} (d : Option Nat) (v : Value) : (a.put d v).tmps.size = a.tmps.size := by
 cases d <;> simp [Act.put]
theorem put_defers {a : Act} (d : Option Nat) (v : Value) : (a.put d v).defers = a.defers := by
 cases d <;> simp [Act.put]
structure SlotBase (N : Nat) (df : List Deferred) (fx : List (Nat × Value)) (Inv : World → Prop) (a : Act) (w : World) : Prop where
 size : a.tmps.size = N
 defers : a.defers = df
 fixed : ∀ s v, (s, v) ∈ fx → a.tmps.getD s undef = v
 inv : Inv w
theorem wp_region_slots (hm : P.follows .mixedOrders = true) (hb : edgesBack ops = true) (hgd : (ops.all fun o => o.guard.isNone) = true) (N : Nat) (df : List Deferred) (fx : List (Nat × Value)) (ha : dstsApart ops (fx.map (·.1)) N = true)
  (Inv : World → Prop) (R : World → World → Prop) (G : Nat → Value → World → Prop) (hG : ∀ k v w w', R w w' → G k v w → G k v w')
  (hstep : ∀ i o, ops[i]? = some o → ∀ (a : Act) (w : World), SlotBase N df fx Inv a w → (∀ e ∈ o.after, Region.binds .any e = true → G e.on (slotOf ops a e.on) w) →
   ∀ K : Act → World → Prop, (∀ v w', R w w' → Inv w' → G i (match o.dst with | some _ => v | none => undef) w' → K (a.put o.dst v) w') → Oper.wp P o a w K Q)
  (hend : ∀ a w, SlotBase N df fx Inv a w → (∀ k, k < ops.size → G k (slotOf ops a k) w) → Q .normal a w) {id : Nat} {a : Act} {w : World} (h0 : SlotBase N df fx Inv a w.drew) : (Code.region id ops true).wp P Q a w := by
 refine wp_region_facts hm hb (SlotBase N df fx Inv) (fun k a w => G k (slotOf ops a k) w) (fun i o ho a w D hB hF hnD hd => wpOp_step ho fun K' hK => ?_) hend h0
 have hi : i < ops.size := (Array.getElem?_eq_some_iff.1 ho).1
 have hg : o.guard = none := by
  have := (Array.all_eq_true_iff_forall_mem.1 hgd) o (Array.mem_of_getElem? ho)
  simpa using this
 rw [if_pos (by simp [Region.wanted, hg])]
 have hdi : dstOf ops i = o.dst := by simp [dstOf, ho]
 have hap := List.all_eq_true.1 ha i (List.mem_range.2 hi)
 rw [hdi] at hap
 refine hstep i o ho a w hB (fun e he hbd => (hF e.on (hd e he hbd)).2) K' (fun v w' hR hI hGi => hK _ _ ⟨⟨(put_size _ _).trans hB.size, (put_defers _ _).trans hB.defers, fun s u hs => ?_, hI⟩, fun k hk => ?_⟩)
 ·cases hd' : o.dst with
  | none => exact hB.fixed s u hs
  | some d =>
   rw [hd'] at hap
   simp only [Bool.and_eq_true, List.all_eq_true, decide_eq_true_eq] at hap
   rw [put_other v (hap.1.2 s (List.mem_map.2 ⟨(s, u), hs, rfl⟩))]
   exact hB.fixed s u hs
 ·by_cases e : k = i
  ·subst e
   have : slotOf ops (a.put o.dst v) k = (match o.dst with | some _ => v | none => undef) := by
    unfold slotOf
    rw [hdi]
    cases hd' : o.dst with
    | none => rfl
    | some d =>
     rw [hd'] at hap
     simp only [Bool.and_eq_true, List.all_eq_true, decide_eq_true_eq] at hap
     exact put_same v (by rw [hB.size]; exact hap.1.1)
   rw [this]
   exact hGi
  ·have hk' := hk.resolve_right e
   have hold := (hF k hk').2
   have hkl := (hF k hk').1
   have : slotOf ops (a.put o.dst v) k = slotOf ops a k := by
    unfold slotOf
    cases hk2 : dstOf ops k with
    | none => rfl
    | some s =>
     cases hd' : o.dst with
     | none => rfl
     | some d =>
      rw [hd'] at hap
      simp only [Bool.and_eq_true, List.all_eq_true, decide_eq_true_eq, Bool.or_eq_true, List.mem_range] at hap
      have h3 := (hap.2 k hkl).resolve_left e
      exact put_other v (fun h => h3 (by rw [hk2, h]))
   rw [this]
   exact hG k _ _ _ hR hold
end
end Go.Proofs.YtihdnlpelfgklaaDoor
namespace Go.Proofs.YtihdnlpelfgklaaDoor
open Go.RowKit
def Blk (b0 : Nat) (W : World) (b : Nat) (o : Obj) : Prop := b0 < b ∧ b < W.heap.size ∧ W.heap[b]? = some o
def UP (b0 : Nat) (W W' : World) : Prop := W.heap.size ≤ W'.heap.size ∧ ∀ k, b0 < k → k < W.heap.size → W'.heap[k]? = W.heap[k]?
theorem UP.refl (b0 : Nat) (W : World) : UP b0 W W := ⟨Nat.le_refl _, fun _ _ _ => rfl⟩
theorem UP.al (b0 : Nat) (W : World) (o : Obj) : UP b0 W (W.alloc o) := ⟨by simp, fun k _ h => ((Below.refl _ W).alloc (Nat.le_refl _) o).block k h⟩
theorem UP.ap {g b0 : Nat} {W W' : World} (h : Apart g W W') (hg : g ≤ b0) : UP b0 W W' := ⟨h.1.size, fun k h1 h2 => h.block (by omega) h2⟩
theorem UP.stay {b0 : Nat} {W W' : World} (h : UP b0 W W') : Stay (fun k => b0 < k) (fun k => b0 < k) W W' := ⟨h.1, fun k hk hl => ⟨hk, h.2 k hk hl⟩⟩
theorem Blk.up {b0 b : Nat} {W W' : World} {o : Obj} (h : Blk b0 W b o) (hR : UP b0 W W') : Blk b0 W' b o := ⟨h.1, Nat.lt_of_lt_of_le h.2.1 hR.1, (hR.2 b h.1 h.2.1).trans h.2.2⟩
theorem Blk.new {b0 : Nat} {W : World} (h : b0 < W.heap.size) (o : Obj) : Blk b0 (W.alloc o) W.heap.size o := ⟨h, by simp, heap_alloc_new W o⟩
def Cres (b0 : Nat) (W : World) : Prop := ∃ (op : Int) (ra : Option Addr) (rn rc : Nat) (nm : List UInt8) (a : Option Addr) (n cp : Nat) (mn mx : Int) (t : NT), BK b0 6 (nE op ra rn rc nm a n cp mn mx) W ∧ NG (fun k => b0 < k) W t (.agg #[.int .i64 op, .slice ra rn rc, .string ⟨nm.toArray⟩, .slice a n cp, .int .i64 mn, .int .i64 mx]) ∧ Sm 1000 t
def CI (g : Nat) (w W : World) : Prop := GD g w W ∧ ∃ E, BK w.heap.size 6 E W
def CRr (w W W' : World) : Prop := UP w.heap.size W W' ∧ (Cres w.heap.size W → Cres w.heap.size W')
theorem Cres.up {b0 : Nat} {W W' : World} (h : Cres b0 W) (hu : UP b0 W W') (hb : W'.heap[b0]? = W.heap[b0]?) : Cres b0 W' := by
 obtain ⟨op, ra, rn, rc, nm, a, n, cp, mn, mx, t, h1, h2, h3⟩ := h
 exact ⟨op, ra, rn, rc, nm, a, n, cp, mn, mx, t, h1.keep hb hu.1, NG.go hu.stay _ _ h2, h3⟩
theorem CRr.refl (w W : World) : CRr w W W := ⟨UP.refl _ _, id⟩
theorem CI.lt {g : Nat} {w W : World} (h : CI g w W) : w.heap.size < W.heap.size := h.2.choose_spec.lt
theorem CRr.al {g : Nat} {w W : World} (h : CI g w W) (o : Obj) : CRr w W (W.alloc o) := ⟨UP.al _ _ _, fun c => c.up (UP.al _ _ _) (((Below.refl _ W).alloc (Nat.le_refl _) o).block _ h.lt)⟩
theorem CRr.ap {g : Nat} {w W W' : World} (h : CI g w W) (ha : Apart g W W') : CRr w W W' := ⟨UP.ap ha (Nat.le_of_lt h.1.hg), fun c => c.up (UP.ap ha (Nat.le_of_lt h.1.hg)) (ha.block (by have := h.1.hg; omega) h.lt)⟩
theorem CI.al {g : Nat} {w W : World} (h : CI g w W) (o : Obj) : CI g w (W.alloc o) := ⟨h.1.al o, h.2.choose, h.2.choose_spec.al o⟩
theorem CI.ap {g : Nat} {w W W' : World} (h : CI g w W) (ha : Apart g W W') (hc : CodesAt W' g) : CI g w W' := ⟨h.1.go ha hc, h.2.choose, h.2.choose_spec.go ha (by have := h.1.hg; omega)⟩
theorem bk_set6 {b : Nat} {E : Nat → Value} {W : World} (h : BK b 6 E W) (op : Int) (ra : Option Addr) (rn rc : Nat) (nm : List UInt8) (a : Option Addr) (n cp : Nat) (mn mx : Int) :
  BK b 6 (nE op ra rn rc nm a n cp mn mx) (setL W b [.int .i64 op, .slice ra rn rc, .string ⟨nm.toArray⟩, .slice a n cp, .int .i64 mn, .int .i64 mx] 0) :=
 ((((((h.set 0 (by omega) (.int .i64 op)).set 1 (by omega) (.slice ra rn rc)).set 2 (by omega) (.string ⟨nm.toArray⟩)).set 3 (by omega) (.slice a n cp)).set 4 (by omega) (.int .i64 mn)).set 5 (by omega) (.int .i64 mx)).cong fun i hi => by
  match i, hi with
  | 0, _ => rfl
  | 1, _ => rfl
  | 2, _ => rfl
  | 3, _ => rfl
  | 4, _ => rfl
  | 5, _ => rfl
theorem node_ret2 {fn : Func} {P : Tmp} (hfn : fn.results = #[.cell P 29]) {w W : World} {g : Nat} (hG : GD g w W) (hC : Cres w.heap.size W) (a : Act) (hdf : a.defers = []) (hp : a.tmps.getD P undef = .pointer (some ⟨w.heap.size, 0, none⟩)) :
  bodyPost Tryd.prog fn (NP g w) Exit.ret a W := by
 obtain ⟨op, ra, rn, rc, nm, ad, n, cp, mn, mx, t, hB, hT, hn⟩ := hC
 have hc : ∀ j v, [Value.int .i64 op, .slice ra rn rc, .string ⟨nm.toArray⟩, .slice ad n cp, .int .i64 mn, .int .i64 mx][j]? = some v → W.cell? ⟨w.heap.size, j, none⟩ = some v := fun j v hv => by
  have hj : j < 6 := (List.getElem?_eq_some_iff.1 hv).1
  rw [hB.ev j hj]
  match j, hj with
  | 0, _ => exact hv
  | 1, _ => exact hv
  | 2, _ => exact hv
  | 3, _ => exact hv
  | 4, _ => exact hv
  | 5, _ => exact hv
 obtain ⟨tmps, df⟩ := a
 exact bodyPost_ret (results_item (ty := 29) hfn tmps _ w.heap.size [.int .i64 op, .slice ra rn rc, .string ⟨nm.toArray⟩, .slice ad n cp, .int .i64 mn, .int .i64 mx] _ hp hc Tryd.underlying29 rfl (by kernel_rfl)) hdf ⟨_, t, rfl, NG.go ⟨Nat.le_refl _, fun k hk _ => ⟨Nat.le_of_lt hk, rfl⟩⟩ _ _ hT, hG, hn⟩
def CG (g : Nat) (w : World) (d : Nat) (k : Nat) (v : Value) (W : World) : Prop :=
 match k with
 | 0 => v = .pointer (some ⟨g, 0, none⟩)
 | 1 => ∃ k : Nat, k < 26 ∧ v = .int .i64 k
 | 2 => ∃ k : Nat, k < 26 ∧ v = .int .i64 (97 + (k : Int))
 | 3 => ∃ x : UInt8, v = .int .u8 (x.toNat : Int)
 | 4 => v = .pointer (some ⟨g, 0, none⟩)
 | 5 => ∃ k : Nat, k < 26 ∧ v = .int .i64 k
 | 6 => ∃ k : Nat, k < 26 ∧ v = .int .i64 (97 + (k : Int))
 | 7 => ∃ x : UInt8, v = .int .u8 (x.toNat : Int)
 | 8 => ∃ (q : Nat) (x y : UInt8), v = .slice (some ⟨q, 0, none⟩) 2 2 ∧ Blk w.heap.size W q (.cells #[.int .u8 (x.toNat : Int), .int .u8 (y.toNat : Int)] 5)
 | 9 => ∃ y : List UInt8, y.length ≤ 1000 ∧ v = .string ⟨y.toArray⟩
 | 10 => v = .pointer (some ⟨g, 0, none⟩)
 | 11 => v = .int .i64 (d + 1 : Nat)
 | 12 => v = .int .i64 (d : Int)
 | 13 => ∃ t, NG (fun k => w.heap.size < k) W t v ∧ Sm 1000 t
 | 14 => ∃ (q : Nat) (t : NT), v = .slice (some ⟨q, 0, none⟩) 1 1 ∧ RW (fun k => w.heap.size < k) 6 (KR (fun k => w.heap.size < k) W) W [t] v ∧ Sm 1000 t
 | 15 => ∃ (y : List UInt8) (q : Nat) (t : NT), v = .agg #[.int .i64 5, .slice none 0 0, .string ⟨y.toArray⟩, .slice (some ⟨q, 0, none⟩) 1 1, .int .i64 0, .int .i64 0] ∧ NG (fun k => w.heap.size < k) W t v ∧ Sm 1000 t
 | 16 => Cres w.heap.size W
 | _ => True
theorem CG.keep (g : Nat) (w : World) (d : Nat) : ∀ k v W W', CRr w W W' → CG g w d k v W → CG g w d k v W' := by
 intro k v W W' hR h
 have hs := hR.1.stay
 unfold CG at *
 split at h
 ·exact h
 ·exact h
 ·exact h
 ·exact h
 ·exact h
 ·exact h
 ·exact h
 ·exact h
 ·obtain ⟨q, x, y, h1, h2⟩ := h
  exact ⟨q, x, y, h1, h2.up hR.1⟩
 ·exact h
 ·exact h
 ·exact h
 ·exact h
 ·obtain ⟨t, h, h9⟩ := h
  exact ⟨t, NG.go hs _ _ h, h9⟩
 ·obtain ⟨q, t, h1, h2, h9⟩ := h
  exact ⟨q, t, h1, h2.go hs (fun _ _ h => NG.go hs _ _ h), h9⟩
 ·obtain ⟨y, q, t, h1, h2, h9⟩ := h
  exact ⟨y, q, t, h1, NG.go hs _ _ h2, h9⟩
 ·exact hR.2 h
 ·trivial
def BG (g : Nat) (w : World) (b : Nat) (m : Nat) (k : Nat) (v : Value) (W : World) : Prop :=
 match k with
 | 0 => v = .pointer (some ⟨b, 4, none⟩)
 | 1 => v = .int .i64 (m : Int)
 | 2 => v = .pointer (some ⟨b, 4, none⟩)
 | 3 => v = .int .i64 (m : Int)
 | 4 => ∃ y : Int, v = .int .i64 y
 | 5 => v = .pointer (some ⟨b, 4, none⟩)
 | 6 => v = .int .i64 (m : Int)
 | 7 => ∃ y : Int, v = .int .i64 y
 | 8 => ∃ (q : Nat) (y0 y1 y2 y3 : Int), v = .slice (some ⟨q, 0, none⟩) 4 4 ∧ b < q ∧ Blk w.heap.size W q (.cells #[.int .i64 y0, .int .i64 y1, .int .i64 y2, .int .i64 y3] 3)
 | 9 => v = .pointer (some ⟨g, 0, none⟩)
 | 10 => ∃ k : Nat, k < 4 ∧ v = .int .i64 k
 | 11 => ∃ (q k : Nat) (y0 y1 y2 y3 : Int), k < 4 ∧ v = .pointer (some ⟨q, k, none⟩) ∧ b < q ∧ Blk w.heap.size W q (.cells #[.int .i64 y0, .int .i64 y1, .int .i64 y2, .int .i64 y3] 3)
 | 12 => ∃ y : Int, v = .int .i64 y
 | 13 => v = .pointer (some ⟨b, 5, none⟩)
 | _ => True
def BRr (w : World) (b : Nat) (W W' : World) : Prop := W.heap.size ≤ W'.heap.size ∧ ∀ k, w.heap.size < k → k ≠ b → k < W.heap.size → W'.heap[k]? = W.heap[k]?
theorem BG.keep (g : Nat) (w : World) (b m : Nat) : ∀ k v W W', BRr w b W W' → BG g w b m k v W → BG g w b m k v W' := by
 intro k v W W' hR h
 have hb : ∀ {q : Nat} {o : Obj}, b < q → Blk w.heap.size W q o → Blk w.heap.size W' q o := fun hq h => ⟨h.1, Nat.lt_of_lt_of_le h.2.1 hR.1, (hR.2 _ h.1 (by omega) h.2.1).trans h.2.2⟩
 unfold BG at *
 split at h
 ·exact h
 ·exact h
 ·exact h
 ·exact h
 ·exact h
 ·exact h
 ·exact h
 ·exact h
 ·obtain ⟨q, y0, y1, y2, y3, h1, h2, h3⟩ := h
  exact ⟨q, y0, y1, y2, y3, h1, h2, hb h2 h3⟩
 ·exact h
 ·exact h
 ·obtain ⟨q, k, y0, y1, y2, y3, h0, h1, h2, h3⟩ := h
  exact ⟨q, k, y0, y1, y2, y3, h0, h1, h2, hb h2 h3⟩
 ·exact h
 ·exact h
 ·trivial
theorem four_at {k : Nat} (hk : k < 4) {W : World} {b : Nat} {y0 y1 y2 y3 : Int} (h : W.heap[b]? = some (.cells #[.int .i64 y0, .int .i64 y1, .int .i64 y2, .int .i64 y3] 3)) : ∃ y : Int, W.cell? ⟨b, k, none⟩ = some (.int .i64 y) := by
 rw [Lib.cell_of_heap h]
 match k, hk with
 | 0, _ => exact ⟨_, rfl⟩
 | 1, _ => exact ⟨_, rfl⟩
 | 2, _ => exact ⟨_, rfl⟩
 | 3, _ => exact ⟨_, rfl⟩
def FB (w : World) (b : Nat) : Nat → Prop := fun k => w.heap.size < k ∧ k ≠ b
structure BI (g : Nat) (w : World) (b : Nat) (ka : Option Addr) (m : Nat) (t : NT) (W : World) : Prop where
 ns : NS g w W
 bk : ∃ x : Int, BK b 6 (nE 4 none 0 0 [] ka 1 1 (m : Int) x) W
 row : RW (FB w b) 6 (KR (FB w b) W) W [t] (.slice ka 1 1)
 hb : w.heap.size < b
section
variable {g b m : Nat} {w W W' : World} {ka : Option Addr} {t : NT}
theorem BI.al (h : BI g w b ka m t W) (o : Obj) : BI g w b ka m t (W.alloc o) :=
 ⟨h.ns.al o, ⟨h.bk.choose, h.bk.choose_spec.al o⟩, h.row.go ⟨by simp, fun k hk hl => ⟨hk, ((Below.refl _ W).alloc (Nat.le_refl _) o).block k hl⟩⟩ (fun _ _ h => NG.go ⟨by simp, fun k hk hl => ⟨hk, ((Below.refl _ W).alloc (Nat.le_refl _) o).block k hl⟩⟩ _ _ h), h.hb⟩
theorem BI.dr (h : BI g w b ka m t W) : BI g w b ka m t W.drew := by
 have hS : Stay (FB w b) (FB w b) W W.drew := ⟨Nat.le_refl _, fun k hk _ => ⟨hk, rfl⟩⟩
 exact ⟨h.ns.dr, ⟨h.bk.choose, h.bk.choose_spec.dr⟩, h.row.go hS (fun _ _ h => NG.go hS _ _ h), h.hb⟩
theorem BI.ap (h : BI g w b ka m t W) (ha : Apart g W W') (hc : CodesAt W' g) : BI g w b ka m t W' := by
 have hg := h.ns.gd.hg
 have hS : Stay (FB w b) (FB w b) W W' := ⟨ha.1.size, fun k hk hl => ⟨hk, ha.block (by have := hk.1; omega) hl⟩⟩
 exact ⟨h.ns.go ha hc, ⟨h.bk.choose, h.bk.choose_spec.go ha (by have := h.hb; omega)⟩, h.row.go hS (fun _ _ h => NG.go hS _ _ h), h.hb⟩
theorem BI.set (h : BI g w b ka m t W) (y : Int) : BI g w b ka m t (W.setCell ⟨b, 5, none⟩ (.int .i64 y)) := by
 have hS : Stay (FB w b) (FB w b) W (W.setCell ⟨b, 5, none⟩ (.int .i64 y)) := ⟨by simp, fun k hk _ => ⟨hk, Below.heap_setCell _ _ _ k (by have := hk.2; simpa using this)⟩⟩
 obtain ⟨x, hx⟩ := h.bk
 exact ⟨h.ns.set h.hb _ _, ⟨y, (hx.set 5 (by omega) (.int .i64 y)).cong fun i hi => by
  match i, hi with
  | 0, _ => rfl
  | 1, _ => rfl
  | 2, _ => rfl
  | 3, _ => rfl
  | 4, _ => rfl
  | 5, _ => rfl⟩, h.row.go hS (fun _ _ h => NG.go hS _ _ h), h.hb⟩
end
theorem BRr.refl (w : World) (b : Nat) (W : World) : BRr w b W W := ⟨Nat.le_refl _, fun _ _ _ _ => rfl⟩
theorem BRr.al (w : World) (b : Nat) (W : World) (o : Obj) : BRr w b W (W.alloc o) := ⟨by simp, fun k _ _ h => ((Below.refl _ W).alloc (Nat.le_refl _) o).block k h⟩
theorem BRr.ap {g : Nat} {w W W' : World} (b : Nat) (ha : Apart g W W') (hg : g < w.heap.size) : BRr w b W W' := ⟨ha.1.size, fun k h1 _ h2 => ha.block (by omega) h2⟩
theorem BRr.set (w : World) (b : Nat) (W : World) (v : Value) : BRr w b W (W.setCell ⟨b, 5, none⟩ v) := ⟨by simp, fun k _ h _ => Below.heap_setCell _ _ _ k (by simpa using h)⟩
theorem conv2 (W : World) (q : Nat) (x y : UInt8) (h : W.heap[q]? = some (.cells #[.int .u8 (x.toNat : Int), .int .u8 (y.toNat : Int)] 5)) : (convert 22 9 (.slice (some ⟨q, 0, none⟩) 2 2)).run Tryd.prog W = .ok (.string ⟨#[x, y]⟩) W :=
 run_convert_bytes_back (P := Tryd.prog) W 22 9 5 ⟨q, 0, none⟩ 2 [x, y] Tryd.underlying22 Tryd.underlying5 Tryd.underlying9 (fun j hj => by
  rw [addp, Nat.zero_add, Lib.cell_of_heap h]
  match j, hj with
  | 0, _ => rfl
  | 1, _ => rfl)
end Go.Proofs.YtihdnlpelfgklaaDoor

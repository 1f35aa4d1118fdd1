/-
 Joined: LbH, LbI, LbJ, LbK, LbLa.
-/
import Derived.Test.YtgcpinnnfoanjaaGreatDoorRdB
import Derived.Test.YtgcpinnnfoanjaaGreatDoorRdK
import Derived.Test.YtgcpinnnfoanjaaGreatDoorRdZa
import Derived.Deep.RegionHeld3
namespace Go.Proofs.YtgcpinnnfoanjaaGreatDoor
open Go.RowKit
theorem expand_any (l : List Lb.Def) (v : Value) (hl40 : l.length ≤ 40) (hls : ∀ i (h : i < l.length), l[i].2.length ≤ 900000) : ∀ N, ExpAt l v N
 | 0 => ExpAt.zero l v
 | N + 1 => ExpAt.succ l v hl40 hls N (expand_any l v hl40 hls N)
def Lb.runM (l : List Lb.Def) (s : List UInt8) : Lb.Res := Lb.expM l (l.length + 1) s []
theorem Lb.freeN_le (n : Nat) (b : List Nat) : Lb.freeN n b ≤ n := by
 unfold Lb.freeN
 have := List.countP_le_length (p := fun i => decide (i ∉ b)) (l := List.range n)
 simpa using this
theorem Lb.runM_err (l : List Lb.Def) (s : List UInt8) : Lb.runM l s ≠ .error 0 := Lb.expM_err l _ s [] (Nat.lt_succ_of_le (Lb.freeN_le _ _))
def Fit (l : List Lb.Def) : Prop := l.length ≤ 40 ∧ ∀ i (h : i < l.length), l[i].2.length ≤ 900000
set_option maxHeartbeats 4000000 in
set_option maxRecDepth 1000000 in
theorem exp_any (l : List Lb.Def) (v : Value) (hf : Fit l) (s : List UInt8) (w : World) (hk : KM w) (hd : DfAt w l v) (hs : s.length ≤ 900000) :
  Calls Tryz.prog 14 #[v, .string ⟨s.toArray⟩] w fun e w' => e = .returned (expV (Lb.runM l s)) ∧ Below w.heap.size w w' := by
 have hv := (zero_of_info infoBu).1
 have HE := Lib.hid (expand_any l v hf.1 hf.2 (l.length + 1) s [] w hk hd hs (Nat.lt_succ_of_le (Lb.freeN_le _ _)))
 obtain ⟨a, c, rfl, _⟩ := hd
 obtain ⟨R, hR⟩ : ∃ R, Lb.expM l (l.length + 1) s [] = R := ⟨_, rfl⟩
 have HR : Hid (Lb.runM l s = R) := Lib.hid hR
 rw [hR] at HE
 clear hR hk hf
 cases R with
 | ok t =>
  dsimp only [expV] at HE
  go_enter Tryz.func14, Tryz.ntmps14
  go_wp2_with fail
  refine HE.out.mono ?_
  rintro e w1 ⟨rfl, hb⟩
  have HB := Lib.hid hb
  clear hb
  go_wp2_with fail
  go_ret2
  exact ⟨by rw [HR.out]; rfl, HB.out⟩
 | error k =>
  dsimp only [expV] at HE
  go_enter Tryz.func14, Tryz.ntmps14
  go_wp2_with fail
  refine HE.out.mono ?_
  rintro e w1 ⟨rfl, hb⟩
  have HB := Lib.hid hb
  clear hb
  go_wp2_with fail
  go_ret2
  exact ⟨by rw [HR.out]; rfl, HB.out⟩
theorem results_item2 {P : Program} {fn : Func} {p t : Tmp} {ty : TypeId} (h : fn.results = #[.cell p ty, .tmp t]) (tmps : Array Value) (w : World) (g : Nat) (cs : List Value) (d : TypeDesc)
  (hp : tmps.getD p undef = .pointer (some ⟨g, 0, none⟩)) (hc : ∀ j v, cs[j]? = some v → w.cell? ⟨g, j, none⟩ = some v)
  (hu : P.underlying ty = some d) (hd : (match d with | .struct _ | .array _ _ => true | _ => false) = true) (hi : (P.info? ty).map (·.size) = some cs.length) :
  (results fn tmps).run P w = .ok (.tuple #[.agg cs.toArray, tmps.getD t undef]) w := by
 have hl : (loadCells ⟨g, 0, none⟩ cs.length).run P w = .ok cs.toArray w :=
  run_loadCells_list (P := P) w ⟨g, 0, none⟩ cs (fun j v hv => by
   have hadd : (⟨g, 0, none⟩ : Addr).add j = ⟨g, j, none⟩ := by unfold Addr.add; split <;> simp_all
   rw [hadd]
   exact hc j v hv)
 have hv : (loadVar ty ⟨g, 0, none⟩).run P w = .ok (.agg cs.toArray) w := by
  cases hq : P.info? ty with
  | none => simp [hq] at hi
  | some i =>
   have hs : i.size = cs.length := by simpa [hq] using hi
   have hagg : (isAgg ty).run P w = .ok true w := by
    unfold isAgg
    rw [Sem.run_bind, run_underlying hu w]
    cases d <;> simp_all
   simp [loadVar, Sem.run_bind, hagg, sizeOf, typeInfo, hq, hs, hl]
 have hp' : tmps[p]?.getD undef = .pointer (some ⟨g, 0, none⟩) := by simpa using hp
 simp [results, h, hp', asAddr, hv]
theorem bk6v {b : Nat} {op : Int} {ra : Option Addr} {rn rc : Nat} {nm : List UInt8} {a : Option Addr} {n cp : Nat} {mn mx : Int} {W : World} (h : BK b 6 (nE op ra rn rc nm a n cp mn mx) W) : W.cell? ⟨b, 0, none⟩ = some (.int .i64 op) ∧ W.cell? ⟨b, 1, none⟩ = some (.slice ra rn rc) ∧ W.cell? ⟨b, 2, none⟩ = some (.string ⟨nm.toArray⟩) ∧ W.cell? ⟨b, 3, none⟩ = some (.slice a n cp) ∧ W.cell? ⟨b, 4, none⟩ = some (.int .i64 mn) ∧ W.cell? ⟨b, 5, none⟩ = some (.int .i64 mx) :=
 ⟨h.ev 0 (by omega), h.ev 1 (by omega), h.ev 2 (by omega), h.ev 3 (by omega), h.ev 4 (by omega), h.ev 5 (by omega)⟩
noncomputable def Lb.compM (l : List Lb.Def) (s : List UInt8) : Nat := match Lb.runM l s with
 | .error k => k
 | .ok t => (parM t).2.2
noncomputable def Lb.compT (l : List Lb.Def) (s : List UInt8) : NT := match Lb.runM l s with
 | .error _ => zeroT
 | .ok t => if (parM t).2.2 = 0 then (parM t).1.getD zeroT else zeroT
def CompP (K : Nat) (w : World) (e : Ending) (w' : World) : Prop := (∃ (op : Int) (ra : Option Addr) (rn rc : Nat) (nm : List UInt8) (ca : Option Addr) (cn cc : Nat) (mn mx : Int), e = .returned (.tuple #[.agg #[.int .i64 op, .slice ra rn rc, .string ⟨nm.toArray⟩, .slice ca cn cc, .int .i64 mn, .int .i64 mx], .int .i64 (K : Int)])) ∧ Below w.heap.size w w'
def CompY (K : Nat) (T : NT) (w : World) (e : Ending) (w' : World) : Prop := ∃ v, e = .returned (.tuple #[v, .int .i64 (K : Int)]) ∧ NG (fun k => w.heap.size ≤ k) w' T v ∧ Below w.heap.size w w'
theorem CompY.p {K : Nat} {T : NT} {w : World} {e : Ending} {w' : World} (h : CompY K T w e w') : CompP K w e w' := by
 obtain ⟨v, rfl, hng, hb⟩ := h
 obtain ⟨op, rs, nm, kk, mn, mx, ra, rc, ca, cc, _, rfl, _⟩ := hng.open
 exact ⟨⟨op, ra, _, rc, nm, ca, _, cc, mn, mx, rfl⟩, hb⟩
theorem comp_ret {fn : Func} {P t : Tmp} (hfn : fn.results = #[.cell P 38, .tmp t]) {w W : World} {E : Nat → Value} (hS : BK w.heap.size 6 E W) {tmps : Array Value} (hp : tmps.getD P undef = .pointer (some ⟨w.heap.size, 0, none⟩)) {v0 v1 v2 v3 v4 v5 : Value} {k : Nat} {T : NT}
  (h1 : tmps.getD t undef = .int .i64 (k : Int)) (hT : NG (fun k => w.heap.size < k) W T (.agg #[v0, v1, v2, v3, v4, v5])) (hb : Below w.heap.size w W) : bodyPost Tryz.prog fn (CompY k T w) Exit.ret { tmps := tmps, defers := [] } (setL W w.heap.size [v0, v1, v2, v3, v4, v5] 0) := by
 have hc := setL_at (b := w.heap.size) [v0, v1, v2, v3, v4, v5] W 0 (fun j _ hj => ⟨_, hS.ev j (by simpa using hj)⟩)
 have hbl := setL_below (B := w.heap.size) (b := w.heap.size) (Nat.le_refl _) [v0, v1, v2, v3, v4, v5] W 0
 refine bodyPost_ret (results_item2 (ty := 38) hfn tmps _ w.heap.size [v0, v1, v2, v3, v4, v5] _ hp (fun j v hv => by have := hc j v hv; rwa [Nat.zero_add] at this) Tryz.underlying38 rfl (by kernel_rfl)) rfl ⟨_, by rw [h1], NG.go ⟨hbl.size, fun j hj _ => ⟨Nat.le_of_lt hj, setL_heap _ (Nat.ne_of_gt hj) _ _⟩⟩ _ _ hT, hb.trans hbl⟩
set_option maxHeartbeats 8000000 in
set_option maxRecDepth 1000000 in
theorem comp_full (l : List Lb.Def) (v : Value) (hf : Fit l) (s : List UInt8) (w : World) (hk : KM w) (hd : DfAt w l v) (hs : s.length ≤ 900000) :
  Calls Tryz.prog 16 #[v, .string ⟨s.toArray⟩] w (CompY (Lb.compM l s) (Lb.compT l s) w) := by
 have hal := al_below w (.cells #[.int .i64 0, .slice none 0 0, .string ⟨#[]⟩, .slice none 0 0, .int .i64 0, .int .i64 0] 38)
 have HK0 := Lib.hid (nE_new w 0 none 0 0 [] none 0 0 0 0)
 have HKM := Lib.hid (hk.below hal)
 have HB0 := Lib.hid hal
 have HE := Lib.hid (exp_any l v hf s _ (hk.below hal) (hd.later hal) hs)
 have HLT : Hid (w.heap.size < (w.alloc (.cells #[.int .i64 0, .slice none 0 0, .string ⟨#[]⟩, .slice none 0 0, .int .i64 0, .int .i64 0] 38)).heap.size) := Lib.hid (by simp)
 have HNZ := Lib.hid (Lb.runM_err l s)
 have HLE := Lib.hid (fun t (h : Lb.runM l s = .ok t) => Lb.expM_len l _ s [] t h)
 obtain ⟨a, c, rfl, _⟩ := hd
 obtain ⟨R, hR⟩ : ∃ R, Lb.runM l s = R := ⟨_, rfl⟩
 have HR := Lib.hid hR
 rw [hR] at HE HNZ HLE
 obtain ⟨KK, hKK⟩ : ∃ K, Lb.compM l s = K := ⟨_, rfl⟩
 have HKK := Lib.hid hKK
 unfold Lb.compM at HKK
 rw [hR] at HKK
 obtain ⟨TT, hTT⟩ : ∃ T, Lb.compT l s = T := ⟨_, rfl⟩
 have HTT := Lib.hid hTT
 unfold Lb.compT at HTT
 rw [hR] at HTT
 rw [hKK, hTT]
 clear hk hf hR hal hKK hTT
 go_enter Tryz.func16, Tryz.ntmps16
 go_wp2_with fail
 refine HE.out.mono ?_
 rintro e w1 ⟨rfl, hb⟩
 have HB1 := Lib.hid (HB0.out.trans (hb.mono HB0.out.size))
 have HK1 := Lib.hid (HK0.out.on hb HLT.out)
 have HM1 := Lib.hid (HKM.out.below hb)
 have HS1 := Lib.hid (Nat.lt_of_lt_of_le HLT.out hb.size)
 clear hb HE HB0 HK0 HKM HLT
 cases R with
 | error k =>
  have z1 : ((k : Int) == 0) = false := by rw [beq_eq_false_iff_ne]; intro h; exact HNZ.out (by congr 1; omega)
  obtain ⟨k0, k1, k2, k3, k4, k5, f0, f1, f2, f3, f4, f5⟩ := bk6 HK1.out
  obtain rfl : k = KK := HKK.out
  obtain rfl : zeroT = TT := HTT.out
  dsimp only [expV]
  go_wp2_with fail
  rw [nest6 w1]
  exact comp_ret (P := 4) rfl HK1.out (by rfl) (by rfl) zero_ng HB1.out
 | ok t =>
  dsimp only [expV]
  have HP := Lib.hid (parse_full t w1 HM1.out.1)
  go_wp2_with fail
  refine HP.out.mono ?_
  rintro e w2 ⟨v, T, rfl, hng, hb, hpa, hpz⟩
  have HB2 := Lib.hid (HB1.out.trans (hb.mono HB1.out.size))
  have HK2 := Lib.hid (HK1.out.on hb HS1.out)
  have HN2 : Hid (NG (fun k => w.heap.size < k) w2 T v) := Lib.hid (NG.go ⟨Nat.le_refl _, fun j hj _ => ⟨Nat.lt_of_lt_of_le HS1.out hj, rfl⟩⟩ _ _ hng)
  obtain ⟨op, rs, nm, kk, mn, mx, ra, rc, ca, cc, _, rfl, _⟩ := hng.open
  have HS2 := Lib.hid (Nat.lt_of_lt_of_le HS1.out hb.size)
  have HPA := Lib.hid hpa
  obtain ⟨E2, hE2⟩ : ∃ E2, (parM t).2.2 = E2 := ⟨_, rfl⟩
  obtain ⟨A2, hA2⟩ : ∃ A2, (parM t).2.1 = A2 := ⟨_, rfl⟩
  have hKE : E2 = KK := by rw [← hE2]; exact HKK.out
  have HTE : Hid (if E2 = 0 then T = TT else zeroT = TT) := Lib.hid (by
   have : (if (parM t).2.2 = 0 then (parM t).1.getD zeroT else zeroT) = TT := HTT.out
   rw [← hE2]
   by_cases h0 : (parM t).2.2 = 0
   ·rw [if_pos h0, HPA.out h0] at this
    rw [if_pos h0]
    exact this
   ·rw [if_neg h0] at this
    rw [if_neg h0]
    exact this)
  rw [hE2, hA2]
  subst hKE
  clear hb hng hpa hpz HPA HK1 HB1 HM1 hE2 hA2 HTT
  have hal2 := al_below w2 (.cells #[.int .i64 op, .slice ra rs.length rc, .string ⟨nm.toArray⟩, .slice ca kk.length cc, .int .i64 mn, .int .i64 mx] 38)
  have HK3 := Lib.hid (HK2.out.on hal2 HS2.out)
  have HB3 := Lib.hid (HB2.out.trans (hal2.mono HB2.out.size))
  have HT3 := Lib.hid (HN2.out.low hal2)
  have HN3 := Lib.hid (nE_new w2 op ra rs.length rc nm ca kk.length cc mn mx)
  clear hal2 HK2 HB2 HN2
  obtain ⟨k0, k1, k2, k3, k4, k5, f0, f1, f2, f3, f4, f5⟩ := bk6 HK3.out
  obtain ⟨n0, n1, n2, n3, n4, n5⟩ := bk6v HN3.out
  rcases Nat.eq_zero_or_pos E2 with e0 | e0
  ·subst e0
   obtain rfl : T = TT := HTE.out
   go_wp2_with fail
   rw [nest6]
   exact comp_ret (P := 4) rfl HK3.out (by rfl) (k := 0) (by rfl) HT3.out HB3.out
  ·have z1 : ((E2 : Int) == 0) = false := by rw [beq_eq_false_iff_ne]; omega
   obtain rfl : zeroT = TT := by have := HTE.out; rwa [if_neg (by omega)] at this
   go_wp2_with fail
   rw [nest6]
   exact comp_ret (P := 4) rfl HK3.out (by rfl) (by rfl) zero_ng HB3.out
theorem comp_any (l : List Lb.Def) (v : Value) (hf : Fit l) (s : List UInt8) (w : World) (hk : KM w) (hd : DfAt w l v) (hs : s.length ≤ 900000) :
  Calls Tryz.prog 16 #[v, .string ⟨s.toArray⟩] w (CompP (Lb.compM l s) w) := (comp_full l v hf s w hk hd hs).mono fun _ _ h => h.p
end Go.Proofs.YtgcpinnnfoanjaaGreatDoor
namespace Go.Proofs.YtgcpinnnfoanjaaGreatDoor
open Go.RowKit
theorem Lb.findM_ex (l : List Lb.Def) {k : Nat} (hk : k < l.length) : ∃ j, Lb.findM l l[k].1 = some j ∧ j ≤ k := by
 cases h : Lb.findM l l[k].1 with
 | none =>
  unfold Lb.findM at h
  rw [List.findIdx?_eq_none_iff] at h
  have := h l[k] (List.getElem_mem hk)
  simp at this
 | some j =>
  refine ⟨j, rfl, ?_⟩
  unfold Lb.findM at h
  rw [List.findIdx?_eq_some_iff_getElem] at h
  obtain ⟨hj, _, hmin⟩ := h
  rcases Nat.lt_or_ge k j with c | c
  ·have := hmin k c
   simp at this
  ·exact c
namespace Lb
noncomputable def ck2 (l : List Def) : List Def → Nat
 | [] => 0
 | d :: L => if compM l d.2 = 0 then ck2 l L else compM l d.2
noncomputable def ck1 (l : List Def) : List Def → Nat → Nat
 | [], _ => ck2 l l
 | d :: L, i => if nmB d.1 = false then 6 else if (findM l d.1).getD 0 < i then 7 else if 40 ≤ i then 4 else ck1 l L (i + 1)
noncomputable def ckM (l : List Def) : Nat := ck1 l l 0
end Lb
def LCheckP (l : List Lb.Def) (w : World) (e : Ending) (w' : World) : Prop := e = .returned (.int .i64 (Lb.ckM l : Int)) ∧ Below w.heap.size w w'
set_option maxHeartbeats 8000000 in
set_option maxRecDepth 1000000 in
theorem lcheck_any (l : List Lb.Def) (v : Value) (hf : Fit l) (hnl : ∀ i (h : i < l.length), l[i].1.length ≤ 900000) (w : World) (hk : KM w) (hd : DfAt w l v) :
  Calls Tryz.prog 9 #[v] w (LCheckP l w) := by
 have HK := Lib.hid hk
 have HD := Lib.hid hd
 have HF := Lib.hid hf
 have HNL := Lib.hid hnl
 have hl40 := hf.1
 obtain ⟨R, hR⟩ : ∃ R, Lb.ckM l = R := ⟨_, rfl⟩
 have HRR : Hid (Lb.ck1 l (l.drop 0) 0 = R) := Lib.hid hR
 have HEND : Hid (∀ w', Below w.heap.size w w' → LCheckP l w (.returned (.int .i64 (R : Int))) w') := Lib.hid (fun w' h => ⟨by rw [hR], h⟩)
 obtain ⟨a, c, rfl, _, hvk⟩ := hd
 have HVK := Lib.hid hvk
 clear hk hf hvk hnl hR
 go_enter Tryz.func9, Tryz.ntmps9
 go_wp2_with fail
 go_loopw [13] (fun i wr => ∃ k : Nat, i = .int .i64 k ∧ k ≤ l.length ∧ Hid (Lb.ck1 l (l.drop k) k = R) ∧ Hid (Below w.heap.size w wr)) (fun i _ => l.length - (intOf i).toNat)
 case atStart => exact ⟨0, rfl, Nat.zero_le _, HRR, Lib.hid (Below.refl _ _)⟩
 case round =>
  obtain ⟨k, rfl, hkl, HN, HB⟩ := hrel
  by_cases hlt : k < l.length
  ·obtain ⟨blk, off, rfl, hbl, d0, d1⟩ := HVK.out k hlt
   have e0 := (HB.out.cell (p := ⟨blk, off + k * 2, none⟩) hbl).trans d0
   have e1 := (HB.out.cell (p := ⟨blk, off + k * 2 + 1, none⟩) hbl).trans d1
   have i1 : (k : Int) < (l.length : Int) := by omega
   have i2 : (0 : Int) ≤ (k : Int) := by omega
   have lw := Nat.lt_of_lt_of_le hbl HB.out.size
   have hw1 : IntKind.i64.wrap ((k : Int) + 1) = (k : Int) + 1 := IntWalk.i64_in _ (by omega)
   have z40 : decide ((40 : Int) ≤ (k : Int)) = false := decide_eq_false (by omega)
   have y40 : decide (40 ≤ k) = false := decide_eq_false (by omega)
   obtain ⟨j, hfm, hjk⟩ := Lb.findM_ex l hlt
   rw [List.drop_eq_getElem_cons hlt, Lb.ck1, hfm, Option.getD_some] at HN
   have hnl := HNL.out k hlt
   obtain ⟨n1, hn1⟩ : ∃ n1, l[k].1 = n1 := ⟨_, rfl⟩
   obtain ⟨s1, hs1⟩ : ∃ s1, l[k].2 = s1 := ⟨_, rfl⟩
   rw [hn1] at e0 hfm HN hnl
   rw [hs1] at e1
   have HB2 := Lib.hid (HB.out.trans ((al_below wr (.cells #[.string ⟨n1.toArray⟩, .string ⟨s1.toArray⟩] 47)).mono HB.out.size))
   have HC : Hid ((wr.alloc (.cells #[.string ⟨n1.toArray⟩, .string ⟨s1.toArray⟩] 47)).heap[wr.heap.size]? = some (.cells #[.string ⟨n1.toArray⟩, .string ⟨s1.toArray⟩] 47 (0, 0))) := Lib.hid (heap_alloc_new wr _)
   clear d0 d1 hn1 hs1
   go_wp2_with fail
   refine (lisname_any n1 _ (HK.out.below HB2.out).1 (by omega)).mono ?_
   rintro e w2 ⟨rfl, rfl⟩
   cases hnb : nmB n1 with
   | false =>
    rw [if_pos hnb] at HN
    go_wp2_with fail
    go_ret
    rw [show (6 : Int) = ((6 : Nat) : Int) from rfl, HN.out]
    exact HEND.out _ HB2.out
   | true =>
    rw [if_neg (by rw [hnb]; decide)] at HN
    go_wp2_with fail
    refine (find_any l n1 _ _ (HD.out.later HB2.out)).mono ?_
    rintro e w3 ⟨rfl, hb3⟩
    have HB3 := Lib.hid (HB2.out.trans (hb3.mono HB2.out.size))
    rw [hfm]
    clear hb3 hfm e0 e1
    dsimp only [Option.getD_some, Option.isSome_some]
    by_cases hj : j < k
    ·have z1 : decide ((j : Int) < (k : Int)) = true := decide_eq_true (by omega)
     have y1 : decide (j < k) = true := decide_eq_true hj
     rw [if_pos hj] at HN
     go_wp2_with fail
     go_ret
     rw [show (7 : Int) = ((7 : Nat) : Int) from rfl, HN.out]
     exact HEND.out _ HB3.out
    ·have z1 : decide ((j : Int) < (k : Int)) = false := decide_eq_false (by omega)
     have y1 : decide (j < k) = false := decide_eq_false hj
     rw [if_neg hj, if_neg (by omega)] at HN
     clear hnb
     go_wp2_with fail
     refine ⟨⟨k + 1, by go_num, by omega, HN, HB3⟩, by simp [intOf]; omega⟩
  ·have z1 : decide ((k : Int) < (l.length : Int)) = false := decide_eq_false (by omega)
   have y1 : decide (k < l.length) = false := decide_eq_false hlt
   obtain rfl : k = l.length := by omega
   rw [List.drop_length, Lb.ck1] at HN
   have HN0 : Hid (Lb.ck2 l (l.drop 0) = R) := HN
   clear HN
   go_wp2_with fail
   go_loopw [37] (fun i wx => ∃ k : Nat, i = .int .i64 k ∧ k ≤ l.length ∧ Hid (Lb.ck2 l (l.drop k) = R) ∧ Hid (Below w.heap.size w wx)) (fun i _ => l.length - (intOf i).toNat)
   case atStart => exact ⟨0, rfl, Nat.zero_le _, HN0, HB⟩
   case round =>
    obtain ⟨k, rfl, hkl, HCS, HB5⟩ := hrel
    clear z1 y1 hlt HB
    by_cases hlt : k < l.length
    ·obtain ⟨blk, off, rfl, hbl, d0, d1⟩ := HVK.out k hlt
     have e0 := (HB5.out.cell (p := ⟨blk, off + k * 2, none⟩) hbl).trans d0
     have e1 := (HB5.out.cell (p := ⟨blk, off + k * 2 + 1, none⟩) hbl).trans d1
     have i1 : (k : Int) < (l.length : Int) := by omega
     have i2 : (0 : Int) ≤ (k : Int) := by omega
     have lw := Nat.lt_of_lt_of_le hbl HB5.out.size
     have hw1 : IntKind.i64.wrap ((k : Int) + 1) = (k : Int) + 1 := IntWalk.i64_in _ (by omega)
     have hsl := HF.out.2 k hlt
     rw [List.drop_eq_getElem_cons hlt, Lb.ck2] at HCS
     obtain ⟨n1, hn1⟩ : ∃ n1, l[k].1 = n1 := ⟨_, rfl⟩
     obtain ⟨s1, hs1⟩ : ∃ s1, l[k].2 = s1 := ⟨_, rfl⟩
     rw [hn1] at e0
     rw [hs1] at e1 hsl HCS
     have HB6 := Lib.hid (HB5.out.trans ((al_below wr (.cells #[.string ⟨n1.toArray⟩, .string ⟨s1.toArray⟩] 47)).mono HB5.out.size))
     clear d0 d1 hn1 hs1
     go_wp2_with fail
     refine (comp_any l _ HF.out s1 _ (HK.out.below HB6.out) (HD.out.later HB6.out) hsl).mono ?_
     rintro e w3 ⟨⟨op, ra, rn, rc, nm, ca, cn, cc, mn, mx, rfl⟩, hb3⟩
     have HB7 := Lib.hid (HB6.out.trans (hb3.mono HB6.out.size))
     clear hb3 e0 e1
     have HB8 := Lib.hid (HB7.out.trans ((al_below w3 (.cells #[.int .i64 op, .slice ra rn rc, .string ⟨nm.toArray⟩, .slice ca cn cc, .int .i64 mn, .int .i64 mx] 38)).mono HB7.out.size))
     obtain ⟨k3, hk3⟩ : ∃ k3, Lb.compM l s1 = k3 := ⟨_, rfl⟩
     rw [hk3] at HCS ⊢
     clear hk3
     rcases Nat.eq_zero_or_pos k3 with e0 | e0
     ·subst e0
      rw [if_pos rfl] at HCS
      go_wp2_with fail
      refine ⟨⟨k + 1, by go_num, by omega, HCS, HB8⟩, by simp [intOf]; omega⟩
     ·have z1 : ((k3 : Int) == 0) = false := by rw [beq_eq_false_iff_ne]; omega
      rw [if_neg (by omega)] at HCS
      go_wp2_with fail
      go_ret
      rw [HCS.out]
      exact HEND.out _ HB8.out
    ·have z1 : decide ((k : Int) < (l.length : Int)) = false := decide_eq_false (by omega)
     have y1 : decide (k < l.length) = false := decide_eq_false hlt
     rw [List.drop_eq_nil_of_le (by omega), Lb.ck2] at HCS
     go_wp2_with fail
     go_ret
     rw [show (0 : Int) = ((0 : Nat) : Int) from rfl, HCS.out]
     exact HEND.out _ HB5.out
end Go.Proofs.YtgcpinnnfoanjaaGreatDoor
namespace Go.Proofs.YtgcpinnnfoanjaaGreatDoor
open Go.RowKit
def pcs : List (List UInt8) := [[92, 100, 43], [91, 97, 45, 122, 93, 43], [37, 123, 73, 78, 84, 125], [37, 123, 87, 79, 82, 68, 125], [37, 123, 65, 58, 120, 125], [37, 123, 66, 125], [40, 110, 58, 97, 41], [37], [37, 123], [37, 123, 78, 79, 78, 69, 125], [120, 124, 121], [37, 123, 73, 78, 84, 58, 121, 125], [40], [123], [37, 123, 49, 125]]
theorem pcs_ok : ∀ x ∈ pcs, x.length ≤ 8 ∧ x ≠ [] ∧ ∀ c ∈ x, 33 ≤ c.toNat ∧ c.toNat < 127 := by decide
def SrcOk (x : List UInt8) : Prop := x.length ≤ 24 ∧ x ≠ [] ∧ ∀ c ∈ x, 33 ≤ c.toNat ∧ c.toNat < 127
def SourceP (g : Nat) (w : World) (e : Ending) (w' : World) : Prop := ∃ x, SrcOk x ∧ e = .returned (.string ⟨x.toArray⟩) ∧ CodesAt w' g ∧ Apart g w w'
set_option maxHeartbeats 4000000 in
set_option maxRecDepth 1000000 in
theorem source_any (g : Nat) (w : World) (hc : CodesAt w g) : Calls Tryz.prog 13 #[.pointer (some ⟨g, 0, none⟩)] w (SourceP g w) := by
 have HN := Lib.hid (next_any g 3 w hc (by omega) (by omega))
 clear hc
 go_enter Tryz.func13, Tryz.ntmps13
 go_wp2_with fail
 refine HN.out.mono ?_
 rintro e w1 ⟨n, hn, rfl, hca, hap⟩
 have HC := Lib.hid hca
 have HA := Lib.hid hap
 have hw : IntKind.i64.wrap (1 + (n : Int)) = 1 + (n : Int) := IntWalk.i64_in _ (by omega)
 clear hca hap HN
 go_wp2_with fail
 go_loopw [3, 4] (fun s i wr => ∃ (x : List UInt8) (j : Nat), s = .string ⟨x.toArray⟩ ∧ i = .int .i64 j ∧ x.length + 8 * j ≤ 24 ∧ (j = 0 → x ≠ []) ∧ Hid (∀ c ∈ x, 33 ≤ c.toNat ∧ c.toNat < 127) ∧ Hid (CodesAt wr g) ∧ Hid (Apart g w wr)) (fun _ i _ => (intOf i).toNat)
 case atStart => exact ⟨[], n + 1, rfl, by go_num, by simp; omega, fun h => by omega, Lib.hid (fun c h => by cases h), HC, HA⟩
 case round =>
  obtain ⟨x, j, rfl, rfl, hxl, hx0, HX, HC2, HA2⟩ := hrel
  clear HC HA
  cases j with
  | zero =>
   go_wp2_with fail
   go_ret
   exact ⟨x, ⟨by omega, hx0 (by trivial), HX.out⟩, rfl, HC2.out, HA2.out⟩
  | succ j =>
   clear hx0
   have hj0 : (0 : Int) < (j : Int) + 1 := by omega
   have HP := Lib.hid (pickF g wr pcs HC2.out (by decide) (by decide))
   go_wp2_with fail
   refine HP.out.mono ?_
   rintro e w2 ⟨p, hp, rfl, hca, hap⟩
   obtain ⟨hp1, hp2, hp3⟩ := pcs_ok p hp
   have HC3 := Lib.hid hca
   have HA3 := Lib.hid (HA2.out.trans hap)
   have x1 : ByteArray.mk x.toArray ++ ByteArray.mk p.toArray = ⟨(x ++ p).toArray⟩ := ba_app x p
   have HX3 : Hid (∀ c ∈ x ++ p, 33 ≤ c.toNat ∧ c.toNat < 127) := Lib.hid (fun c h => (List.mem_append.1 h).elim (HX.out c) (hp3 c))
   clear hca hap HP hp hp3
   go_wp2_with fail
   refine ⟨⟨x ++ p, j, rfl, by go_num, by rw [List.length_append]; omega, fun _ h => hp2 (List.append_eq_nil_iff.1 h).2, HX3, HC3, HA3⟩, by simp [intOf]⟩
end Go.Proofs.YtgcpinnnfoanjaaGreatDoor
namespace Go.Proofs.YtgcpinnnfoanjaaGreatDoor
open Go.RowKit
def GenD (l : List Lb.Def) : Prop := l.length ≤ 4 ∧ ∀ i (h : i < l.length), l[i].1.length ≤ 4 ∧ SrcOk l[i].2
def nmsD : List (List UInt8) := [[73, 78, 84], [87, 79, 82, 68], [65], [66], [67, 49]]
theorem nms_len : ∀ i (h : i < nmsD.length), nmsD[i].length ≤ 4 := by decide
def nmsP : List (List UInt8) := [[73, 78, 84], [49, 120], [], [65, 32, 66]]
theorem nmsP_len : ∀ x ∈ nmsP, x.length ≤ 4 := by decide
theorem GenD.push {l : List Lb.Def} (h : GenD l) {n s : List UInt8} (hl : l.length < 4) (hn : n.length ≤ 4) (hs : SrcOk s) : GenD (l ++ [(n, s)]) := by
 refine ⟨by simp; omega, fun i hi => ?_⟩
 by_cases e : i < l.length
 ·rw [List.getElem_append_left e]
  exact h.2 i e
 ·rw [List.getElem_append_right (by omega)]
  simp only [List.getElem_singleton]
  exact ⟨hn, hs⟩
theorem one_df (a b : List UInt8) : ∀ u ∈ [Value.string ⟨a.toArray⟩, .string ⟨b.toArray⟩], u.oneCell' = true := by
 intro u hu
 simp only [List.mem_cons, List.not_mem_nil, or_false] at hu
 rcases hu with rfl | rfl <;> rfl
theorem step_append_df {ops : Array Oper} {o : Oper} {a : Act} {K : Act → World → Prop} {Q : Exit → Act → World → Prop} {E : Prop} {w3 : World} {B n : Nat} {v : Value} {cs : List Value} {nm x : List UInt8} (hown3 : w3.ownsRow B 47 2 v n cs) (hb3 : B ≤ w3.heap.size) (hn : n ≤ 1000) (hgd : o.guard = none) (s y : Operand)
  (ho : o.op = .call { callee := .builtin .append, args := #[s, y], argTypes := #[26, 26] }) (hs : a.eval s = v) (hx : a.eval y = .slice (some ⟨w3.heap.size, 0, none⟩) 1 1)
  (h : ∀ g cap w', w'.ownsRow B 47 2 (.slice (some ⟨g, 0, none⟩) (n + 1) cap) (n + 1) (cs ++ [.string ⟨nm.toArray⟩, .string ⟨x.toArray⟩]) → Below B w3 w' → K (a.put o.dst (.slice (some ⟨g, 0, none⟩) (n + 1) cap)) w') :
  if Region.wanted o (yielded ops a.tmps) = true then Oper.wp Tryz.prog o a (w3.alloc (.cells #[.string ⟨nm.toArray⟩, .string ⟨x.toArray⟩] 47)) K Q else E := by
 obtain ⟨i0, hi, hz0, hz1, hz2⟩ := info_parts infoDf
 exact step_append_lies _ hgd s y 26 ho B 47 i0 (.agg #[.string ⟨#[]⟩, .string ⟨#[]⟩]) 2 32 Tryz.underlying26 hi hz0 hz1 hz2 rfl (by decide) v n cs hs (hown3.alloc _) ⟨w3.heap.size, 0, none⟩ 1 1 [.string ⟨nm.toArray⟩, .string ⟨x.toArray⟩] hx rfl (World.news_of_block (heap_alloc_new w3 (.cells #[.string ⟨nm.toArray⟩, .string ⟨x.toArray⟩] 47))) (one_df nm x) (by omega) (by unfold maxLen; omega) (by omega) (by simp; omega) _ rfl
  (fun g cap w' h1 h2 h3 h4 => h g cap w' h1 (push_below h2 hown3 hb3))
def DrawP (g : Nat) (w : World) (e : Ending) (w' : World) : Prop := ∃ l v, GenD l ∧ RW (fun k => w.heap.size ≤ k) 2 DfR w' l v ∧ e = .returned v ∧ CodesAt w' g ∧ Apart g w w'
def CapOk (v : Value) (n : Nat) : Prop := ∃ a c, v = .slice a n c ∧ n ≤ c
def DrawY (g : Nat) (w : World) (e : Ending) (w' : World) : Prop := ∃ l v, GenD l ∧ RW (fun k => w.heap.size ≤ k) 2 DfR w' l v ∧ e = .returned v ∧ CodesAt w' g ∧ Apart g w w' ∧ CapOk v l.length
theorem DrawY.p {g : Nat} {w : World} {e : Ending} {w' : World} (h : DrawY g w e w') : DrawP g w e w' := by
 obtain ⟨l, v, h1, h2, h3, h4, h5, _⟩ := h
 exact ⟨l, v, h1, h2, h3, h4, h5⟩
theorem OR.cap {α : Type} {B : Nat} {e : TypeId} {k : Nat} {R : α → List Value → Prop} {W : World} {xs : List α} {v : Value} (h : OR B e k R W xs v) : CapOk v xs.length := by
 obtain ⟨⟨uss, _, _, _, ⟨h1, h2⟩ | ⟨g, cap, cur, e1, _, _, hn, _⟩⟩, _⟩ := h
 ·exact ⟨none, 0, by rw [h1, h2], by omega⟩
 ·exact ⟨_, cap, e1, hn⟩
theorem RW.setDf {F : Nat → Prop} {W : World} {l : List Lb.Def} {blk off c : Nat} (h : RW F 2 DfR W l (.slice (some ⟨blk, off, none⟩) l.length c)) {k : Nat} (hk : k < l.length) (j : Nat) (hj : j < 2) (x : List UInt8) :
  RW F 2 DfR (W.setCell ⟨blk, off + k * 2 + j, none⟩ (.string ⟨x.toArray⟩)) (l.set k (if j = 0 then (x, l[k].2) else (l[k].1, x))) (.slice (some ⟨blk, off, none⟩) l.length c) := by
 obtain ⟨a, c', e, hm, hrow⟩ := h
 obtain ⟨b', o', e1, hl, hF, hel⟩ := hrow (by omega)
 subst e1
 injection e with e2 _ e3
 injection e2 with e2
 injection e2 with e4 e5
 subst e3 e4 e5
 refine ⟨_, c, by rw [List.length_set], by rw [List.length_set]; exact hm, fun _ => ⟨blk, off, rfl, by simpa using hl, hF, fun i hi => ?_⟩⟩
 rw [List.length_set] at hi
 obtain ⟨us, hu, hcell, hr⟩ := hel i hi
 unfold DfR at hr
 subst hr
 by_cases e : i = k
 ·subst e
  have hj2 : j = 0 ∨ j = 1 := by omega
  rcases hj2 with rfl | rfl
  ·refine ⟨[.string ⟨x.toArray⟩, .string ⟨l[i].2.toArray⟩], rfl, fun j' hj' => ?_, by rw [List.getElem_set_self]; rfl⟩
   match j', hj' with
   | 0, _ => exact World.cell?_setCell_same _ _ _ (hcell 0 (by omega))
   | 1, _ =>
    rw [World.cell?_setCell_other _ _ _ _ (by intro h; simp only [Addr.mk.injEq] at h; omega)]
    exact hcell 1 (by omega)
  ·refine ⟨[.string ⟨l[i].1.toArray⟩, .string ⟨x.toArray⟩], rfl, fun j' hj' => ?_, by rw [List.getElem_set_self]; rfl⟩
   match j', hj' with
   | 0, _ =>
    rw [World.cell?_setCell_other _ _ _ _ (by intro h; simp only [Addr.mk.injEq] at h; omega)]
    exact hcell 0 (by omega)
   | 1, _ => exact World.cell?_setCell_same _ _ _ (hcell 1 (by omega))
 ·refine ⟨_, rfl, fun j' hj' => ?_, by rw [List.getElem_set_ne (fun h => e h.symm)]; rfl⟩
  rw [World.cell?_setCell_other _ _ _ _ (by intro h; simp only [Addr.mk.injEq] at h; omega)]
  exact hcell j' hj'
theorem OR.frz {α : Type} {B : Nat} {e : TypeId} {k : Nat} {R : α → List Value → Prop} {W : World} {xs : List α} {blk off n c : Nat} (h : OR B e k R W xs (.slice (some ⟨blk, off, none⟩) n c)) (i : Nat) : W.frozen? ⟨blk, i, none⟩ = false := by
 obtain ⟨⟨uss, _, _, _, h0 | ⟨g, cap, cur, e1, hB, hg, _⟩⟩, _⟩ := h
 ·exact absurd h0.1 (by simp)
 ·injection e1 with e1
  injection e1 with e1
  injection e1 with e1
  subst e1
  exact Lib.frozen_of_heap hg i
theorem DfAt.rw {F : Nat → Prop} {w : World} {l : List Lb.Def} {v : Value} (h : RW F 2 DfR w l v) (hl : l.length ≤ 900000) : DfAt w l v := by
 obtain ⟨a, c, e, _, hk⟩ := h
 refine ⟨a, c, e, hl, fun i hi => ?_⟩
 obtain ⟨blk, off, e1, hb, _, hc⟩ := hk (by omega)
 obtain ⟨us, _, hcell, hr⟩ := hc i hi
 unfold DfR at hr
 subst hr
 exact ⟨blk, off, e1, hb, hcell 0 (by omega), hcell 1 (by omega)⟩
theorem stay_apart {g B : Nat} {w w' : World} (h : Apart g w w') (hg : g < B) : Stay (fun k => B ≤ k) (fun k => B ≤ k) w w' := ⟨h.1.size, fun k hk hl => ⟨hk, h.block (by omega) hl⟩⟩
theorem stay_below {B : Nat} {w w' : World} (h : Below w.heap.size w w') : Stay (fun k => B ≤ k) (fun k => B ≤ k) w w' := ⟨h.size, fun k hk hl => ⟨hk, h.block k hl⟩⟩
theorem GenD.name {l : List Lb.Def} (h : GenD l) {k : Nat} (hk : k < l.length) {x : List UInt8} (hx : x.length ≤ 4) : GenD (l.set k (x, l[k].2)) := by
 refine ⟨by rw [List.length_set]; exact h.1, fun i hi => ?_⟩
 have hi2 : i < l.length := by rw [List.length_set] at hi; exact hi
 by_cases e : i = k
 ·subst e
  rw [List.getElem_set_self]
  exact ⟨hx, (h.2 i hi2).2⟩
 ·rw [List.getElem_set_ne (fun h => e h.symm)]
  exact h.2 i hi2
set_option maxHeartbeats 8000000 in
set_option maxRecDepth 1000000 in
theorem draw_full (g : Nat) (w : World) (hc : CodesAt w g) : Calls Tryz.prog 8 #[.pointer (some ⟨g, 0, none⟩)] w (DrawY g w) := by
 obtain ⟨i0, hi, hz0, hz1, hz2⟩ := info_parts infoDf
 have hgl := hc.1
 have hal := al_below w (.cells (nmsD.map fun f => Value.string ⟨f.toArray⟩).toArray 9)
 have HN := Lib.hid (next_any g 5 (w.alloc (.cells (nmsD.map fun f => Value.string ⟨f.toArray⟩).toArray 9)) (hc.below hal) (by omega) (by omega))
 have HA0 := Lib.hid (Apart.of_below hal hgl)
 have HNM : Hid (∀ i (h : i < nmsD.length), (w.alloc (.cells (nmsD.map fun f => Value.string ⟨f.toArray⟩).toArray 9)).cell? ⟨w.heap.size, i, none⟩ = some (.string ⟨nmsD[i].toArray⟩)) := Lib.hid (fun i h => by simp [go_sem, h])
 have HLT : Hid (w.heap.size < (w.alloc (.cells (nmsD.map fun f => Value.string ⟨f.toArray⟩).toArray 9)).heap.size) := Lib.hid (by simp)
 clear hc hal
 go_enter Tryz.func8, Tryz.ntmps8
 go_wp2_with fail
 refine HN.out.mono ?_
 rintro e w1 ⟨n, hn, rfl, hca, hap⟩
 have HA1 := Lib.hid (HA0.out.trans hap)
 have HNM1 : Hid (∀ i (h : i < nmsD.length), w1.cell? ⟨w.heap.size, i, none⟩ = some (.string ⟨nmsD[i].toArray⟩)) := Lib.hid (fun i h => (hap.cell (p := ⟨w.heap.size, i, none⟩) (by simp only; omega) HLT.out).trans (HNM.out i h))
 have HL1 := Lib.hid (Nat.lt_of_lt_of_le HLT.out hap.1.size)
 have HG1 := Lib.hid (GD.start hca)
 have hg1 : g < w1.heap.size := hca.1
 clear hca hap HN HNM HLT HA0
 go_wp2_with fail
 go_loopw [4, 5] (fun lv i wr => ∃ (l : List Lb.Def) (v : Value) (j : Nat), v = lv ∧ i = .int .i64 j ∧ l.length + j ≤ 4 ∧ Hid (GenD l) ∧ Hid (OR w1.heap.size 47 2 DfR wr l v) ∧ Hid (GD g w1 wr)) (fun _ i _ => (intOf i).toNat)
 case atStart => exact ⟨[], _, n, rfl, rfl, by simp; omega, Lib.hid ⟨by simp, fun i h => by simp at h⟩, Lib.hid OR.nil, HG1⟩
 case round =>
  obtain ⟨l, v, j, rfl, rfl, hlj, HGN, HO, HG⟩ := hrel
  clear HG1
  cases j with
  | zero =>
   have HN6 := Lib.hid (next_any g 6 wr HG.out.codes (by omega) (by omega))
   have HBW : Hid (w.heap.size ≤ w1.heap.size) := Lib.hid (Nat.le_of_lt HL1.out)
   have hll : l.length ≤ 4 := HGN.out.1
   go_wp2_with fail
   refine HN6.out.mono ?_
   rintro e w2 ⟨q, hq, rfl, hca, hap⟩
   have HG2 := Lib.hid (HG.out.go hap hca)
   have HO2 := Lib.hid (HO.out.keep (W' := w2) (fun k hk1 hk2 => hap.2 k (Nat.lt_of_lt_of_le hg1 hk1) hk2) (fun _ _ h => h))
   have HRW2 := Lib.hid (HO2.out.rw (F := fun k => w.heap.size ≤ k) (fun b hb => Nat.le_trans HBW.out hb))
   obtain ⟨va, vc, rfl, _⟩ := HO2.out.rw (F := fun _ => True) (fun _ _ => trivial)
   have HCP := Lib.hid HO2.out.cap
   clear hca hap HN6 HG HO
   have HEND : Hid (DrawY g w (.returned (.slice va l.length vc)) w2) := Lib.hid ⟨l, _, HGN.out, HRW2.out, rfl, HG2.out.codes, HA1.out.trans HG2.out.ap, HCP.out⟩
   by_cases hq5 : q = 5
   ·subst hq5
    by_cases hl0 : 0 < l.length
    ·have z1 : decide ((0 : Int) < (l.length : Int)) = true := decide_eq_true (by omega)
     have y1 : decide (0 < l.length) = true := decide_eq_true hl0
     have HN7 := Lib.hid (next_any g l.length w2 HG2.out.codes hl0 (by omega))
     obtain ⟨a0, c0, eqv, _, hrows⟩ := HRW2.out
     injection eqv with ea _ ec
     obtain ⟨blk, off, e0, _⟩ := hrows hl0
     obtain rfl : va = some ⟨blk, off, none⟩ := ea.trans e0
     clear ea ec e0 hrows HEND
     go_wp2_with fail
     refine HN7.out.mono ?_
     rintro e w3 ⟨k, hk, rfl, hca, hap⟩
     have HG3 := Lib.hid (HG2.out.go hap hca)
     have HO3 := Lib.hid (HO2.out.keep (W' := w3) (fun k hk1 hk2 => hap.2 k (Nat.lt_of_lt_of_le hg1 hk1) hk2) (fun _ _ h => h))
     have HP := Lib.hid (pickF g w3 nmsP hca (by decide) (by decide))
     clear hca hap HN7 HG2 HO2 HRW2
     have i1 : (k : Int) < (l.length : Int) := by omega
     have i2 : (0 : Int) ≤ (k : Int) := by omega
     go_wp2_with fail
     refine HP.out.mono ?_
     rintro e w4 ⟨x, hx, rfl, hca, hap⟩
     have HX := Lib.hid (nmsP_len x hx)
     have HG4 := Lib.hid (HG3.out.go hap hca)
     have HO4 := Lib.hid (HO3.out.keep (W' := w4) (fun k hk1 hk2 => hap.2 k (Nat.lt_of_lt_of_le hg1 hk1) hk2) (fun _ _ h => h))
     have HRW4 := Lib.hid (HO4.out.rw (F := fun k => w.heap.size ≤ k) (fun b hb => Nat.le_trans HBW.out hb))
     have hf := HO4.out.frz (off + k * 2)
     obtain ⟨hbl1, c0⟩ : w1.heap.size ≤ blk ∧ w4.cell? ⟨blk, off + k * 2, none⟩ = some (.string ⟨l[k].1.toArray⟩) := by
      obtain ⟨_, _, e0, _, hrows⟩ := HO4.out.rw (F := fun k => w1.heap.size ≤ k) (fun b hb => hb)
      obtain ⟨b', o', e1, _, hF, hel⟩ := hrows hl0
      obtain ⟨us, _, hcell, hr⟩ := hel k hk
      subst e1
      injection e0 with e2 _ _
      injection e2 with e2
      injection e2 with e4 e5
      subst e4 e5
      unfold DfR at hr
      subst hr
      exact ⟨hF, hcell 0 (by omega)⟩
     have HRW5 := Lib.hid (HRW4.out.setDf hk 0 (by omega) x)
     rw [if_pos rfl, Nat.add_zero] at HRW5
     have HB5 := Lib.hid ((Below.refl w1.heap.size w4).setCell (p := ⟨blk, off + k * 2, none⟩) hbl1 (.string ⟨x.toArray⟩))
     have HG5 := Lib.hid (HG4.out.on HB5.out)
     clear hca hap HP HG3 HO3 hx
     go_wp2_with fail
     go_ret
     exact ⟨_, _, HGN.out.name hk HX.out, HRW5.out, rfl, HG5.out.codes, HA1.out.trans HG5.out.ap, by rw [List.length_set]; exact HCP.out⟩
    ·have z1 : decide ((0 : Int) < (l.length : Int)) = false := decide_eq_false (by omega)
     have y1 : decide (0 < l.length) = false := decide_eq_false hl0
     go_wp2_with fail
     go_ret
     exact HEND.out
   ·have z1 : ((q : Int) == 5) = false := by rw [beq_eq_false_iff_ne]; omega
    go_wp2_with fail
    go_ret
    exact HEND.out
  | succ j =>
   have hj0 : (0 : Int) < (j : Int) + 1 := by omega
   obtain ⟨nm, hnm⟩ : ∃ nm, nmsD[l.length]'(by show l.length < 5; omega) = nm := ⟨_, rfl⟩
   have hnl : nm.length ≤ 4 := by rw [← hnm]; exact nms_len _ _
   have hcell : wr.cell? ⟨w.heap.size, l.length, none⟩ = some (.string ⟨nm.toArray⟩) := (HG.out.ap.cell (p := ⟨w.heap.size, l.length, none⟩) (by simp only; omega) HL1.out).trans (by rw [← hnm]; exact HNM1.out _ _)
   have hbw : w1.heap.size ≤ wr.heap.size := HG.out.le
   have HB0 : Hid (w.heap.size < w1.heap.size) := HL1
   obtain ⟨cs, hown, hpush⟩ := HO.out.cells
   have HPU := Lib.hid hpush
   obtain ⟨va, vc, rfl⟩ : ∃ a c, v = .slice a l.length c := by obtain ⟨a, c, e, _⟩ := HO.out.rw (F := fun _ => True) (fun _ _ => trivial); exact ⟨a, c, e⟩
   have i1 : (l.length : Int) < 5 := by omega
   have i2 : (0 : Int) ≤ (l.length : Int) := by omega
   have HSA := Lib.hid (source_any g wr.drew HG.out.dr.codes)
   clear hnm hpush
   go_wp2_with fail
   go_region_held3 (fun W' => W'.cell? ⟨w.heap.size, l.length, none⟩ = some (.string ⟨nm.toArray⟩)) (go_keep) (first
    | (go_at_call 13; refine HSA.out.mono ?_; rintro e w3 ⟨x, hx, rfl, hca, hap⟩; have HSO := Lib.hid hx; have HG3 := Lib.hid (HG.out.dr.go hap hca); have hown3 := own_keep hown (W' := w3) (fun k hk1 hk2 => hap.2 k (Nat.lt_of_lt_of_le hg1 hk1) hk2); have hcell3 : w3.cell? ⟨w.heap.size, l.length, none⟩ = some (.string ⟨nm.toArray⟩) := (hap.cell (p := ⟨w.heap.size, l.length, none⟩) (by simp only; omega) (Nat.lt_of_lt_of_le HB0.out hbw)).trans hcell; have hb3 : w1.heap.size ≤ w3.heap.size := HG3.out.le; clear hx hca hap)
    | (refine step_append_df (nm := nm) (x := x) hown3 hb3 (by omega) (by rfl) _ _ (by rfl) (by rfl) (by rfl) ?_; intro g6 cap6 w6 hown6 hbl6; have HW6 := Lib.hid hbl6; have HO6 := Lib.hid (HPU.out DfR w6 (nm, x) [.string ⟨nm.toArray⟩, .string ⟨x.toArray⟩] _ (fun _ _ h => h) rfl rfl (by omega) hown6); have hcell6 : w6.cell? ⟨w.heap.size, l.length, none⟩ = some (.string ⟨nm.toArray⟩) := (HW6.out.cell (p := ⟨w.heap.size, l.length, none⟩) HB0.out).trans hcell3; clear hown6 hbl6))
   have HG6 := Lib.hid (HG3.out.on HW6.out)
   have HGN6 := Lib.hid (HGN.out.push (by omega) hnl HSO.out)
   go_wp2_with fail
   refine ⟨⟨l ++ [(nm, x)], _, j, rfl, by go_num, by rw [List.length_append, List.length_singleton]; omega, HGN6, HO6, HG6⟩, by simp [intOf]⟩
end Go.Proofs.YtgcpinnnfoanjaaGreatDoor
namespace Go.Proofs.YtgcpinnnfoanjaaGreatDoor
open Go.RowKit
theorem awake_run : Lb.runM [([73, 78, 84], [92, 100, 43])] [37, 123, 73, 78, 84, 58, 110, 125, 109, 115] = .ok [40, 110, 58, 92, 100, 43, 41, 109, 115] := by rfl
theorem fit_awake : Fit [([73, 78, 84], [92, 100, 43])] := by
 refine ⟨by decide, fun i hi => ?_⟩
 obtain rfl : i = 0 := by simp at hi; omega
 show 3 ≤ 900000
 decide
set_option maxHeartbeats 4000000 in
set_option maxRecDepth 1000000 in
theorem lawake_any (w : World) (hk : KM w) : Calls Tryz.prog 6 #[] w fun e w' => e = .returned (.bool true) ∧ Below w.heap.size w w' := by
 have hal := al_below w (.cells #[.string ⟨#[73, 78, 84]⟩, .string ⟨#[92, 100, 43]⟩] 47)
 have hd : DfAt (w.alloc (.cells #[.string ⟨#[73, 78, 84]⟩, .string ⟨#[92, 100, 43]⟩] 47)) [([73, 78, 84], [92, 100, 43])] (.slice (some ⟨w.heap.size, 0, none⟩) 1 1) := by
  refine ⟨_, _, rfl, by simp, fun i hi => ⟨w.heap.size, 0, rfl, by simp, ?_⟩⟩
  obtain rfl : i = 0 := by simp at hi; omega
  exact ⟨Lib.cell_of_heap (heap_alloc_new w _) _, Lib.cell_of_heap (heap_alloc_new w _) _⟩
 have HE := Lib.hid (exp_any [([73, 78, 84], [92, 100, 43])] _ fit_awake [37, 123, 73, 78, 84, 58, 110, 125, 109, 115] _ (hk.below hal) hd (by simp))
 rw [awake_run] at HE
 have HB := Lib.hid hal
 clear hal hd hk
 dsimp only [expV] at HE
 go_enter Tryz.func6, Tryz.ntmps6
 go_wp2_with fail
 refine HE.out.mono ?_
 rintro e w1 ⟨rfl, hb⟩
 have HB1 := Lib.hid (HB.out.trans (hb.mono HB.out.size))
 clear hb
 go_wp2_with fail
 go_ret
 exact ⟨rfl, HB1.out⟩
theorem GenD.nm {l : List Lb.Def} (h : GenD l) : ∀ i (h : i < l.length), l[i].1.length ≤ 900000 := fun i hi => by have := (h.2 i hi).1; omega
theorem Fit.set {l : List Lb.Def} (h : Fit l) {k : Nat} (hk : k < l.length) {x : List UInt8} (hx : x.length ≤ 400) : Fit (l.set k (l[k].1, x)) := by
 refine ⟨by rw [List.length_set]; exact h.1, fun i hi => ?_⟩
 have hi2 : i < l.length := by rw [List.length_set] at hi; exact hi
 by_cases e : i = k
 ·subst e
  rw [List.getElem_set_self]
  show x.length ≤ 900000
  omega
 ·rw [List.getElem_set_ne (fun h => e h.symm)]
  exact h.2 i hi2
end Go.Proofs.YtgcpinnnfoanjaaGreatDoor

/-
 Joined: MtP, MtCh, MtCk, MtCj.
-/
import Derived.Test.YtmpbjaodgajnfaaGreatDoorEhG
import Derived.BigQuiet
import Derived.StillTailTactics
import Derived.Test.YtmpbjaodgajnfaaGreatDoorEhH
import Derived.Test.YtmpbjaodgajnfaaGreatDoorEhI
import Derived.Test.YtmpbjaodgajnfaaGreatDoorEhF
namespace Go.Proofs.YtmpbjaodgajnfaaGreatDoor
open Go.RowKit
def RunI (C : List Mt.Ins) (s : List UInt8) (L fa N : Nat) (F : Nat → Prop) (ms : List Mt.Mk) (w : World) (r : Mt.Res) (pc at_ e : Nat) (v : Value) (ok : Bool) (wr : World) : Prop :=
 ∃ F1, GoF F F1 w wr ∧ FtB C s L F1 fa wr ∧ (ok = false → r = none) ∧ (ok = true → ∃ n r1 ex, n ≤ N ∧ Mt.runF C s L n pc at_ e = some r1 ∧ r = Mt.behind r1 ex ∧ MkAt F1 wr (ex ++ ms) v ∧ at_ ≤ s.length)
section
variable {C : List Mt.Ins} {s : List UInt8} {L fa N : Nat} {F F2 : Nat → Prop} {ms : List Mt.Mk} {w W : World} {r : Mt.Res} {pc at_ e : Nat} {v : Value}
theorem RunI.on {m : Nat} {r1 : Mt.Res} {ex : List Mt.Mk} (hm : m + 1 ≤ N) (hrun : Mt.runF C s L m pc at_ e = some r1) (hre : r = Mt.behind r1 ex) (hg : GoF F F2 w W) (hf : FtB C s L F2 fa W) (hk : MkAt F2 W (ex ++ ms) v) (ha : at_ ≤ s.length) : RunI C s L fa N F ms w r pc at_ e v true W :=
 ⟨F2, hg, hf, (fun h => by cases h), fun _ => ⟨m, r1, ex, by omega, hrun, hre, hk, ha⟩⟩
theorem RunI.off (hr : r = none) (hg : GoF F F2 w W) (hf : FtB C s L F2 fa W) : RunI C s L fa N F ms w r pc at_ e v false W :=
 ⟨F2, hg, hf, fun _ => hr, (fun h => by cases h)⟩
end
theorem Mt.runF_pc {C : List Mt.Ins} {s : List UInt8} {L n pc at_ e : Nat} {r : Mt.Res} (h : Mt.runF C s L n pc at_ e = some r) : pc < C.length := by
 cases n with
 | zero => cases h
 | succ n =>
  rw [Mt.runF] at h
  split at h
  ·cases h
  ·cases hc : C[pc]? with
   | none => rw [hc] at h; cases h
   | some i => exact (List.getElem?_eq_some_iff.1 hc).1
theorem MkAt.cons {F F' : Nat → Prop} {w w' : World} {ms : List Mt.Mk} {v : Value} (h : MkAt F w ms v) (hs : Stay F F' w w') (m : Mt.Mk) (b : Nat) (hF : F' b) (hc : w'.heap[b]? = some (.cells #[.bool m.1, .int .i64 (m.2.1 : Int), .int .i64 (m.2.2 : Int), v] 180 (0, 0))) : MkAt F' w' (m :: ms) (.pointer (some ⟨b, 0, none⟩)) :=
 ⟨b, v, rfl, hF, heap_lt hc, hc, MkAt.go hs ms v h⟩
theorem MkAt.ptr {F : Nat → Prop} {w : World} : ∀ {ms : List Mt.Mk} {v : Value}, MkAt F w ms v → ∃ o, v = .pointer o
 | [], _, h => ⟨none, h⟩
 | _ :: _, _, ⟨b, _, h, _⟩ => ⟨some ⟨b, 0, none⟩, h⟩
def bOf : Value → Bool
 | .bool b => b
 | _ => false
theorem meas {C : List Mt.Ins} {s : List UInt8} {L N m pc1 at1 e1 pc2 at2 e2 : Nat} {a b c : Int} (ha : a = (pc2 : Int)) (hb : b = (at2 : Int)) (hc : c = (e2 : Int)) (hm : Mt.leastF C s L N pc1 at1 e1 = m + 1) (h : Mt.leastF C s L N pc2 at2 e2 < m + 1) :
  (if bOf (.bool true) = true then Mt.leastF C s L N (intOf (.int .i64 a)).toNat (intOf (.int .i64 b)).toNat (intOf (.int .i64 c)).toNat + 1 else 0) < (if bOf (.bool true) = true then Mt.leastF C s L N (intOf (.int .i64 (pc1 : Int))).toNat (intOf (.int .i64 (at1 : Int))).toNat (intOf (.int .i64 (e1 : Int))).toNat + 1 else 0) := by
 subst ha hb hc
 simp only [bOf, if_true, intOf, Int.toNat_natCast]
 omega
theorem meas0 {C : List Mt.Ins} {s : List UInt8} {L N : Nat} {p q u : Nat} {x y z : Int} :
  (if bOf (.bool false) = true then Mt.leastF C s L N (intOf (.int .i64 x)).toNat (intOf (.int .i64 y)).toNat (intOf (.int .i64 z)).toNat + 1 else 0) < (if bOf (.bool true) = true then Mt.leastF C s L N (intOf (.int .i64 (p : Int))).toNat (intOf (.int .i64 (q : Int))).toNat (intOf (.int .i64 (u : Int))).toNat + 1 else 0) := by
 simp [bOf]
set_option maxHeartbeats 8000000 in
set_option maxRecDepth 1000000 in
theorem run_succ (C : List Mt.Ins) (s : List UInt8) (L g fa N : Nat) (hl : s.length ≤ 20000) (hC : C.length ≤ 10000) (hL : L ≤ 10000) (hop : ∀ i ∈ C, i.op ≤ 9) (ih : ∀ n, n < N → RunAt C s L g fa n) : RunAt C s L g fa N := by
 intro F pc at_ e ms v w r hm hf hmk ha hrun
 have hway : Mt.Way C s L pc at_ e r := ⟨N, hrun⟩
 have hpc : pc < C.length := Mt.runF_pc hrun
 have he : e ≤ L := Mt.Way.le C s L hway
 have HNO : Hid (∀ F' w', r = none → GoF F F' w w' → FtB C s L F' fa w' → RunP C s L fa F ms w r (.returned (.tuple #[.int .i64 0, .pointer none, .bool false])) w') := Lib.hid fun F' w' h1 h2 h3 => RunP.no h1 h2 h3
 have HYES : Hid (∀ F' w' a l v', r = some (a, l) → GoF F F' w w' → FtB C s L F' fa w' → MkAt F' w' (l ++ ms) v' → RunP C s L fa F ms w r (.returned (.tuple #[.int .i64 (a : Int), v', .bool true])) w') := Lib.hid fun F' w' a l v' h1 h2 h3 h4 => RunP.yes h1 h2 h3 h4
 have HM := Lib.hid hm
 have HF := Lib.hid hf
 have HMK := Lib.hid hmk
 have HW := Lib.hid hway
 have HR := Lib.hid hrun
 have HH : Hid (∀ pc at_ e F w, MB C s L F g fa w → FtB C s L F fa w → pc < C.length → at_ ≤ s.length → e ≤ L → Calls Tryz.prog 137 #[.pointer (some ⟨g, 0, none⟩), .int .i64 (pc : Int), .int .i64 (at_ : Int), .int .i64 (e : Int)] w fun ev w' => (∃ b, ev = .returned (.bool b) ∧ (b = true → Mt.Way C s L pc at_ e none)) ∧ ∃ q, w' = w.drewN q) :=
  Lib.hid fun pc at_ e F w hm ⟨row, hf⟩ hp ha he => hopeless_any C s L F g fa row pc at_ e w hm.mstr hm.mno hf hl hC hp ha he
 clear hm hf hmk hway hrun
 go_enter Tryz.func113, Tryz.ntmps113
 go_wp2_with fail
 refine (HH.out pc at_ e F w HM.out HF.out hpc ha he).mono ?_
 rintro ev w1 ⟨⟨b, rfl, hb⟩, q, rfl⟩
 have HB0 : Hid (Below w.heap.size w (w.drewN q)) := Lib.hid (below_drewN (Below.refl _ _) q)
 cases b with
 | true =>
  have hr : r = none := HW.out.det C s L (hb rfl)
  go_wp2_with fail
  go_ret3
  exact HNO.out _ _ hr (GoF.below HB0.out) (HF.out.below HB0.out)
 | false =>
  clear hb
  have HI0 : Hid (RunI C s L fa N F ms w r pc at_ e v true (w.drewN q)) := Lib.hid ⟨_, GoF.below HB0.out, HF.out.below HB0.out, (fun h => by cases h), fun _ => ⟨N, r, [], Nat.le_refl _, HR.out, (Mt.behind_nil r).symm, MkAt.go (GoF.below HB0.out).stay ms v HMK.out, ha⟩⟩
  go_wp2_with fail
  go_loopw [1, 2, 3, 4, 16] (fun i1 i2 i3 i4 i5 wr => ∃ pc at_ e v ok, i1 = .int .i64 ((pc : Nat) : Int) ∧ i2 = .int .i64 ((at_ : Nat) : Int) ∧ i3 = .int .i64 ((e : Nat) : Int) ∧ i4 = v ∧ i5 = .bool ok ∧ Hid (RunI C s L fa N F ms w r pc at_ e v ok wr)) (fun i1 i2 i3 _ i5 _ => if bOf i5 = true then Mt.leastF C s L N (intOf i1).toNat (intOf i2).toNat (intOf i3).toNat + 1 else 0)
  case atStart => exact ⟨pc, at_, e, v, true, rfl, rfl, rfl, rfl, rfl, HI0⟩
  case round =>
   clear HI0 HB0
   obtain ⟨pc1, at1, e1, v1, ok, rfl, rfl, rfl, hv4, rfl, hI⟩ := hrel
   obtain ⟨F1, hg1, hf1, hno, hyes⟩ := hI.out
   cases ok with
   | false =>
    have hr := hno rfl
    have hM1 := HM.out.go hg1.stay
    obtain ⟨row, hrow⟩ := hf1
    obtain ⟨ca, cc, hc0, _⟩ := hM1.code
    have HX := Lib.hid (mfail_any C s L F1 g fa ca cc row pc at_ e wr hM1.mstr hM1.mno hc0 hM1.own hrow hl hC hpc ha he (by rw [← hr]; exact HW.out))
    have HG := Lib.hid hg1
    clear hrow hc0 hM1 hg1 hno hyes
    go_wp2_with fail
    refine HX.out.mono ?_
    rintro ev w2 ⟨rfl, hfb, hkp⟩
    have HFB := Lib.hid hfb
    have HKP := Lib.hid hkp
    clear hfb hkp
    go_wp2_with fail
    go_ret3
    exact HNO.out _ _ hr (HG.out.trans ⟨HKP.out, fun _ h => h⟩) HFB.out
   | true =>
    obtain ⟨n0, r1, ex, hn0, hrn, hre, hmk1, ha1⟩ := hyes rfl
    clear hno hyes
    obtain ⟨o, ho⟩ := hmk1.ptr
    subst ho
    subst hv4
    have hM1 := HM.out.go hg1.stay
    have hle := Mt.least_le C s L hn0 hrn
    have hwy : Mt.Way C s L pc1 at1 e1 r1 := ⟨n0, hrn⟩
    have hel := Mt.Way.le C s L hwy
    clear hrn
    obtain ⟨m, hmm⟩ : ∃ m, Mt.leastF C s L N pc1 at1 e1 = m := ⟨_, rfl⟩
    rw [hmm] at hle
    have HMM := Lib.hid hmm
    obtain ⟨hmn, hrn⟩ := hle
    cases m with
    | zero => cases hrn
    | succ m =>
    rw [Mt.runF, if_neg (by omega)] at hrn
    cases hc : C[pc1]? with
    | none => rw [hc] at hrn; cases hrn
    | some i =>
    rw [hc] at hrn
    simp only at hrn
    obtain ⟨hp1, hget⟩ := List.getElem?_eq_some_iff.1 hc
    have hio := hop i (by rw [← hget]; exact List.getElem_mem hp1)
    obtain ⟨blk, off, cc, ra, rc, c0, hbl, d0, d1, d2, d3, hrw⟩ := hM1.ins hc
    have hmN : m + 1 ≤ N := by omega
    have HB : Hid (∀ o, Below wr.heap.size wr (wr.alloc o)) := Lib.hid fun o => (Below.refl _ _).alloc (Nat.le_refl _) o
    have HG1 := Lib.hid hg1
    have HF1 := Lib.hid hf1
    have HMK1 := Lib.hid hmk1
    have HRE := Lib.hid hre
    have HRG := Lib.hid hrw
    have HME : Hid (∀ pc2 at2 e2 r2, Mt.runF C s L m pc2 at2 e2 = some r2 → Mt.leastF C s L N pc2 at2 e2 < m + 1) := Lib.hid fun pc2 at2 e2 r2 h => by
     have := (Mt.least_le C s L (N := N) (n := m) (by omega) h).1
     omega
    have HM1 := Lib.hid hM1
    clear hg1 hf1 hmk1 hre hrw hM1 hc hwy hget
    by_cases o0 : i.op = 0
    ·rw [if_pos o0] at hrn
     rw [o0] at d0
     have hm3 := HM1.out.mstr
     have hgl := HM1.out.lt
     unfold MStr at hm3
     by_cases hlt : at1 < s.length
     ·have hhit : Mt.hitB s at1 i.rs = Mt.hasR i.rs s[at1] := by unfold Mt.hitB; rw [List.getElem?_eq_getElem hlt]
      rw [hhit] at hrn
      have hdec : decide ((at1 : Int) < (s.length : Int)) = true := decide_eq_true (by omega)
      obtain ⟨W, hW⟩ : ∃ W, wr.alloc (.cells #[.int .i64 0, .int .i64 (i.x : Int), .int .i64 (i.y : Int), .slice ra i.rs.length rc] 152) = W := ⟨_, rfl⟩
      have hWb : Below wr.heap.size wr W := by rw [← hW]; exact HB.out _
      have hWn : W.heap[wr.heap.size]? = some (.cells #[.int .i64 0, .int .i64 (i.x : Int), .int .i64 (i.y : Int), .slice ra i.rs.length rc] 152 (0, 0)) := by rw [← hW]; exact Deep.blk_alloc_new wr _
      have k0 : W.cell? ⟨wr.heap.size, 0, none⟩ = some (.int .i64 0) := by rw [Lib.cell_of_heap hWn]; rfl
      have k1 : W.cell? ⟨wr.heap.size, 1, none⟩ = some (.int .i64 (i.x : Int)) := by rw [Lib.cell_of_heap hWn]; rfl
      have k2 : W.cell? ⟨wr.heap.size, 2, none⟩ = some (.int .i64 (i.y : Int)) := by rw [Lib.cell_of_heap hWn]; rfl
      have k3 : W.cell? ⟨wr.heap.size, 3, none⟩ = some (.slice ra i.rs.length rc) := by rw [Lib.cell_of_heap hWn]; rfl
      have HWB := Lib.hid hWb
      have HWN := Lib.hid hWn
      clear hWb hWn
      have HHAS : Hid (∀ W', Below W.heap.size W W' → Calls Tryz.prog 138 #[.slice ra i.rs.length rc, .int .u8 ((s[at1]'hlt).toNat : Int)] W' fun e w' => e = .returned (.bool (Mt.hasR i.rs (s[at1]'hlt))) ∧ Below W'.heap.size W' w') := Lib.hid fun W' hW' => has_any i.rs _ (s[at1]'hlt) W' ((HRG.out.rg.later HWB.out).later (hW'.mono (Nat.le_refl _)))
      have hgl2 : W.cell? ⟨g, 3, none⟩ = _ := (HWB.out.cell (p := ⟨g, 3, none⟩) hgl).trans hm3
      have HRN := Lib.hid hrn
      clear hrn hhit hio
      go_wp2_with fail
      go_still_tail 16, (by rfl)
      change wpList _ _ _ _ _ W.drew
      go_wp2_with fail
      have hbd : Below W.heap.size W W.drew := below_drewN (Below.refl _ _) 1
      refine (HHAS.out W.drew hbd).mono ?_
      rintro ev w2 ⟨rfl, hb2⟩
      have HB2 : Hid (Below wr.heap.size wr w2) := Lib.hid ((HWB.out.trans (hbd.mono HWB.out.size)).trans (hb2.mono HWB.out.size))
      clear hb2 hbd
      cases hh : Mt.hasR i.rs (s[at1]'hlt) with
      | true =>
       have hrn2 := HRN.out
       rw [hh, if_pos rfl] at hrn2
       have HRN2 := Lib.hid hrn2
       clear hrn2
       go_wp2_with fail
       exact ⟨⟨pc1 + 1, at1 + 1, 0, _, true, rfl, rfl, rfl, rfl, rfl, Lib.hid (RunI.on hmN HRN2.out HRE.out (HG1.out.trans (GoF.below HB2.out)) (HF1.out.below HB2.out) (MkAt.go (GoF.below HB2.out).stay _ _ HMK1.out) (by omega))⟩, meas rfl rfl rfl HMM.out (HME.out _ _ _ _ HRN2.out)⟩
      | false =>
       have hrn2 := HRN.out
       rw [hh, if_neg (by decide)] at hrn2
       injection hrn2 with hrn2
       subst hrn2
       go_wp2_with fail
       exact ⟨⟨pc1, at1, e1, _, false, rfl, rfl, rfl, rfl, rfl, Lib.hid (RunI.off HRE.out (HG1.out.trans (GoF.below HB2.out)) (HF1.out.below HB2.out))⟩, meas0⟩
     ·have hdec : decide ((at1 : Int) < (s.length : Int)) = false := decide_eq_false (by omega)
      have hhit : Mt.hitB s at1 i.rs = false := by unfold Mt.hitB; rw [List.getElem?_eq_none (by omega)]
      rw [hhit, if_neg (by decide)] at hrn
      injection hrn with hrn
      subst hrn
      clear hio
      go_wp2_with fail
      go_quiet (fail)
      go_wp2_with fail
      have HBN : Hid (∀ o q, Below wr.heap.size wr ((wr.alloc o).drewN q)) := Lib.hid fun o q => below_drewN (HB.out o) q
      exact ⟨⟨pc1, at1, e1, _, false, rfl, rfl, rfl, rfl, rfl, Lib.hid (RunI.off HRE.out (HG1.out.trans (GoF.below (HBN.out _ _))) (HF1.out.below (HBN.out _ _)))⟩, meas0⟩
    rw [if_neg o0] at hrn
    by_cases o1 : i.op = 1
    ·rw [if_pos o1] at hrn
     cases hq : Mt.runF C s L m i.x at1 e1 with
     | none => rw [hq] at hrn; cases hrn
     | some q =>
      rw [hq] at hrn
      rw [o1] at d0
      obtain ⟨W, hW⟩ : ∃ W, wr.alloc (.cells #[.int .i64 1, .int .i64 (i.x : Int), .int .i64 (i.y : Int), .slice ra i.rs.length rc] 152) = W := ⟨_, rfl⟩
      have hWb : Below wr.heap.size wr W := by rw [← hW]; exact HB.out _
      have hWn : W.heap[wr.heap.size]? = some (.cells #[.int .i64 1, .int .i64 (i.x : Int), .int .i64 (i.y : Int), .slice ra i.rs.length rc] 152 (0, 0)) := by rw [← hW]; exact Deep.blk_alloc_new wr _
      have k0 : W.cell? ⟨wr.heap.size, 0, none⟩ = some (.int .i64 1) := by rw [Lib.cell_of_heap hWn]; rfl
      have k1 : W.cell? ⟨wr.heap.size, 1, none⟩ = some (.int .i64 (i.x : Int)) := by rw [Lib.cell_of_heap hWn]; rfl
      have k2 : W.cell? ⟨wr.heap.size, 2, none⟩ = some (.int .i64 (i.y : Int)) := by rw [Lib.cell_of_heap hWn]; rfl
      have k3 : W.cell? ⟨wr.heap.size, 3, none⟩ = some (.slice ra i.rs.length rc) := by rw [Lib.cell_of_heap hWn]; rfl
      have HWB := Lib.hid hWb
      have HWN := Lib.hid hWn
      clear hWb hWn
      have HIH := Lib.hid (ih m (by omega) (Fg F1 wr W) i.x at1 e1 (ex ++ ms) (.pointer o) W q (HM1.out.go (GoF.below HWB.out).stay) (HF1.out.below HWB.out) (MkAt.go (GoF.below HWB.out).stay _ _ HMK1.out) ha1 hq)
      clear hq o0 hio
      cases q with
      | some rr =>
       injection hrn with hrn
       subst hrn
       go_wp2_with fail
       refine HIH.out.mono ?_
       rintro ev w2 ⟨F3, hg3, hf3, v3, rfl, hk3⟩
       have HG3 := Lib.hid hg3
       have HF3 := Lib.hid hf3
       have HK3 := Lib.hid hk3
       clear hg3 hf3 hk3
       go_wp2_with fail
       go_ret3
       exact HYES.out _ _ _ (rr.2 ++ ex) _ HRE.out ((HG1.out.trans (GoF.below HWB.out)).trans HG3.out) HF3.out (by rw [List.append_assoc]; exact HK3.out)
      | none =>
       have HRN := Lib.hid hrn
       have hpy := Mt.runF_pc hrn
       clear hrn
       go_wp2_with fail
       refine HIH.out.mono ?_
       rintro ev w2 ⟨F3, hg3, hf3, rfl⟩
       have j2 : w2.cell? ⟨wr.heap.size, 2, none⟩ = some (.int .i64 (i.y : Int)) := (hg3.stay.cell (p := ⟨wr.heap.size, 2, none⟩) (.inr ⟨Nat.le_refl _, heap_lt HWN.out⟩) (heap_lt HWN.out)).trans k2
       have HX := Lib.hid (HH.out i.y at1 e1 F3 w2 ((HM1.out.go (GoF.below HWB.out).stay).go hg3.stay) hf3 hpy ha1 hel)
       have HG3 := Lib.hid hg3
       have HF3 := Lib.hid hf3
       clear hg3 hf3
       go_wp2_with fail
       refine HX.out.mono ?_
       rintro ev w3 ⟨⟨b, rfl, hb⟩, q, rfl⟩
       have HB3 : Hid (Below w2.heap.size w2 (w2.drewN q)) := Lib.hid (below_drewN (Below.refl _ _) q)
       have HBB := Lib.hid hb
       clear hb
       cases b with
       | true =>
        have hr1 : r1 = none := Mt.Way.det C s L ⟨_, HRN.out⟩ (HBB.out rfl)
        subst hr1
        go_wp2_with fail
        exact ⟨⟨i.y, at1, e1, _, false, rfl, rfl, rfl, rfl, rfl, Lib.hid (RunI.off HRE.out (((HG1.out.trans (GoF.below HWB.out)).trans HG3.out).trans (GoF.below HB3.out)) (HF3.out.below HB3.out))⟩, meas0⟩
       | false =>
        go_wp2_with fail
        exact ⟨⟨i.y, at1, e1, _, true, rfl, rfl, rfl, rfl, rfl, Lib.hid (RunI.on hmN HRN.out HRE.out (((HG1.out.trans (GoF.below HWB.out)).trans HG3.out).trans (GoF.below HB3.out)) (HF3.out.below HB3.out) (MkAt.go (((GoF.below HWB.out).trans HG3.out).trans (GoF.below HB3.out)).stay _ _ HMK1.out) ha1)⟩, meas rfl rfl rfl HMM.out (HME.out _ _ _ _ HRN.out)⟩
    rw [if_neg o1] at hrn
    by_cases o2 : i.op = 2
    ·rw [if_pos o2] at hrn
     have HRN := Lib.hid hrn
     rw [o2] at d0
     clear hrn o0 o1 hio
     go_wp2_with fail
     exact ⟨⟨i.x, at1, e1, _, true, rfl, rfl, rfl, rfl, rfl, Lib.hid (RunI.on hmN HRN.out HRE.out (HG1.out.trans (GoF.below (HB.out _))) (HF1.out.below (HB.out _)) (MkAt.go (GoF.below (HB.out _)).stay _ _ HMK1.out) ha1)⟩, meas rfl rfl rfl HMM.out (HME.out _ _ _ _ HRN.out)⟩
    rw [if_neg o2] at hrn
    by_cases o3 : i.op = 3
    ·rw [if_pos o3, Option.map_eq_some_iff] at hrn
     obtain ⟨r2, hr2, hr3⟩ := hrn
     have HRN := Lib.hid hr2
     have HRE2 : Hid (r = Mt.behind r2 ((true, i.x, at1) :: ex)) := Lib.hid (by rw [HRE.out, ← hr3, Mt.behind_add])
     have HMC : Hid (∀ W, Below wr.heap.size wr W → ∀ b, wr.heap.size ≤ b → W.heap[b]? = some (.cells #[.bool true, .int .i64 (i.x : Int), .int .i64 (at1 : Int), .pointer o] 180 (0, 0)) → MkAt (Fg F1 wr W) W ((true, i.x, at1) :: ex ++ ms) (.pointer (some ⟨b, 0, none⟩))) := Lib.hid fun W hW b hb hc => MkAt.cons HMK1.out (GoF.below hW).stay (true, i.x, at1) b (.inr ⟨hb, heap_lt hc⟩) hc
     rw [o3] at d0
     clear hr2 hr3 o0 o1 o2 hio
     go_wp2_with fail
     have HB2 : Hid (∀ o o', Below wr.heap.size wr ((wr.alloc o).alloc o')) := Lib.hid fun o o' => (HB.out o).alloc (HB.out o).size o'
     refine ⟨⟨pc1 + 1, at1, e1, _, true, rfl, rfl, rfl, rfl, rfl, Lib.hid (RunI.on hmN HRN.out HRE2.out (HG1.out.trans (GoF.below (HB2.out _ _))) (HF1.out.below (HB2.out _ _)) (HMC.out _ (HB2.out _ _) _ (by omega) ?_) ha1)⟩, meas rfl rfl rfl HMM.out (HME.out _ _ _ _ HRN.out)⟩
     have hsz : (wr.alloc (.cells #[.int .i64 3, .int .i64 (i.x : Int), .int .i64 (i.y : Int), .slice ra i.rs.length rc] 152)).heap.size = wr.heap.size + 1 := Deep.nblk_alloc wr _
     rw [← hsz]
     exact Deep.blk_alloc_new _ _
    rw [if_neg o3] at hrn
    by_cases o4 : i.op = 4
    ·rw [if_pos o4, Option.map_eq_some_iff] at hrn
     obtain ⟨r2, hr2, hr3⟩ := hrn
     have HRN := Lib.hid hr2
     have HRE2 : Hid (r = Mt.behind r2 ((false, i.x, at1) :: ex)) := Lib.hid (by rw [HRE.out, ← hr3, Mt.behind_add])
     have HMC : Hid (∀ W, Below wr.heap.size wr W → ∀ b, wr.heap.size ≤ b → W.heap[b]? = some (.cells #[.bool false, .int .i64 (i.x : Int), .int .i64 (at1 : Int), .pointer o] 180 (0, 0)) → MkAt (Fg F1 wr W) W ((false, i.x, at1) :: ex ++ ms) (.pointer (some ⟨b, 0, none⟩))) := Lib.hid fun W hW b hb hc => MkAt.cons HMK1.out (GoF.below hW).stay (false, i.x, at1) b (.inr ⟨hb, heap_lt hc⟩) hc
     rw [o4] at d0
     clear hr2 hr3 o0 o1 o2 o3 hio
     go_wp2_with fail
     have HB2 : Hid (∀ o o', Below wr.heap.size wr ((wr.alloc o).alloc o')) := Lib.hid fun o o' => (HB.out o).alloc (HB.out o).size o'
     refine ⟨⟨pc1 + 1, at1, e1, _, true, rfl, rfl, rfl, rfl, rfl, Lib.hid (RunI.on hmN HRN.out HRE2.out (HG1.out.trans (GoF.below (HB2.out _ _))) (HF1.out.below (HB2.out _ _)) (HMC.out _ (HB2.out _ _) _ (by omega) ?_) ha1)⟩, meas rfl rfl rfl HMM.out (HME.out _ _ _ _ HRN.out)⟩
     have hsz : (wr.alloc (.cells #[.int .i64 4, .int .i64 (i.x : Int), .int .i64 (i.y : Int), .slice ra i.rs.length rc] 152)).heap.size = wr.heap.size + 1 := Deep.nblk_alloc wr _
     rw [← hsz]
     exact Deep.blk_alloc_new _ _
    rw [if_neg o4] at hrn
    by_cases o5 : i.op = 5
    ·rw [if_pos o5] at hrn
     by_cases hq : at1 = 0
     ·rw [if_pos hq] at hrn
      have HRN := Lib.hid hrn
      have hz : ((at1 : Int) == 0) = true := by rw [beq_iff_eq]; omega
      rw [o5] at d0
      clear hrn o0 o1 o2 o3 o4 hio
      go_wp2_with fail
      exact ⟨⟨pc1 + 1, at1, e1, _, true, rfl, rfl, rfl, rfl, rfl, Lib.hid (RunI.on hmN HRN.out HRE.out (HG1.out.trans (GoF.below (HB.out _))) (HF1.out.below (HB.out _)) (MkAt.go (GoF.below (HB.out _)).stay _ _ HMK1.out) ha1)⟩, meas rfl rfl rfl HMM.out (HME.out _ _ _ _ HRN.out)⟩
     ·rw [if_neg hq] at hrn
      injection hrn with hrn
      subst hrn
      have hz : ((at1 : Int) == 0) = false := by rw [beq_eq_false_iff_ne]; omega
      rw [o5] at d0
      clear o0 o1 o2 o3 o4 hio
      go_wp2_with fail
      exact ⟨⟨pc1 + 1, at1, e1, _, false, rfl, rfl, rfl, rfl, rfl, Lib.hid (RunI.off HRE.out (HG1.out.trans (GoF.below (HB.out _))) (HF1.out.below (HB.out _)))⟩, meas0⟩
    rw [if_neg o5] at hrn
    by_cases o6 : i.op = 6
    ·rw [if_pos o6] at hrn
     have hm3 := HM1.out.mstr
     have hgl := HM1.out.lt
     unfold MStr at hm3
     by_cases hq : at1 = s.length
     ·rw [if_pos hq] at hrn
      have HRN := Lib.hid hrn
      have hz : ((at1 : Int) == (s.length : Int)) = true := by rw [beq_iff_eq]; omega
      rw [o6] at d0
      clear hrn o0 o1 o2 o3 o4 o5 hio
      go_wp2_with fail
      exact ⟨⟨pc1 + 1, at1, e1, _, true, rfl, rfl, rfl, rfl, rfl, Lib.hid (RunI.on hmN HRN.out HRE.out (HG1.out.trans (GoF.below (HB.out _))) (HF1.out.below (HB.out _)) (MkAt.go (GoF.below (HB.out _)).stay _ _ HMK1.out) ha1)⟩, meas rfl rfl rfl HMM.out (HME.out _ _ _ _ HRN.out)⟩
     ·rw [if_neg hq] at hrn
      injection hrn with hrn
      subst hrn
      have hz : ((at1 : Int) == (s.length : Int)) = false := by rw [beq_eq_false_iff_ne]; omega
      rw [o6] at d0
      clear o0 o1 o2 o3 o4 o5 hio
      go_wp2_with fail
      exact ⟨⟨pc1 + 1, at1, e1, _, false, rfl, rfl, rfl, rfl, rfl, Lib.hid (RunI.off HRE.out (HG1.out.trans (GoF.below (HB.out _))) (HF1.out.below (HB.out _)))⟩, meas0⟩
    rw [if_neg o6] at hrn
    by_cases o7 : i.op = 7
    ·rw [if_pos o7] at hrn
     have HRN := Lib.hid hrn
     rw [o7] at d0
     clear hrn o0 o1 o2 o3 o4 o5 o6 hio
     go_wp2_with fail
     exact ⟨⟨pc1 + 1, at1, e1 + 1, _, true, rfl, rfl, rfl, rfl, rfl, Lib.hid (RunI.on hmN HRN.out HRE.out (HG1.out.trans (GoF.below (HB.out _))) (HF1.out.below (HB.out _)) (MkAt.go (GoF.below (HB.out _)).stay _ _ HMK1.out) ha1)⟩, meas rfl rfl rfl HMM.out (HME.out _ _ _ _ HRN.out)⟩
    rw [if_neg o7] at hrn
    by_cases o8 : i.op = 8
    ·rw [if_pos o8] at hrn
     by_cases hq : e1 = 0
     ·rw [if_pos hq] at hrn
      have HRN := Lib.hid hrn
      have hz : ((e1 : Int) == 0) = true := by rw [beq_iff_eq]; omega
      rw [o8] at d0
      clear hrn o0 o1 o2 o3 o4 o5 o6 o7 hio
      go_wp2_with fail
      exact ⟨⟨pc1 + 1, at1, e1, _, true, rfl, rfl, rfl, rfl, rfl, Lib.hid (RunI.on hmN HRN.out HRE.out (HG1.out.trans (GoF.below (HB.out _))) (HF1.out.below (HB.out _)) (MkAt.go (GoF.below (HB.out _)).stay _ _ HMK1.out) ha1)⟩, meas rfl rfl rfl HMM.out (HME.out _ _ _ _ HRN.out)⟩
     ·rw [if_neg hq] at hrn
      injection hrn with hrn
      subst hrn
      have hz : ((e1 : Int) == 0) = false := by rw [beq_eq_false_iff_ne]; omega
      rw [o8] at d0
      clear o0 o1 o2 o3 o4 o5 o6 o7 hio
      go_wp2_with fail
      exact ⟨⟨pc1 + 1, at1, e1, _, false, rfl, rfl, rfl, rfl, rfl, Lib.hid (RunI.off HRE.out (HG1.out.trans (GoF.below (HB.out _))) (HF1.out.below (HB.out _)))⟩, meas0⟩
    rw [if_neg o8] at hrn
    have o9 : i.op = 9 := by omega
    injection hrn with hrn
    subst hrn
    rw [o9] at d0
    clear o0 o1 o2 o3 o4 o5 o6 o7 o8 hio
    go_wp2_with fail
    go_ret3
    exact HYES.out _ _ _ _ _ HRE.out (HG1.out.trans (GoF.below (HB.out _))) (HF1.out.below (HB.out _)) (MkAt.go (GoF.below (HB.out _)).stay _ _ HMK1.out)
theorem run_any (C : List Mt.Ins) (s : List UInt8) (L g fa : Nat) (hl : s.length ≤ 20000) (hC : C.length ≤ 10000) (hL : L ≤ 10000) (hop : ∀ i ∈ C, i.op ≤ 9) (N : Nat) : RunAt C s L g fa N :=
 Nat.strongRecOn N fun N ih => run_succ C s L g fa N hl hC hL hop ih
end Go.Proofs.YtmpbjaodgajnfaaGreatDoor
namespace Go.Proofs.YtmpbjaodgajnfaaGreatDoor
open Go.RowKit
def BoB (w : World) (b : Nat) (bs : List Bool) : Prop := w.heap[b]? = some (.cells (bs.map fun x => Value.bool x).toArray 4 (0, 0))
def SpB (w : World) (b : Nat) (xs : List Int) : Prop := w.heap[b]? = some (.cells (xs.map fun x => Value.int .i64 x).toArray 77 (0, 0))
theorem frz0 {w : World} {b : Nat} {c : Array Value} {t : TypeId} (h : w.heap[b]? = some (.cells c t (0, 0))) (k : Nat) : w.frozen? ⟨b, k, none⟩ = false := by
 unfold World.frozen?
 rw [h]
 simp
theorem BoB.cell {w : World} {b : Nat} {bs : List Bool} (h : BoB w b bs) {i : Nat} (hi : i < bs.length) : w.cell? ⟨b, i, none⟩ = some (.bool bs[i]) := by
 rw [Lib.cell_of_heap h]
 simp [hi]
theorem SpB.cell {w : World} {b : Nat} {xs : List Int} (h : SpB w b xs) {i : Nat} (hi : i < xs.length) : w.cell? ⟨b, i, none⟩ = some (.int .i64 xs[i]) := by
 rw [Lib.cell_of_heap h]
 simp [hi]
theorem set_map {α : Type} (f : α → Value) (l : List α) (i : Nat) (x : α) : (l.map f).toArray.setIfInBounds i (f x) = ((l.set i x).map f).toArray := by
 rw [List.map_set]
 simp
theorem BoB.set {w : World} {b : Nat} {bs : List Bool} (h : BoB w b bs) (i : Nat) (x : Bool) : BoB (w.setCell ⟨b, i, none⟩ (.bool x)) b (bs.set i x) := by
 have := set_at h i (.bool x)
 rw [set_map (fun x => Value.bool x)] at this
 exact this
theorem SpB.set {w : World} {b : Nat} {xs : List Int} (h : SpB w b xs) (i : Nat) (x : Int) : SpB (w.setCell ⟨b, i, none⟩ (.int .i64 x)) b (xs.set i x) := by
 have := set_at h i (.int .i64 x)
 rw [set_map (fun x => Value.int .i64 x)] at this
 exact this
theorem made_bo (n : Nat) : madeCells #[Value.bool false] n = ((List.replicate n false).map fun x => Value.bool x).toArray := by
 unfold madeCells
 apply Array.ext_getElem?
 intro i
 by_cases h : i < n <;> simp [h, Nat.mod_one]
theorem made_sp (n : Nat) : madeCells #[Value.int .i64 0, Value.int .i64 0] n = ((List.replicate n (0 : Int)).map fun x => Value.int .i64 x).toArray := by
 unfold madeCells
 apply Array.ext_getElem?
 intro i
 by_cases h : i < n
 ·have h2 : i % 2 = 0 ∨ i % 2 = 1 := by omega
  rcases h2 with h2 | h2 <;> simp [h, h2]
 ·simp [h]
theorem infoBo : (Tryz.prog.info? 4).map (fun i => (i.zero, i.size, i.bytes)) = some (some (.bool false), 1, 1) := by kernel_rfl
theorem infoSp : (Tryz.prog.info? 77).map (fun i => (i.zero, i.size, i.bytes)) = some (some (.agg #[.int .i64 0, .int .i64 0]), 2, 16) := by kernel_rfl
theorem make_sp (n : Nat) (hn : n ≤ 100000) (w : World) : (Instr.makeSlice 178 (.int .i64 (n : Int)) (.int .i64 (n : Int))).run Tryz.prog w = .ok (.slice (some ⟨w.heap.size, 0, none⟩) n n) (w.alloc (.cells ((List.replicate (n * 2) (0 : Int)).map fun x => Value.int .i64 x).toArray 77)) := by
 obtain ⟨i, hi, hzz⟩ := Option.map_eq_some_iff.1 infoSp
 simp only [Prod.mk.injEq] at hzz
 obtain ⟨hz, hs, hb⟩ := hzz
 have hr := run_make (P := Tryz.prog) w 178 77 i _ Tryz.underlying178 hi hz .i64 .i64 n n (by omega) (Int.le_refl _) (by rw [hb]; omega) (by omega)
 simp only [Int.toNat_natCast, hs] at hr
 rw [← made_sp]
 exact hr
theorem make_bo (n : Nat) (hn : n ≤ 100000) (w : World) : (Instr.makeSlice 159 (.int .i64 (n : Int)) (.int .i64 (n : Int))).run Tryz.prog w = .ok (.slice (some ⟨w.heap.size, 0, none⟩) n n) (w.alloc (.cells ((List.replicate n false).map fun x => Value.bool x).toArray 4)) := by
 rw [← made_bo]
 exact run_make_row' (P := Tryz.prog) 159 4 (.bool false) 1 Tryz.underlying159 infoBo rfl .i64 .i64 n (by omega) (by omega) w
def mkLen : Nat → World → Value → Nat
 | 0, _, _ => 0
 | n + 1, w, .pointer (some p) => match w.cell? ⟨p.block, 3, none⟩ with
  | some v => 1 + mkLen n w v
  | none => 0
 | _ + 1, _, _ => 0
theorem mkLen_at {F : Nat → Prop} {w : World} : ∀ (l : List Mt.Mk) (n : Nat) (v : Value), MkAt F w l v → l.length ≤ n → mkLen n w v = l.length
 | [], n, v, h, _ => by
  subst h
  cases n <;> rfl
 | m :: l, 0, v, _, hl => by simp at hl
 | m :: l, n + 1, v, h, hl => by
  obtain ⟨b, v', rfl, hF, hb, hc, h⟩ := h
  rw [mkLen]
  have : w.cell? ⟨b, 3, none⟩ = some v' := by rw [Lib.cell_of_heap hc]; rfl
  simp only
  rw [this]
  simp only
  rw [mkLen_at l n v' h (by simpa using hl), List.length_cons]
  omega
theorem MkAt.cells {F : Nat → Prop} {w : World} {m : Mt.Mk} {l : List Mt.Mk} {v : Value} (h : MkAt F w (m :: l) v) : ∃ b v', v = .pointer (some ⟨b, 0, none⟩) ∧ b < w.heap.size ∧ F b ∧ w.cell? ⟨b, 0, none⟩ = some (.bool m.1) ∧ w.cell? ⟨b, 1, none⟩ = some (.int .i64 (m.2.1 : Int)) ∧ w.cell? ⟨b, 2, none⟩ = some (.int .i64 (m.2.2 : Int)) ∧ w.cell? ⟨b, 3, none⟩ = some v' ∧ MkAt F w l v' := by
 obtain ⟨b, v', e, hF, hb, hc, h⟩ := h
 exact ⟨b, v', e, hb, hF, by rw [Lib.cell_of_heap hc]; rfl, by rw [Lib.cell_of_heap hc]; rfl, by rw [Lib.cell_of_heap hc]; rfl, by rw [Lib.cell_of_heap hc]; rfl, h⟩
theorem addr_add0 (b j : Nat) : (⟨b, 0, none⟩ : Addr).add j = ⟨b, j, none⟩ := by unfold Addr.add; split <;> simp_all
theorem agg_ret2 {fn : Func} {p t : Tmp} {ty : TypeId} (hfn : fn.results = #[.cell p ty, .tmp t]) {W : World} {b : Nat} {cs : List Value} {d : TypeDesc} {ty' : TypeId} {fr : Nat × Nat} {tmps : Array Value} {df : _} (hdf : df = []) (hp : tmps.getD p undef = .pointer (some ⟨b, 0, none⟩)) (hb : W.heap[b]? = some (.cells cs.toArray ty' fr))
  (hu : Tryz.prog.underlying ty = some d) (hd : (match d with | .struct _ | .array _ _ => true | _ => false) = true) (hi : (Tryz.prog.info? ty).map (·.size) = some cs.length) {post : Ending → World → Prop} (h : post (.returned (.tuple #[.agg cs.toArray, tmps.getD t undef])) W) :
  bodyPost Tryz.prog fn post Exit.ret { tmps := tmps, defers := df } W := by
 have hc : ∀ j v, cs[j]? = some v → W.cell? ⟨b, j, none⟩ = some v := fun j v hj => by
  rw [Lib.cell_of_heap hb]
  simpa using hj
 have hl : (loadCells ⟨b, 0, none⟩ cs.length).run Tryz.prog W = .ok cs.toArray W :=
  run_loadCells_list (P := Tryz.prog) W ⟨b, 0, none⟩ cs (fun j v hv => by
   rw [addr_add0]
   exact hc j v hv)
 have hv : (loadVar ty ⟨b, 0, none⟩).run Tryz.prog W = .ok (.agg cs.toArray) W := by
  cases hq : Tryz.prog.info? ty with
  | none => simp [hq] at hi
  | some i =>
   have hs : i.size = cs.length := by simpa [hq] using hi
   have hagg : (isAgg ty).run Tryz.prog W = .ok true W := by
    unfold isAgg
    rw [Sem.run_bind, run_underlying hu W]
    cases d <;> simp_all
   simp [loadVar, Sem.run_bind, hagg, sizeOf, typeInfo, hq, hs, hl]
 have hp' : tmps[p]?.getD undef = .pointer (some ⟨b, 0, none⟩) := by simpa using hp
 refine bodyPost_ret (v := .tuple #[.agg cs.toArray, tmps.getD t undef]) ?_ hdf h
 simp [results, hfn, hp', asAddr, hv]
theorem MaB.go {t : NT} {en : Bool} {s : List UInt8} {F F' : Nat → Prop} {g fa : Nat} {w w' : World} (h : MaB t en s F g fa w) (hg : GoF F F' w w') (hf : FtB (Mt.progN t en) s (Mt.nst t) F' fa w') : MaB t en s F' g fa w' := by
 obtain ⟨nv, hc, hr⟩ := h.nm
 have hgb := h.mb
 refine ⟨h.mb.go hg.stay, hf, nv, ?_, hr.go hg.stay (fun _ _ h => h)⟩
 exact (World.cell?_of_block (w := w) (w' := w') (a := ⟨g, 1, none⟩) (hg.kp.block g hgb.own hgb.lt)).trans hc
theorem MaB.below {t : NT} {en : Bool} {s : List UInt8} {F : Nat → Prop} {g fa : Nat} {w w' : World} (h : MaB t en s F g fa w) (hb : Below w.heap.size w w') : MaB t en s (Fg F w w') g fa w' := h.go (GoF.below hb) (h.ft.below hb)
theorem FtB.put {C : List Mt.Ins} {s : List UInt8} {L : Nat} {F F' : Nat → Prop} {fa : Nat} {w w' : World} (h : FtB C s L F fa w) (hb : ∀ k, ¬ F k → k < w.heap.size → w'.heap[k]? = w.heap[k]?) (hF : ∀ k, F' k → k < w'.heap.size ∧ (k < w.heap.size → F k)) : FtB C s L F' fa w' := by
 obtain ⟨row, h⟩ := h
 exact ⟨row, {
  head := (hb fa h.out (heap_lt h.head)).trans h.head
  out := fun hf => h.out ((hF fa hf).2 (heap_lt h.head))
  bnd := fun b hf => (hF b hf).1
  words := fun e b vs hr he => by
   obtain ⟨h1, h2, h3, h4⟩ := h.words e b vs hr he
   exact ⟨(hb b h3 (heap_lt h1)).trans h1, h2, fun hf => h3 ((hF b hf).2 (heap_lt h1)), h4⟩
  inj := h.inj }⟩
theorem FtB.bnd {C : List Mt.Ins} {s : List UInt8} {L : Nat} {F : Nat → Prop} {fa : Nat} {w : World} (h : FtB C s L F fa w) : ∀ b, F b → b < w.heap.size := by
 obtain ⟨row, h⟩ := h
 exact h.bnd
theorem MaB.fin {t : NT} {en : Bool} {s : List UInt8} {F F2 : Nat → Prop} {g fa : Nat} {w w2 w' : World} (h : MaB t en s F g fa w) (hg : GoF F F2 w w2) (hf : FtB (Mt.progN t en) s (Mt.nst t) F2 fa w2) (h2 : F2 w.heap.size) (hs : SrtP w.heap.size w2 w') : GoF F F w w' ∧ MaB t en s F g fa w' := by
 have hg' : GoF F F w w' := ⟨⟨hs.os.trans hg.kp.os, hs.tape.trans hg.kp.tape, hs.output.trans hg.kp.output, Nat.le_trans hg.kp.size hs.size, fun b hb hl => (hs.block b (Nat.lt_of_lt_of_le hl hg.kp.size) (Nat.ne_of_lt hl)).trans (hg.kp.block b hb hl)⟩, fun _ h => h⟩
 refine ⟨hg', h.go hg' (hf.put (fun k hk hl => hs.block k hl (fun e => hk (e ▸ h2))) (fun k hk => ⟨Nat.lt_of_lt_of_le (h.ft.bnd k hk) hg'.kp.size, fun _ => hg.mono k hk⟩))⟩
theorem SrtP.of_below {blk : Nat} {w w' : World} (h : Below w.heap.size w w') : SrtP blk w w' := ⟨h.os, h.tape, h.output, h.size, fun b hb _ => h.block b hb⟩
theorem SrtP.trans {blk : Nat} {w w' w'' : World} (h : SrtP blk w w') (k : SrtP blk w' w'') : SrtP blk w w'' := ⟨k.os.trans h.os, k.tape.trans h.tape, k.output.trans h.output, Nat.le_trans h.size k.size, fun b hb hne => (k.block b (Nat.lt_of_lt_of_le hb h.size) hne).trans (h.block b hb hne)⟩
theorem SrtP.set (w : World) (blk off : Nat) (v : Value) : SrtP blk w (w.setCell ⟨blk, off, none⟩ v) := ⟨rfl, rfl, rfl, by rw [Deep.nblk_setCell]; exact Nat.le_refl _, fun b _ hne => Deep.blk_setCell_other w _ v b hne⟩
theorem Mt.matR_lt {s : List UInt8} {t : NT} {en : Bool} {a : Nat} {x : Nat × List Mt.Mk} (h : Mt.matR s t en a = some x) : ∀ m ∈ x.2, m.2.1 < (Mt.nsN t []).length := by
 have hk := (Mt.denN_mk s t []).2 a 0
 unfold Mt.matR at h
 generalize Mt.denN s t [] a 0 = l at h hk
 induction l with
 | nil => cases h
 | cons o l ih =>
  rw [Mt.fstD] at h
  have h1 := hk o (by simp)
  split at h
  ·next y hy =>
   injection h with h
   subst h
   split at hy
   ·cases hy
   ·injection hy with hy
    subst hy
    simpa using h1
  ·exact ih h fun o ho => hk o (List.mem_cons_of_mem _ ho)
theorem Mt.fstM_snoc (p : List Mt.Mk) (m : Mt.Mk) (b : Bool) (i : Nat) : (Mt.fstM (p ++ [m]) b i).isSome = ((Mt.fstM p b i).isSome || decide (m.1 = b ∧ m.2.1 = i)) := by
 unfold Mt.fstM
 rw [List.find?_append]
 cases h : p.find? fun m => decide (m.1 = b ∧ m.2.1 = i) with
 | some y => simp
 | none => by_cases hm : m.1 = b ∧ m.2.1 = i <;> simp [hm]
end Go.Proofs.YtmpbjaodgajnfaaGreatDoor
namespace Go.Proofs.YtmpbjaodgajnfaaGreatDoor
open Go.RowKit Go.Sort Go.Shelf
def flg (n : Nat) (p : List Mt.Mk) (b : Bool) : List Bool := (List.range n).map fun i => (Mt.fstM p b i).isSome
theorem flg_len (n : Nat) (p : List Mt.Mk) (b : Bool) : (flg n p b).length = n := by simp [flg]
theorem flg_at {n : Nat} {p : List Mt.Mk} {b : Bool} {c : Nat} (h : c < (flg n p b).length) : (flg n p b)[c] = (Mt.fstM p b c).isSome := by
 simp only [flg, List.getElem_map, List.getElem_range]
theorem flg_nil (n : Nat) (b : Bool) : flg n [] b = List.replicate n false := by
 unfold flg
 apply List.ext_getElem
 ·simp
 ·intro i h1 h2
  simp [Mt.fstM]
theorem flg_set {n : Nat} {p : List Mt.Mk} {b : Bool} {c a : Nat} : (flg n p b).set c true = flg n (p ++ [(b, c, a)]) b := by
 unfold flg
 apply List.ext_getElem
 ·simp
 ·intro i h1 h2
  rw [List.getElem_set]
  simp only [List.getElem_map, List.getElem_range]
  rw [Mt.fstM_snoc]
  by_cases e : c = i
  ·subst e; simp
  ·simp [e]
theorem flg_same {n : Nat} {p : List Mt.Mk} {b : Bool} {c a : Nat} (h : (Mt.fstM p b c).isSome = true) : flg n (p ++ [(b, c, a)]) b = flg n p b := by
 unfold flg
 apply List.map_congr_left
 intro i _
 rw [Mt.fstM_snoc]
 by_cases e : c = i
 ·subst e; rw [h]; rfl
 ·simp [e]
theorem flg_other {n : Nat} {p : List Mt.Mk} {b b' : Bool} {c a : Nat} (h : b' ≠ b) : flg n (p ++ [(b', c, a)]) b = flg n p b := by
 unfold flg
 apply List.map_congr_left
 intro i _
 rw [Mt.fstM_snoc]
 simp [h]
def cntK (ms : List Mt.Mk) (k : Nat) : Nat := ((List.range k).filter fun i => (Mt.fstM ms true i).isSome && (Mt.fstM ms false i).isSome).length
theorem cntK_succ (ms : List Mt.Mk) (k : Nat) : cntK ms (k + 1) = cntK ms k + if ((Mt.fstM ms true k).isSome && (Mt.fstM ms false k).isSome) = true then 1 else 0 := by
 unfold cntK
 rw [List.range_succ, List.filter_append, List.length_append]
 congr 1
 simp only [List.filter_cons, List.filter_nil]
 split <;> rfl
theorem cntK_le (ms : List Mt.Mk) : ∀ k, cntK ms k ≤ k
 | 0 => Nat.zero_le _
 | k + 1 => by
  have := cntK_le ms k
  rw [cntK_succ]
  split <;> omega
def posM (p : List Mt.Mk) (b : Bool) (i : Nat) : Int := match Mt.fstM p b i with
 | some x => (x : Int)
 | none => 0
theorem fstM_app (p : List Mt.Mk) (m : Mt.Mk) (b : Bool) (i : Nat) : Mt.fstM (p ++ [m]) b i = (Mt.fstM p b i).or (if m.1 = b ∧ m.2.1 = i then some m.2.2 else none) := by
 unfold Mt.fstM
 rw [List.find?_append]
 cases h : p.find? fun m => decide (m.1 = b ∧ m.2.1 = i) with
 | some y => simp
 | none => by_cases hm : m.1 = b ∧ m.2.1 = i <;> simp [hm]
def SpQ (n : Nat) (p : List Mt.Mk) (sp : List Int) : Prop := sp.length = n * 2 ∧ ∀ i, i < n → sp[i * 2]? = some (posM p true i) ∧ sp[i * 2 + 1]? = some (posM p false i)
theorem SpQ.nil (n : Nat) : SpQ n [] (List.replicate (n * 2) 0) := by
 refine ⟨by simp, fun i hi => ?_⟩
 rw [List.getElem?_replicate, List.getElem?_replicate, if_pos (by omega), if_pos (by omega)]
 exact ⟨rfl, rfl⟩
theorem posM_same {p : List Mt.Mk} {b : Bool} {c a : Nat} (h : (Mt.fstM p b c).isSome = true) (b' : Bool) (i : Nat) : posM (p ++ [(b, c, a)]) b' i = posM p b' i := by
 unfold posM
 rw [fstM_app]
 simp only
 by_cases e : b = b' ∧ c = i
 ·obtain ⟨rfl, rfl⟩ := e
  obtain ⟨y, hy⟩ := Option.isSome_iff_exists.1 h
  rw [hy]
  rfl
 ·rw [if_neg e, Option.or_none]
theorem SpQ.same {n : Nat} {p : List Mt.Mk} {sp : List Int} {b : Bool} {c a : Nat} (h : SpQ n p sp) (hs : (Mt.fstM p b c).isSome = true) : SpQ n (p ++ [(b, c, a)]) sp :=
 ⟨h.1, fun i hi => by rw [posM_same hs, posM_same hs]; exact h.2 i hi⟩
theorem posM_new {p : List Mt.Mk} {b : Bool} {c a : Nat} (h : (Mt.fstM p b c).isSome = false) (b' : Bool) (i : Nat) : posM (p ++ [(b, c, a)]) b' i = if b = b' ∧ c = i then (a : Int) else posM p b' i := by
 unfold posM
 rw [fstM_app]
 simp only
 by_cases e : b = b' ∧ c = i
 ·obtain ⟨rfl, rfl⟩ := e
  have hy : Mt.fstM p b c = none := by cases hq : Mt.fstM p b c with | none => rfl | some y => rw [hq] at h; cases h
  rw [hy, if_pos ⟨rfl, rfl⟩, if_pos ⟨rfl, rfl⟩]
  rfl
 ·rw [if_neg e, if_neg e, Option.or_none]
theorem posM_own {p : List Mt.Mk} {b : Bool} {c a : Nat} (h : (Mt.fstM p b c).isSome = false) (i : Nat) : posM (p ++ [(b, c, a)]) b i = if c = i then (a : Int) else posM p b i := by
 rw [posM_new h]
 by_cases e : c = i
 ·rw [if_pos ⟨rfl, e⟩, if_pos e]
 ·rw [if_neg (fun h => e h.2), if_neg e]
theorem posM_oth {p : List Mt.Mk} {b b' : Bool} {c a : Nat} (h : (Mt.fstM p b c).isSome = false) (hb : b ≠ b') (i : Nat) : posM (p ++ [(b, c, a)]) b' i = posM p b' i := by
 rw [posM_new h, if_neg (fun h => hb h.1)]
theorem SpQ.settrue {n : Nat} {p : List Mt.Mk} {sp : List Int} {c a : Nat} (h : SpQ n p sp) (hs : (Mt.fstM p true c).isSome = false) (hc : c < n) : SpQ n (p ++ [(true, c, a)]) (sp.set (c * 2) (a : Int)) := by
 have hl := h.1
 refine ⟨by rw [List.length_set]; exact h.1, fun i hi => ?_⟩
 obtain ⟨h1, h2⟩ := h.2 i hi
 have q1 : (sp.set (c * 2) (a : Int))[i * 2]? = some (posM (p ++ [(true, c, a)]) true i) := by
  rw [posM_own hs, List.getElem?_set]
  by_cases e : c = i
  ·subst e
   rw [if_pos rfl, if_pos (by omega), if_pos rfl]
  ·rw [if_neg (by omega), if_neg e]
   exact h1
 have q2 : (sp.set (c * 2) (a : Int))[i * 2 + 1]? = some (posM (p ++ [(true, c, a)]) false i) := by
  rw [posM_oth hs (by decide), List.getElem?_set, if_neg (by omega)]
  exact h2
 exact ⟨q1, q2⟩
theorem SpQ.setfalse {n : Nat} {p : List Mt.Mk} {sp : List Int} {c a : Nat} (h : SpQ n p sp) (hs : (Mt.fstM p false c).isSome = false) (hc : c < n) : SpQ n (p ++ [(false, c, a)]) (sp.set (c * 2 + 1) (a : Int)) := by
 have hl := h.1
 refine ⟨by rw [List.length_set]; exact h.1, fun i hi => ?_⟩
 obtain ⟨h1, h2⟩ := h.2 i hi
 have q1 : (sp.set (c * 2 + 1) (a : Int))[i * 2 + 1]? = some (posM (p ++ [(false, c, a)]) false i) := by
  rw [posM_own hs, List.getElem?_set]
  by_cases e : c = i
  ·subst e
   rw [if_pos rfl, if_pos (by omega), if_pos rfl]
  ·rw [if_neg (by omega), if_neg e]
   exact h2
 have q2 : (sp.set (c * 2 + 1) (a : Int))[i * 2]? = some (posM (p ++ [(false, c, a)]) true i) := by
  rw [posM_oth hs (by decide), List.getElem?_set, if_neg (by omega)]
  exact h1
 exact ⟨q2, q1⟩
def grpK (ms : List Mt.Mk) (ns : List Mt.Nm) : Nat → List Grp
 | 0 => []
 | k + 1 => grpK ms ns k ++ if ((Mt.fstM ms true k).isSome && (Mt.fstM ms false k).isSome) = true then [(ns.getD k [], posM ms true k, posM ms false k)] else []
theorem grpK_len (ms : List Mt.Mk) (ns : List Mt.Nm) : ∀ k, (grpK ms ns k).length = cntK ms k
 | 0 => rfl
 | k + 1 => by
  rw [grpK, List.length_append, grpK_len ms ns k, cntK_succ]
  split <;> rfl
theorem BoB.other {w : World} {b b' o : Nat} {v : Value} {bs : List Bool} (h : BoB w b bs) (hne : b ≠ b') : BoB (w.setCell ⟨b', o, none⟩ v) b bs := (Deep.blk_setCell_other _ _ _ b hne).trans h
theorem SpB.other {w : World} {b b' o : Nat} {v : Value} {xs : List Int} (h : SpB w b xs) (hne : b ≠ b') : SpB (w.setCell ⟨b', o, none⟩ v) b xs := (Deep.blk_setCell_other _ _ _ b hne).trans h
def GrR (x : Grp) (us : List Value) : Prop := us = encG x
theorem infoG : (Tryz.prog.info? 85).map (fun i => (i.zero, i.size, i.bytes)) = some (some (.agg #[.string ⟨#[]⟩, .int .i64 0, .int .i64 0]), 3, 32) := by kernel_rfl
theorem flat_map (gs : List Grp) (uss : List (List Value)) (hl : uss.length = gs.length) (h : ∀ i (h : i < gs.length) (h' : i < uss.length), uss[i].length = 3 ∧ GrR gs[i] uss[i]) : uss = gs.map encG := by
 apply List.ext_getElem
 ·simp [hl]
 ·intro i h1 h2
  rw [List.getElem_map]
  exact (h i (by omega) h1).2
theorem gins_nil (w : World) (q : Option Addr) (c : Nat) : Calls Tryz.prog 162 #[.slice q 0 c, .int .i64 0, .int .i64 0, .func (.func 115) #[] #[]] w fun e w' => e = .returned (.tuple #[]) ∧ w' = w := by
 go_enter Tryz.func162, Tryz.ntmps162
 go_wp2_with fail
 refine wp_loop_rounds 1 ?_
 rw [rounds_succ]
 go_wp2_with fail
 go_end0
 exact ⟨rfl, rfl⟩
theorem gsort_nil (w : World) (q : Option Addr) (c : Nat) : Calls Tryz.prog 114 #[.slice q 0 c, .func (.func 115) #[] #[]] w fun e w' => e = .returned (.tuple #[]) ∧ w' = w := by
 have HI : Hid (Calls Tryz.prog 140 #[.slice q 0 c, .int .i64 0, .func (.func 115) #[] #[]] w fun e w' => e = .returned (.tuple #[]) ∧ w' = w) := Lib.hid (by
  have HJ := Lib.hid (gins_nil w q c)
  go_enter Tryz.func140, Tryz.ntmps140
  go_wp2_with fail
  refine wp_loop_rounds 1 ?_
  rw [rounds_succ]
  go_wp2_with (go_at_call 162; refine HJ.out.mono ?_; rintro e w' ⟨rfl, rfl⟩)
  refine wp_loop_rounds 1 ?_
  rw [rounds_succ]
  go_wp2_with fail
  go_end0
  exact ⟨rfl, rfl⟩)
 go_enter Tryz.func114, Tryz.ntmps114
 go_wp2_with (go_at_call 140; refine HI.out.mono ?_; rintro e w' ⟨rfl, rfl⟩)
 go_end0
 exact ⟨rfl, rfl⟩
def srtG (gs : List Grp) : List Grp := (sortG gs.toArray).toList
theorem srtG_len (gs : List Grp) : (srtG gs).length = gs.length := by
 unfold srtG
 rw [Array.length_toList, sortG_size]
 simp
theorem srtG_nil : srtG [] = [] := List.length_eq_zero_iff.1 (by rw [srtG_len]; rfl)
def mgrp (t : NT) (ms : List Mt.Mk) : List Grp := srtG (grpK ms (Mt.nsN t []) (Mt.nsN t []).length)
theorem mgrp_len (t : NT) (ms : List Mt.Mk) : (mgrp t ms).length = Mt.cntM (Mt.nsN t []).length ms := by
 unfold mgrp
 rw [srtG_len, grpK_len]
 rfl
def MatP (t : NT) (en : Bool) (s : List UInt8) (F : Nat → Prop) (g fa at_ : Nat) (w : World) (e : Ending) (w' : World) : Prop := (GoF F F w w' ∧ MaB t en s F g fa w') ∧ match Mt.matR s t en at_ with
 | none => e = .returned (.tuple #[.agg #[.int .i64 0, .int .i64 0, .slice none 0 0], .bool false])
 | some x => ∃ a c, e = .returned (.tuple #[.agg #[.int .i64 (at_ : Int), .int .i64 (x.1 : Int), .slice a (Mt.cntM (Mt.nsN t []).length x.2) c], .bool true]) ∧ RW (fun b => w.heap.size < b) 3 GrR w' (mgrp t x.2) (.slice a (Mt.cntM (Mt.nsN t []).length x.2) c)
theorem encG_at (x : Grp) (j : Nat) (hj : j < 3) : (encG x)[j]? = some (encG x)[j]! := by
 rw [List.getElem!_eq_getElem?_getD]
 have : j = 0 ∨ j = 1 ∨ j = 2 := by omega
 rcases this with e | e | e <;> rw [e] <;> rfl
theorem holds_rw {w : World} {q B c : Nat} {gs : List Grp} (h : HoldsK encG 3 w q 0 gs.toArray) (hq : q < w.heap.size) (hB : B ≤ q) (hl : gs.length ≤ 1000000) : RW (fun b => B ≤ b) 3 GrR w gs (.slice (some ⟨q, 0, none⟩) gs.length c) := by
 refine ⟨some ⟨q, 0, none⟩, c, rfl, ⟨hl, fun e => by cases e⟩, fun h0 => ⟨q, 0, rfl, hq, hB, fun i hi => ⟨encG gs[i], rfl, fun j hj => ?_, rfl⟩⟩⟩
 have ht : i * 3 + j < (flatK encG 3 gs.toArray).size := by rw [size_flatK]; simp; omega
 have h1 := (h (i * 3 + j) ht).1
 rw [get_flatK encG 3 gs.toArray _ (by simpa using by omega)] at h1
 rw [Nat.add_assoc, h1, show (i * 3 + j) / 3 = i by omega, show (i * 3 + j) % 3 = j by omega, encG_at _ j hj]
 have e1 : gs.toArray[i]! = gs[i] := by rw [getElem!_pos _ _ (by simpa using hi)]; simp
 rw [e1]
 rfl
theorem grow_sort {w : World} {B : Nat} {gs : List Grp} {gv : Value} (h : OR B 85 3 GrR w gs gv) (hl : gs.length ≤ 16) (hB : B ≤ w.heap.size) : ∃ a c, gv = .slice a gs.length c ∧
  Calls Tryz.prog 114 #[gv, .func (.func 115) #[] #[]] w fun e w' => e = .returned (.tuple #[]) ∧ Below B w w' ∧ RW (fun b => B ≤ b) 3 GrR w' (srtG gs) (.slice a gs.length c) := by
 obtain ⟨⟨uss, hlen, hel, _, ⟨h1, h2⟩ | ⟨q, cap, cur, h1, hq, hg, hnc, hcm, hcs, htk⟩⟩, hs⟩ := h
 ·refine ⟨none, 0, by rw [h1, h2], ?_⟩
  rw [h1]
  exact (gsort_nil w none 0).mono fun e w' ⟨h3, h4⟩ => ⟨h3, by rw [h4]; exact Below.refl _ _, by
   have e0 : gs = [] := List.length_eq_zero_iff.1 h2
   subst e0
   rw [srtG_nil]
   exact ⟨none, 0, rfl, ⟨Nat.zero_le _, fun _ => rfl⟩, fun h => absurd h (by decide)⟩⟩
 ·subst h1
  have huss := flat_map gs uss hlen hel
  refine ⟨some ⟨q, 0, none⟩, cap, rfl, ?_⟩
  have hH : HoldsK encG 3 w q 0 gs.toArray := by
   intro t ht
   rw [size_flatK] at ht
   have ht' : t < gs.length * 3 := by simpa using ht
   rw [Nat.zero_add, get_flatK encG 3 gs.toArray t ht]
   refine ⟨?_, frz0 hg t⟩
   rw [Lib.cell_of_heap hg]
   have hd : t / 3 < gs.length := by omega
   have e := flat_at 3 uss (fun u hu => by obtain ⟨j, hj, rfl⟩ := List.getElem_of_mem hu; exact (hel j (by omega) hj).1) (t / 3) (t % 3) (by omega) (by omega)
   rw [show t / 3 * 3 + t % 3 = t by omega, ← htk, List.getElem?_take_of_lt ht'] at e
   have e1 : gs.toArray[t / 3]! = gs[t / 3] := by rw [getElem!_pos _ _ (by simpa using hd)]; simp
   rw [e1]
   have h3 := (hel (t / 3) hd (by omega)).2
   unfold GrR at h3
   rw [h3] at e
   have e2 : (encG gs[t / 3])[t % 3]? = some (encG gs[t / 3])[t % 3]! := by
    rw [List.getElem!_eq_getElem?_getD]
    have : t % 3 = 0 ∨ t % 3 = 1 ∨ t % 3 = 2 := by omega
    rcases this with e | e | e <;> rw [e] <;> rfl
   rw [e2] at e
   simpa using e
  have := gsort_any q 0 cap gs.toArray w hH (heap_lt hg) (by simpa using Nat.le_trans hl (by decide))
  simp only [List.size_toArray] at this
  exact this.mono fun e w' ⟨h3, h4, h5⟩ => ⟨h3, ⟨h4.os, h4.tape, h4.output, h4.size, fun b hb => h4.block b (by omega) (by omega)⟩, by
   have h6 := holds_rw (B := B) (c := cap) (gs := srtG gs) h5 (Nat.lt_of_lt_of_le (heap_lt hg) h4.size) hq (by rw [srtG_len]; omega)
   rwa [srtG_len] at h6⟩
end Go.Proofs.YtmpbjaodgajnfaaGreatDoor
namespace Go.Proofs.YtmpbjaodgajnfaaGreatDoor.Mt
def Op9 (l : List Ins) : Prop := ∀ i ∈ l, i.op ≤ 9
theorem Op9.nil : Op9 [] := fun i hi => by cases hi
theorem Op9.cons {i : Ins} {l : List Ins} (h : i.op ≤ 9) (k : Op9 l) : Op9 (i :: l) := fun j hj => by
 rcases List.mem_cons.1 hj with rfl | hj
 ·exact h
 ·exact k j hj
theorem Op9.app {l m : List Ins} (h : Op9 l) (k : Op9 m) : Op9 (l ++ m) := fun i hi => (List.mem_append.1 hi).elim (h i) (k i)
theorem times_op {f : Nat → List Nm → Cmp} (h : ∀ b ns, Op9 (f b ns).1) : ∀ n b ns, Op9 (times f n b ns).1
 | 0, _, _ => by rw [times]; exact Op9.nil
 | n + 1, b, ns => by rw [times]; exact (h b ns).app (times_op h n _ _)
theorem opts_op {f : Nat → List Nm → Cmp} (h : ∀ b ns, Op9 (f b ns).1) (E : Nat) : ∀ n b ns, Op9 (opts f E n b ns).1
 | 0, _, _ => by rw [opts]; exact Op9.nil
 | n + 1, b, ns => by
  rw [opts]
  exact Op9.app (Op9.cons (by simp) (h _ _)) (opts_op h E n _ _)
mutual
theorem compN_op : ∀ t : NT, ∀ b ns, Op9 (compN t b ns).1
 | .node op rs nm kids mn mx, b, ns => by
  rw [compN]
  by_cases h1 : op = 1
  ·rw [if_pos h1]; exact Op9.cons (by simp) Op9.nil
  rw [if_neg h1]
  by_cases h6 : op = 6
  ·rw [if_pos h6]; exact Op9.cons (by simp) Op9.nil
  rw [if_neg h6]
  by_cases h7 : op = 7
  ·rw [if_pos h7]; exact Op9.cons (by simp) Op9.nil
  rw [if_neg h7]
  by_cases h2 : op = 2
  ·rw [if_pos h2]; exact compL_op kids b ns
  rw [if_neg h2]
  by_cases h3 : op = 3
  ·rw [if_pos h3]; exact compA_op _ kids b ns
  rw [if_neg h3]
  by_cases h5 : op = 5
  ·rw [if_pos h5]
   exact Op9.app (Op9.cons (by simp) (compH_op kids _ _)) (Op9.cons (by simp) Op9.nil)
  rw [if_neg h5]
  by_cases h4 : op = 4
  ·rw [if_pos h4]
   by_cases h0 : mx = 0
   ·rw [if_pos h0]; exact Op9.nil
   ·rw [if_neg h0]
    have ih := compH_op kids
    unfold rept
    split
    ·unfold star
     exact Op9.app (times_op ih _ _ _) (Op9.app (Op9.cons (by simp) (Op9.cons (by simp) (ih _ _))) (Op9.cons (by simp) (Op9.cons (by simp) Op9.nil)))
    ·exact Op9.app (times_op ih _ _ _) (opts_op ih _ _ _ _)
  ·rw [if_neg h4]; exact Op9.nil
theorem compH_op : ∀ ks : List NT, ∀ b ns, Op9 (compH ks b ns).1
 | [], b, ns => by rw [compH]; exact Op9.nil
 | k :: ks, b, ns => by rw [compH]; exact compN_op k b ns
theorem compL_op : ∀ ks : List NT, ∀ b ns, Op9 (compL ks b ns).1
 | [], b, ns => by rw [compL]; exact Op9.nil
 | k :: ks, b, ns => by
  rw [compL]
  exact (compN_op k b ns).app (compL_op ks _ _)
theorem compA_op (E : Nat) : ∀ ks : List NT, ∀ b ns, Op9 (compA E ks b ns).1
 | [], b, ns => by rw [compA]; exact Op9.nil
 | [k], b, ns => by rw [compA]; exact compN_op k b ns
 | k :: k2 :: ks, b, ns => by
  rw [compA_two]
  exact Op9.app (Op9.cons (by simp) (compN_op k _ _)) (Op9.cons (by simp) (compA_op E (k2 :: ks) _ _))
end
theorem progN_op (t : NT) (en : Bool) : Op9 (progN t en) := by
 unfold progN
 refine (compN_op t 0 []).app ?_
 cases en
 ·exact Op9.cons (by simp) Op9.nil
 ·exact Op9.cons (by simp) (Op9.cons (by simp) Op9.nil)
end Go.Proofs.YtmpbjaodgajnfaaGreatDoor.Mt

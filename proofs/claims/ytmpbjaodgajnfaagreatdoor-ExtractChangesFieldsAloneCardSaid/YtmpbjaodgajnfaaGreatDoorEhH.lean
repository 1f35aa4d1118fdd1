/-
 Joined: MtZ, MtZa, MtZb, MtCe, MtCf.
-/
import Derived.Test.YtmpbjaodgajnfaaGreatDoorEhG
namespace Go.Proofs.YtmpbjaodgajnfaaGreatDoor
open Go.RowKit
theorem Mt.times_names (t : NT) : ∀ (n b : Nat) (ns : List (List UInt8)), (Mt.times (Mt.compN t) n b ns).2 = Mt.timesN (Mt.nsN t) n ns
 | 0, _, _ => rfl
 | n + 1, b, ns => by rw [Mt.times, Mt.timesN, Mt.times_names t n, Mt.compN_names]
theorem Mt.timesN_len (t : NT) : ∀ (n : Nat) (ns : List (List UInt8)), ns.length ≤ (Mt.timesN (Mt.nsN t) n ns).length
 | 0, _ => Nat.le_refl _
 | n + 1, ns => Nat.le_trans (Mt.nsN_le t ns) (Mt.timesN_len t n _)
theorem opts_E_len (f : Nat → List (List UInt8) → Mt.Cmp) (E E' : Nat) : ∀ n b ns, (Mt.opts f E n b ns).1.length = (Mt.opts f E' n b ns).1.length
 | 0, _, _ => rfl
 | n + 1, b, ns => by
  rw [Mt.opts, Mt.opts]
  simp only [List.length_append, List.length_cons]
  rw [opts_E_len f E E' n]
set_option maxHeartbeats 16000000 in
set_option maxRecDepth 1000000 in
theorem repeat_any (w0 : World) (s : List UInt8) (g : Nat) (kid : NT) (ih : NodAt w0 s g kid) (v : Value) (rs : List (UInt8 × UInt8)) (nm : List UInt8) (mn mx : Int) (k : Nat) (F : Nat → Prop) (code : List Mt.Ins) (names : List (List UInt8)) (lp : Nat) (W : World) (hv : NAt w0 (.node 4 rs nm [kid] mn mx) v) (hok : Mt.okN kid) (hb0 : 0 ≤ mn) (hb1 : mn ≤ 40) (hb2 : mx = -1 ∨ (mn ≤ mx ∧ mx ≤ 40)) (hp : Pre w0 s g F code names lp W)
  (hl : code.length + (Mt.compN (.node 4 rs nm [kid] mn mx) code.length names).1.length ≤ 100000) (hn : (Mt.compN (.node 4 rs nm [kid] mn mx) code.length names).2.length ≤ 100000) (hk : k + Mt.nst (.node 4 rs nm [kid] mn mx) ≤ 5000) (hlk : k ≤ lp) :
  Calls Tryz.prog 112 #[.pointer (some ⟨g, 0, none⟩), v, .int .i64 (k : Int)] W (NodP w0 s g F code lp (Mt.compN (.node 4 rs nm [kid] mn mx) code.length names) (k + Mt.nst (.node 4 rs nm [kid] mn mx)) W) := by
 have hcomp : Mt.compN (.node 4 rs nm [kid] mn mx) code.length names = if mx = 0 then ([], Mt.capsN kid names) else Mt.rept (Mt.compN kid) mn mx code.length names := by
  rw [Mt.compN]
  simp only [show ¬ (4 : Int) = 1 by decide, show ¬ (4 : Int) = 6 by decide, show ¬ (4 : Int) = 7 by decide, show ¬ (4 : Int) = 2 by decide, show ¬ (4 : Int) = 3 by decide, show ¬ (4 : Int) = 5 by decide, if_false, if_true]
  by_cases h0 : mx = 0
  ·rw [if_pos h0, if_pos h0, List.take_succ_cons, Mt.capsL, List.take_zero, Mt.capsL]
  ·rw [if_neg h0, if_neg h0]
   have : Mt.compH [kid] = Mt.compN kid := by funext b ns; rw [Mt.compH]
   rw [this]
 have hnst : Mt.nst (.node 4 rs nm [kid] mn mx) = if mx = 0 then 0 else if mx = -1 then Mt.nst kid + 1 else Mt.nst kid := by
  rw [Mt.nst]
  simp only [show ¬ ((4 : Int) = 2 ∨ (4 : Int) = 3) by decide, show ¬ (4 : Int) = 5 by decide, if_false, if_true]
  rw [Mt.nstH]
 rw [hcomp] at hl hn ⊢
 rw [hnst] at hk ⊢
 clear hcomp hnst
 obtain ⟨op, rs', nm0, kids, mn', mx', ra, rc, a, c, e0, rfl, _, _, hkk⟩ := hv.open
 injection e0 with q1 q2 q3 q4 q5 q6
 subst q1 q2 q3 q4 q5 q6
 obtain ⟨blk, off, op', ra', rn', rc', nm', a', n', c', mn', mx', rfl, hbl, c0, c1, c2, c3, c4, c5, hT⟩ := hkk 0 (by simp)
 simp only [Nat.zero_mul, Nat.add_zero, List.getElem_cons_zero] at c0 c1 c2 c3 c4 c5 hT
 clear hv hkk
 obtain ⟨nr, hnr⟩ : ∃ n, rs.length = n := ⟨_, rfl⟩
 obtain ⟨m, hm⟩ := Int.eq_ofNat_of_zero_le hb0
 subst hm
 rw [hnr]
 clear hnr
 rw [show ([kid] : List NT).length = 1 from rfl]
 have e0 := (hp.bl.cell (p := ⟨blk, off, none⟩) hbl).trans c0
 have e1 := (hp.bl.cell (p := ⟨blk, off + 1, none⟩) hbl).trans c1
 have e2 := (hp.bl.cell (p := ⟨blk, off + 2, none⟩) hbl).trans c2
 have e3 := (hp.bl.cell (p := ⟨blk, off + 3, none⟩) hbl).trans c3
 have e4 := (hp.bl.cell (p := ⟨blk, off + 4, none⟩) hbl).trans c4
 have e5 := (hp.bl.cell (p := ⟨blk, off + 5, none⟩) hbl).trans c5
 have hlw : blk < W.heap.size := Nat.lt_of_lt_of_le hbl hp.bl.size
 clear c0 c1 c2 c3 c4 c5 hbl
 -- the two boxes
 obtain ⟨Wb, hWb⟩ : ∃ Wb, (W.alloc (.cells #[.int .i64 4, .slice ra nr rc, .string ⟨nm.toArray⟩, .slice (some ⟨blk, off, none⟩) 1 c, .int .i64 (m : Int), .int .i64 mx] 33)).alloc (.cells #[.int .i64 op', .slice ra' rn' rc', .string ⟨nm'.toArray⟩, .slice a' n' c', .int .i64 mn', .int .i64 mx'] 33) = Wb := ⟨_, rfl⟩
 have hsz1 : (W.alloc (.cells #[.int .i64 4, .slice ra nr rc, .string ⟨nm.toArray⟩, .slice (some ⟨blk, off, none⟩) 1 c, .int .i64 (m : Int), .int .i64 mx] 33)).heap.size = W.heap.size + 1 := Deep.nblk_alloc W _
 have hbb : Below W.heap.size W Wb := by rw [← hWb]; exact ((Below.refl _ _).alloc (Nat.le_refl _) _).alloc (by rw [hsz1]; omega) _
 have hbx1 : Wb.heap[W.heap.size]? = some (.cells #[.int .i64 4, .slice ra nr rc, .string ⟨nm.toArray⟩, .slice (some ⟨blk, off, none⟩) 1 c, .int .i64 (m : Int), .int .i64 mx] 33 (0, 0)) := by
  rw [← hWb, Deep.blk_alloc_lt _ _ _ (by rw [hsz1]; omega)]
  exact Deep.blk_alloc_new W _
 have hbx2 : Wb.heap[W.heap.size + 1]? = some (.cells #[.int .i64 op', .slice ra' rn' rc', .string ⟨nm'.toArray⟩, .slice a' n' c', .int .i64 mn', .int .i64 mx'] 33 (0, 0)) := by
  rw [← hWb, ← hsz1]
  exact Deep.blk_alloc_new _ _
 have HP1 := Lib.hid (hp.below hbb)
 have HFb : Hid (Fg F W Wb W.heap.size ∧ Fg F W Wb (W.heap.size + 1)) := Lib.hid ⟨.inr ⟨Nat.le_refl _, heap_lt hbx1⟩, .inr ⟨by omega, heap_lt hbx2⟩⟩
 have HG1 : Hid (GoF F (Fg F W Wb) W Wb) := Lib.hid (GoF.below hbb)
 have HBX := Lib.hid hbx1
 have HBY := Lib.hid hbx2
 obtain ⟨p0, p1, p2, p3, p4, p5⟩ := box6 hbx1
 obtain ⟨r0, r1, r2, r3, r4, r5⟩ := box6 hbx2
 have HT := Lib.hid hT
 clear hp hbb hbx1 hbx2 hsz1 hT
 generalize Fg F W Wb = F1 at HP1 HFb HG1
 have HL := Lib.hid hl
 have HN := Lib.hid hn
 by_cases hx0 : mx = 0
 ·subst hx0
  simp only [if_true] at hl hn hk HN ⊢
  have HC := Lib.hid (caps_any w0 s g kid _ F1 code names lp Wb HT.out HP1.out hn)
  go_enter Tryz.func112, Tryz.ntmps112
  go_wp2_with fail
  refine HC.out.mono ?_
  rintro e W2 ⟨rfl, hp2, hg2⟩
  have HP2 := Lib.hid hp2
  have HG2 := Lib.hid (HG1.out.trans hg2)
  clear hp2 hg2
  go_wp2_with fail
  go_end0
  refine ⟨rfl, ?_, HG2.out.same⟩
  have h := HP2.out.weak HG1.out.mono
  rw [List.append_nil, show max lp (k + 0) = lp by omega]
  exact h
 ·rw [if_neg hx0] at hl hn hk HN HL
  rw [if_neg hx0, if_neg hx0]
  obtain ⟨Q, hQ⟩ : ∃ Q, (if mx = -1 then Mt.nst kid + 1 else Mt.nst kid) = Q := ⟨_, rfl⟩
  have HQ := Lib.hid hQ
  rw [hQ] at hk ⊢
  have hz0 : (mx == 0) = false := by rw [beq_eq_false_iff_ne]; exact hx0
  have HB2 := Lib.hid hb2
  have hrt := Mt.rept_times kid (m : Int) mx code.length names
  rw [Int.toNat_natCast] at hrt
  have HRT : Hid (code.length + (Mt.times (Mt.compN kid) m code.length names).1.length ≤ 100000 ∧ (Mt.times (Mt.compN kid) m code.length names).2.length ≤ 100000) := Lib.hid ⟨by omega, by omega⟩
  have hkk : k + Mt.nst kid ≤ 5000 := by split at hQ <;> omega
  have HKK := Lib.hid hk
  clear hb2 hrt hl hn hk hQ
  go_enter Tryz.func112, Tryz.ntmps112
  go_wp2_with fail
  go_loopw [24] (fun i wr => ∃ (j : Nat) (code1 : List Mt.Ins) (names1 : List (List UInt8)) (lp1 : Nat), i = .int .i64 (j : Int) ∧ j ≤ m ∧ Hid (code ++ (Mt.times (Mt.compN kid) m code.length names).1 = code1 ++ (Mt.times (Mt.compN kid) (m - j) code1.length names1).1 ∧ (Mt.times (Mt.compN kid) m code.length names).2 = (Mt.times (Mt.compN kid) (m - j) code1.length names1).2) ∧ Hid (lp1 = if j = 0 then lp else max lp (k + Mt.nst kid)) ∧ Hid (Pre w0 s g F1 code1 names1 lp1 wr) ∧ Hid (GoF F1 F1 Wb wr)) (fun i _ => m - (intOf i).toNat)
  case atStart => exact ⟨0, code, names, lp, rfl, by omega, Lib.hid ⟨rfl, rfl⟩, Lib.hid rfl, HP1, Lib.hid (GoF.refl _ _)⟩
  case round =>
   obtain ⟨j, code1, names1, lp1, rfl, hj, HE, HLP, HPj, HGj⟩ := hrel
   obtain ⟨p0, p1, p2, p3, p4, p5⟩ := box6 (HGj.out.blk HFb.out.1 HBX.out)
   obtain ⟨r0, r1, r2, r3, r4, r5⟩ := box6 (HGj.out.blk HFb.out.2 HBY.out)
   by_cases hlt : j < m
   ·obtain ⟨d, hd⟩ : ∃ d, m - j = d + 1 := ⟨m - j - 1, by omega⟩
    have he1 := HE.out.1
    have he2 := HE.out.2
    rw [hd, Mt.times] at he1 he2
    have hq := congrArg List.length he1
    simp only [List.length_append] at hq
    have h1 : code1.length + (Mt.compN kid code1.length names1).1.length ≤ 100000 := by have := HRT.out.1; omega
    have h2 : (Mt.compN kid code1.length names1).2.length ≤ 100000 := by
     have h3 := HRT.out.2
     rw [he2] at h3
     have h4 := Mt.timesN_len kid d (Mt.compN kid code1.length names1).2
     rw [← Mt.times_names kid d (code1.length + (Mt.compN kid code1.length names1).1.length)] at h4
     simp only at h3
     omega
    have HN2 := Lib.hid (ih _ k F1 code1 names1 lp1 wr HT.out hok HPj.out h1 h2 hkk)
    have HE1 := Lib.hid he1
    have HE2 := Lib.hid he2
    have i1 : (j : Int) < (m : Int) := by omega
    have hdj : m - (j + 1) = d := by omega
    clear he1 he2 hq h1 h2
    go_wp2_with fail
    refine HN2.out.mono ?_
    rintro e W3 ⟨rfl, hp3, hg3⟩
    have HP3 := Lib.hid (HPj.out.go hg3 hp3)
    have HG3 := Lib.hid (HGj.out.trans hg3)
    clear hp3 hg3
    go_wp2_with fail
    go_roundw
    case rel => exact ⟨j + 1, _, _, _, by go_num, by omega, Lib.hid ⟨by rw [HE1.out, hdj, List.append_assoc, List.length_append], by rw [HE2.out, hdj, List.length_append]⟩, Lib.hid (by have h := HLP.out; rw [if_neg (show ¬ (j + 1 = 0) by omega)]; split at h <;> omega), HP3, HG3⟩
    case measure => simp [intOf]; omega
   ·have hjm : j = m := by omega
    subst hjm
    have hc1 : code ++ (Mt.times (Mt.compN kid) j code.length names).1 = code1 := by rw [HE.out.1, Nat.sub_self, Mt.times, List.append_nil]
    have hn1 : (Mt.times (Mt.compN kid) j code.length names).2 = names1 := by rw [HE.out.2, Nat.sub_self, Mt.times]
    have hb1 : code1.length = code.length + (Mt.times (Mt.compN kid) j code.length names).1.length := by rw [← hc1, List.length_append]
    by_cases hx1 : mx = -1
    ·subst hx1
     obtain rfl : Mt.nst kid + 1 = Q := by rw [← HQ.out, if_pos rfl]
     have hrept : Mt.rept (Mt.compN kid) (j : Int) (-1) code.length names = ((Mt.times (Mt.compN kid) j code.length names).1 ++ (Mt.star (Mt.compN kid) code1.length names1).1, (Mt.star (Mt.compN kid) code1.length names1).2) := by
      unfold Mt.rept
      rw [if_pos rfl, Int.toNat_natCast, hb1, hn1]
     have hl1 := HL.out
     have hn2 := HN.out
     rw [hrept] at hl1 hn2
     have hstar : Mt.star (Mt.compN kid) code1.length names1 = (⟨1, code1.length + 1, code1.length + 4 + (Mt.compN kid (code1.length + 2) names1).1.length, []⟩ :: ⟨7, 0, 0, []⟩ :: (Mt.compN kid (code1.length + 2) names1).1 ++ [⟨8, 0, 0, []⟩, ⟨2, code1.length, 0, []⟩], (Mt.compN kid (code1.length + 2) names1).2) := rfl
     rw [hstar] at hl1 hn2
     simp only [List.length_append, List.length_cons, List.length_nil] at hl1
     have HRE := Lib.hid hrept
     have HST := Lib.hid hstar
     have HC1 := Lib.hid hc1
     obtain ⟨b, hb⟩ : ∃ b, code1.length = b := ⟨_, rfl⟩
     have HBL := Lib.hid hb
     have HO := optional_any w0 s g kid ih _ k F1 code1 names1 lp1 wr HT.out hok HPj.out (by omega) hn2 (by have := HKK.out; omega)
     rw [hb] at HO hl1 hn2 HST hb1
     have HO := Lib.hid HO
     have HBB : Hid (b + 4 + (Mt.compN kid (b + 2) names1).1.length ≤ 100000) := Lib.hid (by omega)
     clear hrept hstar hc1 hn1 hb hn2 hb1 hl1
     go_wp2_with fail
     refine HO.out.mono ?_
     rintro e W2 ⟨rfl, hp2, hg2⟩
     have HP2 := Lib.hid (HPj.out.go hg2 hp2)
     have HG2 := Lib.hid (HGj.out.trans hg2)
     clear hp2 hg2
     go_wp2_with fail
     refine (emit0_any 2 b 0 HP2.out.ps (by have := HBB.out; simp [HBL.out]; omega)).mono ?_
     rintro e W3 ⟨rfl, hp3, hg3⟩
     have HP3 := Lib.hid (HP2.out.go hg3 hp3)
     have HG3 := Lib.hid (HG2.out.trans hg3)
     obtain ⟨kc, hkc⟩ : ∃ kc, (Mt.compN kid (b + 2) names1).1.length = kc := ⟨_, rfl⟩
     have hp4 : PgS w0 s g F1 (code1 ++ ⟨1, b + 1, 0, []⟩ :: (⟨7, 0, 0, []⟩ :: (Mt.compN kid (b + 2) names1).1 ++ [⟨8, 0, 0, []⟩, ⟨2, b, 0, []⟩])) (Mt.compN kid (b + 2) names1).2 (max lp1 (k + 1 + Mt.nst kid)) W3 := by
      have e : code1 ++ ⟨1, b + 1, 0, []⟩ :: (⟨7, 0, 0, []⟩ :: (Mt.compN kid (b + 2) names1).1 ++ [⟨8, 0, 0, []⟩, ⟨2, b, 0, []⟩]) = code1 ++ (⟨1, b + 1, 0, []⟩ :: ⟨7, 0, 0, []⟩ :: (Mt.compN kid (b + 2) names1).1 ++ [⟨8, 0, 0, []⟩]) ++ [(⟨2, b, 0, []⟩ : Mt.Ins)] := by simp
      rw [e]
      exact hp3
     obtain ⟨q, cap, mm, z1, z2, z3, z4, hput⟩ := hp4.putAt b (b + 4 + kc) HBL.out (by simp [HBL.out, hkc]; omega) 2 (.inr rfl)
     have HPUT := Lib.hid (hput (b + 4 + kc) ((b : Int) + 4 + (kc : Int)) (by omega))
     have i1 : (b : Int) < (b : Int) + 4 + (kc : Int) := by omega
     have i2 : (0 : Int) ≤ (b : Int) := by omega
     have HKC := Lib.hid hkc
     clear hp3 hg3 hp4 hput hkc
     go_wp2_with fail
     go_still_tail 12, (by rfl)
     change wpList _ _ _ _ _ W3.drew
     go_wp2_with fail
     have hfin := HPUT.out
     go_end0
     refine ⟨rfl, ?_, ((HG1.out.trans HG3.out).trans hfin.2).same⟩
     have h := hfin.1.weak HG1.out.mono
     have e1 : max lp1 (k + 1 + Mt.nst kid) = max lp (k + (Mt.nst kid + 1)) := by have h := HLP.out; split at h <;> omega
     have e2 : code ++ (Mt.rept (Mt.compN kid) (j : Int) (-1) code.length names).1 = code1 ++ Mt.up 2 (b + 4 + kc) ⟨1, b + 1, 0, []⟩ :: (⟨7, 0, 0, []⟩ :: (Mt.compN kid (b + 2) names1).1 ++ [⟨8, 0, 0, []⟩, ⟨2, b, 0, []⟩]) := by
      rw [HRE.out, HBL.out, HST.out, ← List.append_assoc, HC1.out, HKC.out]
      simp [Mt.up, Mt.upY]
     have e3 : (Mt.rept (Mt.compN kid) (j : Int) (-1) code.length names).2 = (Mt.compN kid (b + 2) names1).2 := by rw [HRE.out, HBL.out, HST.out]
     rw [e2, e3, ← e1]
     exact h
    ·obtain rfl : Mt.nst kid = Q := by rw [← HQ.out, if_neg hx1]
     obtain ⟨M, rfl⟩ := Int.eq_ofNat_of_zero_le (show 0 ≤ mx by have := HB2.out; omega)
     have hjM : j ≤ M := by have := HB2.out; omega
     have hM0 : 1 ≤ M := by omega
     obtain ⟨D, hD⟩ : ∃ D, M - j = D := ⟨_, rfl⟩
     have hMj : (M : Int) - (j : Int) = (D : Int) := by omega
     have hz1 : ((M : Int) == -1) = false := by rw [beq_eq_false_iff_ne]; exact hx1
     obtain ⟨E, hE⟩ : ∃ E, code1.length + (Mt.opts (Mt.compN kid) 0 D code1.length names1).1.length = E := ⟨_, rfl⟩
     have hrept : Mt.rept (Mt.compN kid) (j : Int) (M : Int) code.length names = ((Mt.times (Mt.compN kid) j code.length names).1 ++ (Mt.opts (Mt.compN kid) E D code1.length names1).1, (Mt.opts (Mt.compN kid) 0 D code1.length names1).2) := by
      unfold Mt.rept
      rw [if_neg hx1, Int.toNat_natCast, hMj, Int.toNat_natCast, ← hb1, hn1, hE]
     have hle : (Mt.opts (Mt.compN kid) E D code1.length names1).1.length = (Mt.opts (Mt.compN kid) 0 D code1.length names1).1.length := opts_E_len _ _ _ _ _ _
     have hl1 := HL.out
     have hn2 := HN.out
     rw [hrept] at hl1 hn2
     simp only [List.length_append] at hl1
     have HEL : Hid (E ≤ 100000) := Lib.hid (by omega)
     have HRE := Lib.hid hrept
     have HC1 := Lib.hid hc1
     have HEE := Lib.hid hE
     have HNN := Lib.hid hn2
     have HBD := Lib.hid HP1.out.ps.bnd
     have HDD : Hid (D = M - j) := Lib.hid hD.symm
     have HPs : Hid (Pre w0 s g (Fe F1 (.slice none 0 0)) code1 names1 lp1 wr) := Lib.hid ⟨fun b h => .inl (HPj.out.low b h), HPj.out.bl, HPj.out.ps.weak fun b h => h.elim id (fun e => by cases e)⟩
     have hD40 : D ≤ 40 := by have := HB2.out; omega
     clear hrept hle hl1 hn2 hE hb1 hn1 hc1 HE hj hjM hD hlt
     go_wp2_with fail
     go_loopw [8, 59] (fun u8 i wr => ∃ (n : Nat) (code2 : List Mt.Ins) (names2 : List (List UInt8)) (lp2 : Nat) (eds : List Nat), i = .int .i64 (n : Int) ∧ n ≤ D ∧ eds.length = n ∧ Hid (code1 ++ (Mt.opts (Mt.compN kid) 0 D code1.length names1).1 = code2 ++ (Mt.opts (Mt.compN kid) 0 (D - n) code2.length names2).1 ∧ (Mt.opts (Mt.compN kid) 0 D code1.length names1).2 = (Mt.opts (Mt.compN kid) 0 (D - n) code2.length names2).2 ∧ Mt.endsO (Mt.compN kid) D code1.length names1 = eds ++ Mt.endsO (Mt.compN kid) (D - n) code2.length names2 ∧ ∀ x ∈ eds, x < code2.length) ∧ Hid (lp2 = if j = 0 ∧ n = 0 then lp else max lp (k + Mt.nst kid)) ∧ Hid (Pre w0 s g (Fe F1 u8) code2 names2 lp2 wr) ∧ Hid (EO wr eds u8) ∧ Hid (GoF F1 F1 Wb wr) ∧ Hid (∀ b, u8.ownBlock = some b → Wb.heap.size ≤ b)) (fun _ i _ => D - (intOf i).toNat)
     case atStart => exact ⟨0, code1, names1, lp1, [], rfl, by omega, rfl, Lib.hid ⟨rfl, rfl, rfl, by simp⟩, Lib.hid (by have h := HLP.out; split at h <;> simp_all), HPs, Lib.hid OR.nil, HGj, Lib.hid (by intro b hb; cases hb)⟩
     case round =>
      obtain ⟨n, code2, names2, lp2, eds, rfl, hn, hed, HE, HLP2, HPn, HEO, HGn, HOW⟩ := hrel
      obtain ⟨p0, p1, p2, p3, p4, p5⟩ := box6 (HGn.out.blk HFb.out.1 HBX.out)
      by_cases hlt : n < D
      ·obtain ⟨d, hd⟩ : ∃ d, D - n = d + 1 := ⟨D - n - 1, by omega⟩
       have he := HE.out
       rw [hd, Mt.opts, Mt.endsO] at he
       obtain ⟨he1, he2, he3, he4⟩ := he
       have hq := congrArg List.length he1
       simp only [List.length_append, List.length_cons] at hq
       obtain ⟨b, hb⟩ : ∃ b, code2.length = b := ⟨_, rfl⟩
       rw [hb] at he1 he2 he3 he4 hq
       have h1 : b + 1 + (Mt.compN kid (b + 1) names2).1.length ≤ 100000 := by have := HEL.out; have := HEE.out; omega
       have h2 : (Mt.compN kid (b + 1) names2).2.length ≤ 100000 := by
        have h3 := HNN.out
        rw [he2] at h3
        simp only at h3
        rw [Mt.opts_names (s := []) (L := 0) (q := Mt.nst kid) (D := Mt.denN [] kid) (fn := Mt.nsN kid) (Mt.compN_sem [] 0 kid)] at h3
        exact Nat.le_trans (Mt.timesN_len kid d _) h3
       have HBL := Lib.hid hb
       have HE1 := Lib.hid he1
       have HE2 := Lib.hid he2
       have HE3 := Lib.hid he3
       have HE4 := Lib.hid he4
       have i1 : (n : Int) < (D : Int) := by omega
       have hdn : D - (n + 1) = d := by omega
       clear he1 he2 he3 he4 hq hb
       go_wp2_with fail
       refine (emit0_any 1 0 0 HPn.out.ps (by rw [HBL.out]; omega)).mono ?_
       rintro e W2 ⟨rfl, hp2, hg2⟩
       rw [HBL.out]
       obtain ⟨q, cap, mm, z1, z2, z3, z4, hput⟩ := hp2.putAt b (b + 1) HBL.out (by simp [HBL.out]) 1 (.inl rfl)
       have HP2 := Lib.hid (HPn.out.go hg2 hp2)
       have HG2 := Lib.hid hg2
       have HPUT := Lib.hid (hput (b + 1) ((b : Int) + 1) (by omega))
       have i2 : (b : Int) < (b : Int) + 1 := by omega
       have i3 : (0 : Int) ≤ (b : Int) := by omega
       clear hp2 hg2 hput
       go_wp2_with fail
       obtain ⟨r0, r1, r2, r3, r4, r5⟩ := box6 ((HGn.out.trans ((HG2.out.trans HPUT.out.2).sub fun b h => .inl h)).blk HFb.out.2 HBY.out)
       go_still_tail 12, (by rfl)
       change wpList _ _ _ _ _ W2.drew
       go_wp2_with fail
       obtain ⟨W3, hW3⟩ : ∃ W3, (W2.setCell ⟨q, b * 4 + 1, none⟩ (.int .i64 ((b : Int) + 1))).drew = W3 := ⟨_, rfl⟩
       rw [hW3]
       have hput := HPUT.out
       rw [hW3] at hput
       obtain ⟨c3, hc3⟩ : ∃ c, code2 ++ [Mt.up 1 (b + 1) ⟨1, 0, 0, []⟩] = c := ⟨_, rfl⟩
       have hl3 : c3.length = b + 1 := by rw [← hc3]; simp [HBL.out]
       have hpp := HP2.out.go hput.2 hput.1
       rw [hc3] at hpp
       have HG3 := Lib.hid (HG2.out.trans hput.2)
       have HN3 := ih _ k (Fe F1 u8) c3 names2 lp2 W3 HT.out hok hpp (by rw [hl3]; omega) (by rw [hl3]; exact h2) hkk
       rw [hl3] at HN3
       have HN3 := Lib.hid HN3
       have HP3 := Lib.hid hpp
       have HC3 := Lib.hid hc3
       have HL3 := Lib.hid hl3
       clear hput hpp hc3 hl3 hW3 z1 z3 z4 HPUT r0 r1 r2 r3 r4 r5
       refine HN3.out.mono ?_
       rintro e W4 ⟨rfl, hp4, hg4⟩
       have HP4 := Lib.hid (HP3.out.go hg4 hp4)
       have HG4 := Lib.hid (HG3.out.trans hg4)
       have heo4 : EO W4 eds u8 := HEO.out.go fun b hb => HG4.out.kp.block b (.inr hb) (HEO.out.lt hb)
       obtain ⟨ev5, W5, a5, c5, hev5, hrun, heo5, hp5, hg5, how5⟩ := push_step HP4.out.ps heo4 (by omega) b (fun x hx hf => by have := HOW.out x hx; have := HBD.out x hf; omega)
       rw [hed] at hev5
       subst hev5
       have HG45 : Hid (GoF F1 F1 Wb W5) := Lib.hid ((HGn.out.trans (HG4.out.sub fun b h => .inl h)).trans hg5)
       have HP5 : Hid (Pre w0 s g (Fe F1 (Value.slice a5 (n + 1) c5)) (c3 ++ (Mt.compN kid (b + 1) names2).1) (Mt.compN kid (b + 1) names2).2 (max lp2 (k + Mt.nst kid)) W5) := Lib.hid ⟨fun b h => .inl (HP1.out.low b h), HP1.out.bl.trans (HG45.out.low HP1.out.low HP1.out.bl.size), hp5⟩
       have HEO5 := Lib.hid heo5
       have HOW5 : Hid (∀ x, (Value.slice a5 (n + 1) c5).ownBlock = some x → Wb.heap.size ≤ x) := Lib.hid fun x hx => by
        rcases how5 x hx with h | h
        ·exact HOW.out x h
        ·exact Nat.le_trans (HGn.out.trans (HG4.out.sub fun b h => .inl h)).kp.size h
       clear heo4 heo5 hp5 hg5 how5 hp4 hg4
       go_wp2_with (at_builtin; refine wpList_append_run rfl _ _ _ rfl _ _ _ rfl rfl hrun ?_)
       go_roundw
       case rel =>
        refine ⟨n + 1, _, _, _, eds ++ [b], by go_num, by omega, by simp [hed], Lib.hid ⟨?_, ?_, ?_, ?_⟩, Lib.hid ?_, HP5, HEO5, HG45, HOW5⟩
        ·rw [hdn, List.length_append, HL3.out, HE1.out, ← HC3.out]
         simp [Mt.up, Mt.upX]
        ·rw [hdn, List.length_append, HL3.out, HE2.out]
        ·rw [hdn, List.length_append, HL3.out, HE3.out]
         simp
        ·intro x hx
         rw [List.length_append, HL3.out]
         rcases List.mem_append.1 hx with hx | hx
         ·have := HE4.out x hx
          omega
         ·rw [List.mem_singleton] at hx
          omega
        ·rw [if_neg (by omega), HLP2.out]
         split <;> omega
       case measure => simp [intOf]; omega
      ·obtain rfl : n = D := by omega
       have he := HE.out
       rw [Nat.sub_self, Mt.opts, Mt.endsO, List.append_nil, List.append_nil] at he
       obtain ⟨he1, he2, he3, he4⟩ := he
       subst he1
       have hl2 : (code1 ++ (Mt.opts (Mt.compN kid) 0 n code1.length names1).1).length = E := by rw [List.length_append]; exact HEE.out
       obtain ⟨C2, hC2⟩ : ∃ C2, code1 ++ (Mt.opts (Mt.compN kid) 0 n code1.length names1).1 = C2 := ⟨_, rfl⟩
       rw [hC2] at hl2 he4 HPn
       obtain ⟨ea, ec, rfl⟩ := HEO.out.sl
       have HE4 := Lib.hid he4
       have HE3 := Lib.hid he3
       have HE2 := Lib.hid he2
       have HC2 := Lib.hid hC2
       have HL2 := Lib.hid hl2
       clear he2 he3 he4 hC2 hl2 HE
       rw [hed] at HEO HPn HOW
       clear hlt hn
       go_wp2_with fail
       go_loopw [87] (fun i wr2 => ∃ (x : Nat), i = .int .i64 (x : Int) ∧ x ≤ n ∧ Hid (Pre w0 s g (Fe F1 (.slice ea n ec)) (Mt.setAll (Mt.upY E) C2 (eds.take x)) names2 lp2 wr2) ∧ Hid (EO wr2 eds (.slice ea n ec)) ∧ Hid (GoF F1 F1 Wb wr2)) (fun i _ => n - (intOf i).toNat)
       case atStart => exact ⟨0, rfl, by omega, by rw [List.take_zero, Mt.setAll_nil]; exact HPn, HEO, HGn⟩
       case round =>
        obtain ⟨x, rfl, hx, HPx, HEOx, HGx⟩ := hrel
        by_cases hlt : x < n
        ·obtain ⟨q1, c1, hev, hq1, hcell⟩ := HEOx.out.at (i := x) (by omega)
         injection hev with y1 y2 y3
         subst y1
         clear y2 y3
         obtain ⟨pl, hpl⟩ : ∃ pl, eds[x]'(by omega) = pl := ⟨_, rfl⟩
         rw [hpl] at hcell
         have hlen : (Mt.setAll (Mt.upY E) C2 (eds.take x)).length = E := by rw [Mt.setAll_len, HL2.out]
         have hple : pl < E := by rw [← hpl, ← HL2.out]; exact HE4.out _ (List.getElem_mem _)
         obtain ⟨q, cap, mm, z1, z3, z4, hput⟩ := HPx.out.ps.putK (b := pl) (by rw [hlen]; exact hple) 2 (.inr rfl)
         rw [hlen] at z1
         have HPUT := Lib.hid (hput E (E : Int) rfl)
         have HPL := Lib.hid hpl
         have i1 : (x : Int) < (n : Int) := by omega
         have i2 : (pl : Int) < (E : Int) := by omega
         have i3 : (0 : Int) ≤ (pl : Int) := by omega
         clear hput hpl hlen
         go_wp2_with fail
         go_still_tail 12, (by rfl)
         change wpList _ _ _ _ _ wr.drew
         go_wp2_with fail
         have hfin := HPUT.out
         go_roundw
         case rel =>
          refine ⟨x + 1, by go_num, by omega, Lib.hid (HPx.out.go hfin.2 ?_), Lib.hid (HEOx.out.go fun b hb => hfin.2.kp.block b (.inr hb) (HEOx.out.lt hb)), Lib.hid (HGx.out.trans (hfin.2.sub fun b h => .inl h))⟩
          rw [List.take_succ_eq_append_getElem (by omega), HPL.out, Mt.setAll, List.foldl_append]
          exact hfin.1
         case measure => simp [intOf]; omega
        ·obtain rfl : x = n := by omega
         go_wp2_with fail
         go_end0
         refine ⟨rfl, ?_, (HG1.out.trans HGx.out).same⟩
         have h := HPx.out.ps.weak (F' := F) fun b hb => .inl (HG1.out.mono b hb)
         have e1 : lp2 = max lp (k + Mt.nst kid) := by have h := HLP2.out; rw [if_neg (by omega)] at h; exact h
         have e2 : code ++ (Mt.rept (Mt.compN kid) (j : Int) (M : Int) code.length names).1 = code1 ++ (Mt.opts (Mt.compN kid) E x code1.length names1).1 := by rw [HRE.out, ← List.append_assoc, HC1.out]
         have e3 : (Mt.rept (Mt.compN kid) (j : Int) (M : Int) code.length names).2 = names2 := by rw [HRE.out]; exact HE2.out
         rw [e2, e3, ← e1, ← Mt.opts_ends, HC2.out, HE3.out]
         rw [List.take_of_length_le (by omega)] at h
         exact h
end Go.Proofs.YtmpbjaodgajnfaaGreatDoor
namespace Go.Proofs.YtmpbjaodgajnfaaGreatDoor
open Go.RowKit
theorem Mt.compA_step {ks : List NT} {n : Nat} (h : n + 1 < ks.length) (b : Nat) (ns : List (List UInt8)) : Mt.compA 0 (ks.drop n) b ns = (⟨1, b + 1, b + 1 + (Mt.compN (ks[n]'(by omega)) (b + 1) ns).1.length + 1, []⟩ :: (Mt.compN (ks[n]'(by omega)) (b + 1) ns).1 ++ ⟨2, 0, 0, []⟩ :: (Mt.compA 0 (ks.drop (n + 1)) (b + 1 + (Mt.compN (ks[n]'(by omega)) (b + 1) ns).1.length + 1) (Mt.compN (ks[n]'(by omega)) (b + 1) ns).2).1, (Mt.compA 0 (ks.drop (n + 1)) (b + 1 + (Mt.compN (ks[n]'(by omega)) (b + 1) ns).1.length + 1) (Mt.compN (ks[n]'(by omega)) (b + 1) ns).2).2) ∧
  Mt.endsA (ks.drop n) b ns = (b + 1 + (Mt.compN (ks[n]'(by omega)) (b + 1) ns).1.length) :: Mt.endsA (ks.drop (n + 1)) (b + 1 + (Mt.compN (ks[n]'(by omega)) (b + 1) ns).1.length + 1) (Mt.compN (ks[n]'(by omega)) (b + 1) ns).2 := by
 rw [List.drop_eq_getElem_cons (show n < ks.length by omega), List.drop_eq_getElem_cons h]
 exact ⟨by rw [Mt.compA_two], Mt.endsA_two ..⟩
theorem Mt.compA_last {ks : List NT} {n : Nat} (h : n + 1 = ks.length) (h' : n < ks.length) (b : Nat) (ns : List (List UInt8)) : Mt.compA 0 (ks.drop n) b ns = Mt.compN ks[n] b ns ∧ Mt.endsA (ks.drop n) b ns = [] ∧ Mt.nstL (ks.drop n) = Mt.nst ks[n] := by
 rw [List.drop_eq_getElem_cons (show n < ks.length by omega), List.drop_eq_nil_of_le (by omega)]
 exact ⟨by rw [Mt.compA], by rw [Mt.endsA], by rw [Mt.nstL, Mt.nstL]; omega⟩
theorem Mt.nstL_step {ks : List NT} {n : Nat} (h : n < ks.length) : Mt.nstL (ks.drop n) = max (Mt.nst ks[n]) (Mt.nstL (ks.drop (n + 1))) := by
 rw [List.drop_eq_getElem_cons h, Mt.nstL]
theorem Mt.nst_le : ∀ (ks : List NT) (n : Nat) (h : n < ks.length), Mt.nst ks[n] ≤ Mt.nstL ks
 | k :: ks, 0, _ => by rw [Mt.nstL]; exact Nat.le_max_left _ _
 | k :: ks, n + 1, h => by
  rw [Mt.nstL]
  exact Nat.le_trans (Mt.nst_le ks n (by simpa using h)) (Nat.le_max_right _ _)
set_option maxHeartbeats 16000000 in
set_option maxRecDepth 1000000 in
theorem mchoice_any (w0 : World) (s : List UInt8) (g : Nat) (ks : List NT) (ih : ∀ i (h : i < ks.length), NodAt w0 s g ks[i]) (N : Nat) (hN : ks.length = N) (a : Option Addr) (c : Nat) (k : Nat) (F : Nat → Prop) (code : List Mt.Ins) (names : List (List UInt8)) (lp : Nat) (W : World) (hv : KAt w0 ks a) (hok : Mt.okL ks) (h2 : 2 ≤ N) (hp : Pre w0 s g F code names lp W)
  (hl : code.length + (Mt.compA 0 ks code.length names).1.length ≤ 100000) (hn : (Mt.compA 0 ks code.length names).2.length ≤ 100000) (hk : k + Mt.nstL ks ≤ 5000) (hNb : N ≤ 9223372036854775807) :
  Calls Tryz.prog 110 #[.pointer (some ⟨g, 0, none⟩), .slice a N c, .int .i64 (k : Int)] W (NodP w0 s g F code lp (Mt.compA (code.length + (Mt.compA 0 ks code.length names).1.length) ks code.length names) (k + Mt.nstL ks) W) := by
 obtain ⟨E, hE⟩ : ∃ E, code.length + (Mt.compA 0 ks code.length names).1.length = E := ⟨_, rfl⟩
 rw [hE] at hl ⊢
 have HIH := Lib.hid ih
 have HNK := Lib.hid hN
 have HK := Lib.hid hv
 have HOK := Lib.hid hok
 have HL := Lib.hid hl
 have HN := Lib.hid hn
 have HKK := Lib.hid hk
 have HEE := Lib.hid hE
 have HBD := Lib.hid hp.ps.bnd
 have HP0 := Lib.hid hp
 have HPs : Hid (Pre w0 s g (Fe F (.slice none 0 0)) code names lp W) := Lib.hid ⟨fun b h => .inl (hp.low b h), hp.bl, hp.ps.weak fun b h => h.elim id (fun e => by cases e)⟩
 clear hv hok ih hN hn hk hE hp
 go_enter Tryz.func110, Tryz.ntmps110
 go_wp2_with fail
 go_loopw [6, 14] (fun u6 i wr => ∃ (n : Nat) (code1 : List Mt.Ins) (names1 : List (List UInt8)) (lp1 : Nat) (eds : List Nat), i = .int .i64 (n : Int) ∧ n < N ∧ eds.length = n ∧ n ≤ code1.length ∧ Hid (code ++ (Mt.compA 0 ks code.length names).1 = code1 ++ (Mt.compA 0 (ks.drop n) code1.length names1).1 ∧ (Mt.compA 0 ks code.length names).2 = (Mt.compA 0 (ks.drop n) code1.length names1).2 ∧ Mt.endsA ks code.length names = eds ++ Mt.endsA (ks.drop n) code1.length names1 ∧ ∀ x ∈ eds, x < code1.length) ∧ Hid (max lp (k + Mt.nstL ks) = max lp1 (k + Mt.nstL (ks.drop n))) ∧ Hid (Pre w0 s g (Fe F u6) code1 names1 lp1 wr) ∧ Hid (EO wr eds u6) ∧ Hid (GoF F F W wr) ∧ Hid (∀ b, u6.ownBlock = some b → W.heap.size ≤ b)) (fun _ i _ => N - (intOf i).toNat)
 case atStart => exact ⟨0, code, names, lp, [], rfl, by omega, rfl, Nat.zero_le _, Lib.hid ⟨rfl, rfl, rfl, by simp⟩, Lib.hid rfl, HPs, Lib.hid OR.nil, Lib.hid (GoF.refl _ _), Lib.hid (by intro b hb; cases hb)⟩
 case round =>
  obtain ⟨n, code1, names1, lp1, eds, rfl, hn, hed, hnc, HE, HLP, HPn, HEO, HGn, HOW⟩ := hrel
  have hnk : n < ks.length := by rw [HNK.out]; exact hn
  obtain ⟨blk, off, op', ra', rn', rc', nm', a', n', c', mn', mx', rfl, hbl, c0, c1, c2, c3, c4, c5, hT⟩ := HK.out n hnk
  have e0 := (HPn.out.bl.cell (p := ⟨blk, off + n * 6, none⟩) hbl).trans c0
  have e1 := (HPn.out.bl.cell (p := ⟨blk, off + n * 6 + 1, none⟩) hbl).trans c1
  have e2 := (HPn.out.bl.cell (p := ⟨blk, off + n * 6 + 2, none⟩) hbl).trans c2
  have e3 := (HPn.out.bl.cell (p := ⟨blk, off + n * 6 + 3, none⟩) hbl).trans c3
  have e4 := (HPn.out.bl.cell (p := ⟨blk, off + n * 6 + 4, none⟩) hbl).trans c4
  have e5 := (HPn.out.bl.cell (p := ⟨blk, off + n * 6 + 5, none⟩) hbl).trans c5
  have hlw : blk < wr.heap.size := Nat.lt_of_lt_of_le hbl HPn.out.bl.size
  have i1 : (n : Int) < (N : Int) := by omega
  obtain ⟨Wb, hWb⟩ : ∃ Wb, wr.alloc (.cells #[.int .i64 op', .slice ra' rn' rc', .string ⟨nm'.toArray⟩, .slice a' n' c', .int .i64 mn', .int .i64 mx'] 33) = Wb := ⟨_, rfl⟩
  have hbb : Below wr.heap.size wr Wb := by rw [← hWb]; exact (Below.refl _ _).alloc (Nat.le_refl _) _
  have hbx : Wb.heap[wr.heap.size]? = some (.cells #[.int .i64 op', .slice ra' rn' rc', .string ⟨nm'.toArray⟩, .slice a' n' c', .int .i64 mn', .int .i64 mx'] 33 (0, 0)) := by rw [← hWb]; exact Deep.blk_alloc_new wr _
  have HPb := Lib.hid (HPn.out.below hbb)
  have HFb : Hid (Fg (Fe F u6) wr Wb wr.heap.size) := Lib.hid (.inr ⟨Nat.le_refl _, heap_lt hbx⟩)
  have HGb : Hid (GoF (Fe F u6) (Fg (Fe F u6) wr Wb) wr Wb) := Lib.hid (GoF.below hbb)
  have HBX := Lib.hid hbx
  have HT := Lib.hid hT
  obtain ⟨q0, q1, q2, q3, q4, q5⟩ := box6 hbx
  clear c0 c1 c2 c3 c4 c5 hT hbb hbx hbl
  generalize Fg (Fe F u6) wr Wb = F1 at HPb HFb HGb
  have hokn : Mt.okN ks[n] := Mt.okL_mem HOK.out n hnk
  by_cases hlast : n + 1 = N
  ·have hz : ((n : Int) == (N : Int) - 1) = true := by rw [beq_iff_eq]; omega
   have he := HE.out
   obtain ⟨t1, t2, t3⟩ := Mt.compA_last (ks := ks) (n := n) (by rw [HNK.out]; exact hlast) hnk code1.length names1
   rw [t1, t2, List.append_nil] at he
   obtain ⟨he1, he2, he3, he4⟩ := he
   have hlp := HLP.out
   rw [t3] at hlp
   have hq := congrArg List.length he1
   simp only [List.length_append] at hq
   have HN2 := Lib.hid (HIH.out n hnk _ k F1 code1 names1 lp1 Wb HT.out hokn HPb.out (by have := HEE.out; omega) (by rw [← he2]; exact HN.out) (by have := HKK.out; have := HNK.out; have h3 : Mt.nst ks[n] ≤ Mt.nstL ks := Mt.nst_le ks n hnk; omega))
   obtain ⟨C2, hC2⟩ : ∃ C2, code1 ++ (Mt.compN ks[n] code1.length names1).1 = C2 := ⟨_, rfl⟩
   rw [hC2] at he1
   have hl2 : C2.length = E := by rw [← he1, List.length_append]; exact HEE.out
   have he4' : ∀ x ∈ eds, x < C2.length := fun x hx => by have := he4 x hx; rw [← hC2, List.length_append]; omega
   obtain ⟨ea, ec, rfl⟩ := HEO.out.sl
   have HE1 := Lib.hid he1
   have HE2 := Lib.hid he2
   have HE3 := Lib.hid he3
   have HE4 := Lib.hid he4'
   have HL2 := Lib.hid hl2
   have HLP2 := Lib.hid hlp
   have HC2 := Lib.hid hC2
   clear he1 he2 he3 he4 he4' hl2 hq hlp t1 t2 t3 hC2
   rw [hed] at HEO HPn HGb HOW
   go_wp2_with fail
   refine HN2.out.mono ?_
   rintro e W3 ⟨rfl, hp3, hg3⟩
   rw [HC2.out] at hp3
   have hgg := (HGb.out.trans hg3).same
   have HG3 : Hid (GoF F F W W3) := Lib.hid (HGn.out.trans (hgg.sub fun b h => .inl h))
   have HP3 := Lib.hid (HPn.out.go hgg (hp3.weak HGb.out.mono))
   have HEO3 := Lib.hid (HEO.out.go fun b hb => hgg.kp.block b (.inr hb) (HEO.out.lt hb))
   have hm : max lp1 (k + Mt.nst ks[n]) = max lp (k + Mt.nstL ks) := HLP2.out.symm
   rw [hm] at HP3
   clear hp3 hg3 hgg hm hz hlast i1
   go_wp2_with fail
   go_loopw [68] (fun i wr2 => ∃ (x : Nat), i = .int .i64 (x : Int) ∧ x ≤ n ∧ Hid (Pre w0 s g (Fe F (.slice ea n ec)) (Mt.setAll (Mt.upX E) C2 (eds.take x)) (Mt.compN ks[n] code1.length names1).2 (max lp (k + Mt.nstL ks)) wr2) ∧ Hid (EO wr2 eds (.slice ea n ec)) ∧ Hid (GoF F F W wr2)) (fun i _ => n - (intOf i).toNat)
   case atStart => exact ⟨0, rfl, by omega, by rw [List.take_zero, Mt.setAll_nil]; exact HP3, HEO3, HG3⟩
   case round =>
    obtain ⟨x, rfl, hx, HPx, HEOx, HGx⟩ := hrel
    by_cases hlt : x < n
    ·obtain ⟨q1, c1, hev, hq1, hcell⟩ := HEOx.out.at (i := x) (by omega)
     injection hev with y1 y2 y3
     subst y1
     clear y2 y3
     obtain ⟨pl, hpl⟩ : ∃ pl, eds[x]'(by omega) = pl := ⟨_, rfl⟩
     rw [hpl] at hcell
     have hlen : (Mt.setAll (Mt.upX E) C2 (eds.take x)).length = E := by rw [Mt.setAll_len, HL2.out]
     have hple : pl < E := by rw [← hpl, ← HL2.out]; exact HE4.out _ (List.getElem_mem _)
     obtain ⟨q, cap, mm, z1, z3, z4, hput⟩ := HPx.out.ps.putK (b := pl) (by rw [hlen]; exact hple) 1 (.inl rfl)
     rw [hlen] at z1
     have HPUT := Lib.hid (hput E (E : Int) rfl)
     have HPL := Lib.hid hpl
     have i1 : (x : Int) < (n : Int) := by omega
     have i2 : (pl : Int) < (E : Int) := by omega
     have i3 : (0 : Int) ≤ (pl : Int) := by omega
     clear hput hpl hlen
     go_wp2_with fail
     go_still_tail 12, (by rfl)
     change wpList _ _ _ _ _ wr.drew
     go_wp2_with fail
     have hfin := HPUT.out
     go_roundw
     case rel =>
      refine ⟨x + 1, by go_num, by omega, Lib.hid (HPx.out.go hfin.2 ?_), Lib.hid (HEOx.out.go fun b hb => hfin.2.kp.block b (.inr hb) (HEOx.out.lt hb)), Lib.hid (HGx.out.trans (hfin.2.sub fun b h => .inl h))⟩
      rw [List.take_succ_eq_append_getElem (by omega), HPL.out, Mt.setAll, List.foldl_append]
      exact hfin.1
     case measure => simp [intOf]; omega
    ·obtain rfl : x = n := by omega
     go_wp2_with fail
     go_end0
     refine ⟨rfl, ?_, HGx.out⟩
     have h := HPx.out.ps.weak (F' := F) fun b hb => .inl hb
     have e3 : (Mt.compA E ks code.length names).2 = (Mt.compN ks[x] code1.length names1).2 := by rw [← HE2.out, Mt.compA_names, Mt.compA_names]
     rw [e3, ← Mt.compA_ends, HE1.out, HE3.out]
     rw [List.take_of_length_le (by omega)] at h
     exact h
  ·have hz : ((n : Int) == (N : Int) - 1) = false := by rw [beq_eq_false_iff_ne]; omega
   have hn1 : n + 1 < ks.length := by rw [HNK.out]; omega
   obtain ⟨b, hb⟩ : ∃ b, code1.length = b := ⟨_, rfl⟩
   have he := HE.out
   obtain ⟨t1, t2⟩ := Mt.compA_step hn1 code1.length names1
   rw [t1, t2] at he
   obtain ⟨he1, he2, he3, he4⟩ := he
   have hlp := HLP.out
   rw [Mt.nstL_step hnk] at hlp
   have hq := congrArg List.length he1
   simp only [List.length_append, List.length_cons] at hq
   rw [hb] at he1 he2 he3 he4 hq
   obtain ⟨kc, hkc⟩ : ∃ kc, (Mt.compN ks[n] (b + 1) names1).1.length = kc := ⟨_, rfl⟩
   have h1 : b + 1 + (Mt.compN ks[n] (b + 1) names1).1.length + 1 ≤ 100000 := by have := HEE.out; omega
   have h2' : (Mt.compN ks[n] (b + 1) names1).2.length ≤ 100000 := by
    have h3 := HN.out
    rw [he2] at h3
    simp only at h3
    rw [Mt.compA_names] at h3
    exact Nat.le_trans (Mt.nsL_le _ _) h3
   have h3 : k + Mt.nst ks[n] ≤ 5000 := by have := HKK.out; have h3 : Mt.nst ks[n] ≤ Mt.nstL ks := Mt.nst_le ks n hnk; omega
   rw [hkc] at h1 he1 he2 he3 hq
   have HBL := Lib.hid hb
   have HE1 := Lib.hid he1
   have HE2 := Lib.hid he2
   have HE3 := Lib.hid he3
   have HE4 := Lib.hid he4
   have HLP2 := Lib.hid hlp
   have HKC := Lib.hid hkc
   clear he1 he2 he3 he4 hq hb hlp t1 t2 hkc
   go_wp2_with fail
   refine (emit0_any 1 0 0 HPb.out.ps (by rw [HBL.out]; omega)).mono ?_
   rintro e W2 ⟨rfl, hp2, hg2⟩
   rw [HBL.out]
   obtain ⟨q, cap, mm, z1, z2, z3, z4, hput⟩ := hp2.putAt b (b + 1) HBL.out (by simp [HBL.out]) 1 (.inl rfl)
   have HP2 := Lib.hid (HPb.out.go hg2 hp2)
   have HG2 := Lib.hid hg2
   have HPUT := Lib.hid (hput (b + 1) ((b : Int) + 1) (by omega))
   have i2 : (b : Int) < (b : Int) + 1 := by omega
   have i3 : (0 : Int) ≤ (b : Int) := by omega
   clear hp2 hg2 hput
   go_wp2_with fail
   obtain ⟨r0, r1, r2, r3, r4, r5⟩ := box6 ((HG2.out.trans HPUT.out.2).blk HFb.out HBX.out)
   go_still_tail 12, (by rfl)
   change wpList _ _ _ _ _ W2.drew
   go_wp2_with fail
   obtain ⟨W3, hW3⟩ : ∃ W3, (W2.setCell ⟨q, b * 4 + 1, none⟩ (.int .i64 ((b : Int) + 1))).drew = W3 := ⟨_, rfl⟩
   rw [hW3]
   have hput := HPUT.out
   rw [hW3] at hput
   obtain ⟨c3, hc3⟩ : ∃ c, code1 ++ [Mt.up 1 (b + 1) ⟨1, 0, 0, []⟩] = c := ⟨_, rfl⟩
   have hl3 : c3.length = b + 1 := by rw [← hc3]; simp [HBL.out]
   have hpp := HP2.out.go hput.2 hput.1
   rw [hc3] at hpp
   have HG3 := Lib.hid (HG2.out.trans hput.2)
   have HN3 := HIH.out n hnk _ k F1 c3 names1 lp1 W3 HT.out hokn hpp (by rw [hl3, HKC.out]; omega) (by rw [hl3]; exact h2') h3
   rw [hl3] at HN3
   have HN3 := Lib.hid HN3
   have HP3 := Lib.hid hpp
   have HC3 := Lib.hid hc3
   have HL3 := Lib.hid hl3
   clear hput hpp hc3 hl3 hW3 z1 z3 z4 HPUT r0 r1 r2 r3 r4 r5
   refine HN3.out.mono ?_
   rintro e W4 ⟨rfl, hp4, hg4⟩
   have HP4 := Lib.hid (HP3.out.go hg4 hp4)
   have HG4 := Lib.hid (HG3.out.trans hg4)
   clear hp4 hg4
   go_wp2_with fail
   have hl4 : (c3 ++ (Mt.compN ks[n] (b + 1) names1).1).length = b + 1 + kc := by rw [List.length_append, HL3.out, HKC.out]
   refine (emit0_any 2 0 0 HP4.out.ps (by rw [hl4]; omega)).mono ?_
   rintro e W5 ⟨rfl, hp5, hg5⟩
   rw [hl4]
   have hg5' := (HGb.out.trans (HG4.out.trans hg5)).same
   have HG5 := Lib.hid hg5'
   have hp5' := hp5.weak HGb.out.mono
   have heo5 : EO W5 eds u6 := HEO.out.go fun b hb => hg5'.kp.block b (.inr hb) (HEO.out.lt hb)
   obtain ⟨ev6, W6, a6, c6, hev6, hrun, heo6, hp6, hg6, how6⟩ := push_step hp5' heo5 (by have := HBL.out; omega) (b + 1 + kc) (fun x hx hf => by have := HOW.out x hx; have := HBD.out x hf; omega)
   rw [hed] at hev6
   subst hev6
   have HG6 : Hid (GoF F F W W6) := Lib.hid ((HGn.out.trans (hg5'.sub fun b h => .inl h)).trans hg6)
   have hcode : c3 ++ (Mt.compN ks[n] (b + 1) names1).1 ++ [(⟨2, 0, 0, []⟩ : Mt.Ins)] = code1 ++ Mt.up 1 (b + 1) ⟨1, 0, 0, []⟩ :: ((Mt.compN ks[n] (b + 1) names1).1 ++ [(⟨2, 0, 0, []⟩ : Mt.Ins)]) := by rw [← HC3.out]; simp
   rw [hcode] at hp6
   obtain ⟨q', cap', mm', z1, z2, z3, z4, hput⟩ := hp6.putAt b (b + 1 + kc + 1) HBL.out (by simp [HBL.out, HKC.out]; omega) 2 (.inr rfl)
   have HPUT := Lib.hid (hput (b + 1 + kc + 1) ((b : Int) + 1 + (kc : Int) + 1) (by omega))
   have HP6 : Hid (Pre w0 s g (Fe F (Value.slice a6 (n + 1) c6)) _ _ _ W6) := Lib.hid ⟨fun b h => .inl (HP0.out.low b h), HP0.out.bl.trans (HG6.out.low HP0.out.low HP0.out.bl.size), hp6⟩
   have HEO6 := Lib.hid heo6
   have HOW6 : Hid (∀ x, (Value.slice a6 (n + 1) c6).ownBlock = some x → W.heap.size ≤ x) := Lib.hid fun x hx => by
    rcases how6 x hx with h | h
    ·exact HOW.out x h
    ·exact Nat.le_trans (HGn.out.trans (hg5'.sub fun b h => .inl h)).kp.size h
   have i4 : (b : Int) < (b : Int) + 1 + (kc : Int) + 1 := by omega
   clear heo5 heo6 hp6 hg6 how6 hp5 hp5' hg5 hg5' hput hcode hl4
   go_wp2_with (at_builtin; refine wpList_append_run rfl _ _ _ rfl _ _ _ rfl rfl hrun ?_)
   go_still_tail 12, (by rfl)
   change wpList _ _ _ _ _ W6.drew
   go_wp2_with fail
   have hfin := HPUT.out
   go_roundw
   case rel =>
    refine ⟨n + 1, code1 ++ Mt.up 2 (b + 1 + kc + 1) (Mt.up 1 (b + 1) ⟨1, 0, 0, []⟩) :: ((Mt.compN ks[n] (b + 1) names1).1 ++ [(⟨2, 0, 0, []⟩ : Mt.Ins)]), (Mt.compN ks[n] (b + 1) names1).2, max lp1 (k + Mt.nst ks[n]), eds ++ [b + 1 + kc], by go_num, by omega, by simp [hed], by have := HBL.out; simp; omega, Lib.hid ?_, Lib.hid ?_, Lib.hid (HP6.out.go hfin.2 hfin.1), Lib.hid (HEO6.out.go fun b hb => hfin.2.kp.block b (.inr hb) (HEO6.out.lt hb)), Lib.hid (HG6.out.trans (hfin.2.sub fun b h => .inl h)), HOW6⟩
    ·have hlen : (code1 ++ Mt.up 2 (b + 1 + kc + 1) (Mt.up 1 (b + 1) ⟨1, 0, 0, []⟩) :: ((Mt.compN ks[n] (b + 1) names1).1 ++ [(⟨2, 0, 0, []⟩ : Mt.Ins)])).length = b + 1 + kc + 1 := by
      simp [HBL.out, HKC.out]
      omega
     rw [hlen]
     refine ⟨?_, HE2.out, ?_, ?_⟩
     ·rw [HE1.out]
      simp [Mt.up, Mt.upX, Mt.upY]
     ·rw [HE3.out]
      simp
     ·intro x hx
      rcases List.mem_append.1 hx with hx | hx
      ·have := HE4.out x hx
       omega
      ·rw [List.mem_singleton] at hx
       omega
    ·have := HLP2.out
     omega
   case measure => simp [intOf]; omega
end Go.Proofs.YtmpbjaodgajnfaaGreatDoor
namespace Go.Proofs.YtmpbjaodgajnfaaGreatDoor
open Go.RowKit
theorem Mt.compL_step {ks : List NT} {n : Nat} (h : n < ks.length) (b : Nat) (ns : List (List UInt8)) : Mt.compL (ks.drop n) b ns = ((Mt.compN ks[n] b ns).1 ++ (Mt.compL (ks.drop (n + 1)) (b + (Mt.compN ks[n] b ns).1.length) (Mt.compN ks[n] b ns).2).1, (Mt.compL (ks.drop (n + 1)) (b + (Mt.compN ks[n] b ns).1.length) (Mt.compN ks[n] b ns).2).2) := by
 rw [List.drop_eq_getElem_cons h, Mt.compL]
theorem Mt.compL_names (ks : List NT) (b : Nat) (ns : List (List UInt8)) : (Mt.compL ks b ns).2 = Mt.nsL ks ns := (Mt.compL_sem [] 0 ks [] b ns).1
theorem PgS.loops {w0 : World} {s : List UInt8} {g : Nat} {F : Nat → Prop} {code : List Mt.Ins} {names : List (List UInt8)} {lp : Nat} {W : World} (h : PgS w0 s g F code names lp W) (lp' : Nat) :
  W.cell? ⟨g, 2, none⟩ = some (.int .i64 (lp : Int)) ∧ W.frozen? ⟨g, 2, none⟩ = false ∧ PgS w0 s g F code names lp' (W.setCell ⟨g, 2, none⟩ (.int .i64 (lp' : Int))) ∧ GoF F F W (W.setCell ⟨g, 2, none⟩ (.int .i64 (lp' : Int))) := by
 obtain ⟨cv, nv, uss, h⟩ := h
 exact ⟨h.c2, h.fz 2, ⟨cv, nv, uss, h.setLp lp'⟩, ⟨Kp.set (F := F) (w := W) (w' := W) ⟨rfl, rfl, rfl, Nat.le_refl _, fun _ _ _ => rfl⟩ g _ _ (fun _ => h.out), fun _ h => h⟩⟩
theorem compA_E_len (E E' : Nat) : ∀ ks b ns, (Mt.compA E ks b ns).1.length = (Mt.compA E' ks b ns).1.length
 | [], _, _ => rfl
 | [k], b, ns => by rw [Mt.compA, Mt.compA]
 | k :: k2 :: ks, b, ns => by
  rw [Mt.compA_two, Mt.compA_two]
  simp only [List.length_append, List.length_cons]
  rw [compA_E_len E E' (k2 :: ks)]
set_option maxHeartbeats 16000000 in
set_option maxRecDepth 1000000 in
theorem node_step (w0 : World) (s : List UInt8) (g : Nat) (SZ : Nat) (IH : ∀ t : NT, SizeOf.sizeOf t < SZ → NodAt w0 s g t) (t : NT) (ht : SizeOf.sizeOf t < SZ + 1) : NodAt w0 s g t := by
 intro v k F code names lp W hv hok hp hl hn hk
 have hv2 := hv
 obtain ⟨op, rs, nm, kids, mn, mx, ra, rc, a, c, rfl, rfl, hrg, hnl, hkk⟩ := hv.open
 clear hv
 have hK : KAt w0 kids a := hkk
 have hik : ∀ i (h : i < kids.length), NodAt w0 s g kids[i] := fun i h => IH _ (by
  have := List.sizeOf_lt_of_mem (List.getElem_mem h)
  simp only [NT.node.sizeOf_spec] at ht
  omega)
 have HIK := Lib.hid hik
 rw [Mt.okN] at hok
 obtain ⟨hok1, hokL, hokR⟩ := hok
 have HOKR := Lib.hid hokR
 have HOK1 := Lib.hid hok1
 have HOKL := Lib.hid hokL
 clear IH ht hkk hik hok1 hokL hokR
 obtain ⟨nk, hnk⟩ : ∃ n, kids.length = n := ⟨_, rfl⟩
 obtain ⟨nr, hnr⟩ : ∃ n, rs.length = n := ⟨_, rfl⟩
 have HNK := Lib.hid hnk
 have HNR := Lib.hid hnr
 rw [hnk, hnr] at hv2 ⊢
 rw [hnr] at hrg
 obtain ⟨Wa, hWa⟩ : ∃ Wa, W.alloc (.cells #[.int .i64 op, .slice ra nr rc, .string ⟨nm.toArray⟩, .slice a nk c, .int .i64 mn, .int .i64 mx] 33) = Wa := ⟨_, rfl⟩
 have hba : Below W.heap.size W Wa := by rw [← hWa]; exact (Below.refl _ _).alloc (Nat.le_refl _) _
 have hbx : Wa.heap[W.heap.size]? = some (.cells #[.int .i64 op, .slice ra nr rc, .string ⟨nm.toArray⟩, .slice a nk c, .int .i64 mn, .int .i64 mx] 33 (0, 0)) := by rw [← hWa]; exact Deep.blk_alloc_new W _
 have hpb := hp.below hba
 obtain ⟨u1, u2, u3, u4⟩ := hpb.ps.loops (max lp k)
 obtain ⟨W1, hW1⟩ : ∃ W1, Wa.setCell ⟨g, 2, none⟩ (.int .i64 ((max lp k : Nat) : Int)) = W1 := ⟨_, rfl⟩
 rw [hW1] at u3 u4
 have HP1 := Lib.hid (hpb.go u4 u3)
 have HFb : Hid (Fg F W Wa W.heap.size) := Lib.hid (.inr ⟨Nat.le_refl _, heap_lt hbx⟩)
 have HG1 : Hid (GoF F (Fg F W Wa) W W1) := Lib.hid ((GoF.below hba).trans u4)
 have HBX := Lib.hid (u4.blk HFb.out hbx)
 have HV := Lib.hid hv2
 have HRG := Lib.hid hrg
 have HKT := Lib.hid hK
 have HLN := Lib.hid hl
 have HNN := Lib.hid hn
 have HKN := Lib.hid hk
 obtain ⟨b0, b1, b2, b3, b4, b5⟩ := box6 HBX.out
 obtain ⟨lp1, hlp1⟩ : ∃ x, max lp k = x := ⟨_, rfl⟩
 have hmx : max (lp : Int) (k : Int) = (lp1 : Int) := by omega
 have hpre := hp
 have HPW := Lib.hid hp
 rw [hlp1] at HP1 hW1
 have HL1 : Hid (lp1 = max lp k) := Lib.hid hlp1.symm
 clear hp hba hbx hv2 hpb u3 u4 hrg hK hl hn hk hpre hlp1
 generalize Fg F W Wa = F1 at HP1 HFb HG1
 unfold NodP
 have hfin : ∀ (code' : List Mt.Ins) (names' : List (List UInt8)) (lp' : Nat) (W' : World), Pre w0 s g F1 code' names' lp' W' → GoF F1 F1 W1 W' → code' = code ++ (Mt.compN (.node op rs nm kids mn mx) code.length names).1 → names' = (Mt.compN (.node op rs nm kids mn mx) code.length names).2 → lp' = max lp (k + Mt.nst (.node op rs nm kids mn mx)) → PgS w0 s g F (code ++ (Mt.compN (.node op rs nm kids mn mx) code.length names).1) (Mt.compN (.node op rs nm kids mn mx) code.length names).2 (max lp (k + Mt.nst (.node op rs nm kids mn mx))) W' ∧ GoF F F W W' := by
  rintro code' names' lp' W' h1 h2 rfl rfl rfl
  exact ⟨h1.ps.weak HG1.out.mono, (HG1.out.trans h2).same⟩
 have HFIN := Lib.hid hfin
 clear hfin
 generalize hC : Mt.compN (.node op rs nm kids mn mx) code.length names = C at HFIN HLN HNN ⊢
 generalize hQ : Mt.nst (.node op rs nm kids mn mx) = Q at HFIN HKN ⊢
 rw [Mt.compN] at hC
 rw [Mt.nst] at hQ
 have HCC := Lib.hid hC
 have HQQ := Lib.hid hQ
 clear hC hQ
 by_cases o1 : op = 1
 ·subst o1
  have hC := HCC.out
  simp only [if_true] at hC
  have hQ := HQQ.out
  simp only [show ¬ ((1 : Int) = 2 ∨ (1 : Int) = 3) by decide, show ¬ (1 : Int) = 5 by decide, show ¬ (1 : Int) = 4 by decide, if_false] at hQ
  have HC := Lib.hid hC
  have HQ := Lib.hid hQ
  have HE := emit_any w0 s g F1 code names lp1 ⟨0, 0, 0, rs⟩ ra rc W1 HP1.out.ps (by
   obtain ⟨g1, g2⟩ := HOKR.out rfl
   rw [HNR.out] at g1 g2
   rw [show (Mt.Ins.mk 0 0 0 rs).rs.length = nr from HNR.out]
   refine ⟨HRG.out, g2, fun e => ?_⟩
   obtain ⟨a', c', e1, _, e3⟩ := HRG.out
   obtain ⟨blk, off, e4, _⟩ := e3 0 (by rw [HNR.out]; exact g1)
   injection e1 with e5
   rw [← e5, e] at e4
   cases e4) (by have := HLN.out; omega)
  rw [show (Mt.Ins.mk 0 0 0 rs).rs.length = nr from HNR.out] at HE
  have HE := Lib.hid HE
  clear hC hQ
  go_enter Tryz.func82, Tryz.ntmps82
  go_wp2_with fail
  refine HE.out.mono ?_
  rintro e W2 ⟨rfl, hp2, hg2⟩
  have HP2 := Lib.hid (HP1.out.go hg2 hp2)
  have HG2 := Lib.hid hg2
  clear hp2 hg2
  go_wp2_with fail
  go_end0
  exact ⟨rfl, HFIN.out _ _ _ _ HP2.out HG2.out (by rw [← HC.out]) (by rw [← HC.out]) (by rw [← HQ.out, HL1.out]; omega)⟩
 by_cases o6 : op = 6
 ·subst o6
  have hC := HCC.out
  simp only [show ¬ (6 : Int) = 1 by decide, show ¬ (6 : Int) = 7 by decide, show ¬ (6 : Int) = 2 by decide, show ¬ (6 : Int) = 3 by decide, show ¬ (6 : Int) = 5 by decide, show ¬ (6 : Int) = 4 by decide, if_false, if_true] at hC
  have hQ := HQQ.out
  rw [if_neg (by decide), if_neg (by decide), if_neg (by decide)] at hQ
  have HC := Lib.hid hC
  have HQ := Lib.hid hQ
  clear hC hQ
  go_enter Tryz.func82, Tryz.ntmps82
  go_wp2_with fail
  refine (emit0_any 5 0 0 HP1.out.ps (by have := HLN.out; omega)).mono ?_
  rintro e W2 ⟨rfl, hp2, hg2⟩
  have HP2 := Lib.hid (HP1.out.go hg2 hp2)
  have HG2 := Lib.hid hg2
  clear hp2 hg2
  go_wp2_with fail
  go_end0
  exact ⟨rfl, HFIN.out _ _ _ _ HP2.out HG2.out (by rw [← HC.out]) (by rw [← HC.out]) (by rw [← HQ.out, HL1.out]; omega)⟩
 by_cases o7 : op = 7
 ·subst o7
  have hC := HCC.out
  simp only [show ¬ (7 : Int) = 1 by decide, show ¬ (7 : Int) = 6 by decide, show ¬ (7 : Int) = 2 by decide, show ¬ (7 : Int) = 3 by decide, show ¬ (7 : Int) = 5 by decide, show ¬ (7 : Int) = 4 by decide, if_false, if_true] at hC
  have hQ := HQQ.out
  rw [if_neg (by decide), if_neg (by decide), if_neg (by decide)] at hQ
  have HC := Lib.hid hC
  have HQ := Lib.hid hQ
  clear hC hQ
  go_enter Tryz.func82, Tryz.ntmps82
  go_wp2_with fail
  refine (emit0_any 6 0 0 HP1.out.ps (by have := HLN.out; omega)).mono ?_
  rintro e W2 ⟨rfl, hp2, hg2⟩
  have HP2 := Lib.hid (HP1.out.go hg2 hp2)
  have HG2 := Lib.hid hg2
  clear hp2 hg2
  go_wp2_with fail
  go_end0
  exact ⟨rfl, HFIN.out _ _ _ _ HP2.out HG2.out (by rw [← HC.out]) (by rw [← HC.out]) (by rw [← HQ.out, HL1.out]; omega)⟩
 by_cases o2 : op = 2
 ·subst o2
  have hC := HCC.out
  simp only [show ¬ (2 : Int) = 1 by decide, show ¬ (2 : Int) = 6 by decide, show ¬ (2 : Int) = 7 by decide, show ¬ (2 : Int) = 3 by decide, show ¬ (2 : Int) = 5 by decide, show ¬ (2 : Int) = 4 by decide, if_false, if_true] at hC
  have hQ := HQQ.out
  simp only [true_or, if_true] at hQ
  have HC := Lib.hid hC
  have HQ := Lib.hid hQ
  clear hC hQ
  go_enter Tryz.func82, Tryz.ntmps82
  go_wp2_with fail
  go_loopw [42] (fun i wr => ∃ (j : Nat) (code1 : List Mt.Ins) (names1 : List (List UInt8)) (lp2 : Nat), i = .int .i64 (j : Int) ∧ j ≤ nk ∧ Hid (code ++ (Mt.compL kids code.length names).1 = code1 ++ (Mt.compL (kids.drop j) code1.length names1).1 ∧ (Mt.compL kids code.length names).2 = (Mt.compL (kids.drop j) code1.length names1).2) ∧ Hid (max lp (k + Mt.nstL kids) = max lp2 (k + Mt.nstL (kids.drop j)) ∧ k ≤ lp2) ∧ Hid (Pre w0 s g F1 code1 names1 lp2 wr) ∧ Hid (GoF F1 F1 W1 wr)) (fun i _ => nk - (intOf i).toNat)
  case atStart => exact ⟨0, code, names, lp1, rfl, by omega, Lib.hid ⟨rfl, rfl⟩, Lib.hid (by have := HL1.out; rw [List.drop_zero]; omega), HP1, Lib.hid (GoF.refl _ _)⟩
  case round =>
   obtain ⟨j, code1, names1, lp2, rfl, hj, HE, HLP, HPj, HGj⟩ := hrel
   by_cases hlt : j < nk
   ·have hjk : j < kids.length := by rw [HNK.out]; exact hlt
    obtain ⟨blk, off, op', ra', rn', rc', nm', a', n', c', mn', mx', rfl, hbl, c0, c1, c2, c3, c4, c5, hT⟩ := HKT.out j hjk
    have e0 := (HPj.out.bl.cell (p := ⟨blk, off + j * 6, none⟩) hbl).trans c0
    have e1 := (HPj.out.bl.cell (p := ⟨blk, off + j * 6 + 1, none⟩) hbl).trans c1
    have e2 := (HPj.out.bl.cell (p := ⟨blk, off + j * 6 + 2, none⟩) hbl).trans c2
    have e3 := (HPj.out.bl.cell (p := ⟨blk, off + j * 6 + 3, none⟩) hbl).trans c3
    have e4 := (HPj.out.bl.cell (p := ⟨blk, off + j * 6 + 4, none⟩) hbl).trans c4
    have e5 := (HPj.out.bl.cell (p := ⟨blk, off + j * 6 + 5, none⟩) hbl).trans c5
    have hlw : blk < wr.heap.size := Nat.lt_of_lt_of_le hbl HPj.out.bl.size
    have i1 : (j : Int) < (nk : Int) := by omega
    obtain ⟨Wb, hWb⟩ : ∃ Wb, wr.alloc (.cells #[.int .i64 op', .slice ra' rn' rc', .string ⟨nm'.toArray⟩, .slice a' n' c', .int .i64 mn', .int .i64 mx'] 33) = Wb := ⟨_, rfl⟩
    have hbb : Below wr.heap.size wr Wb := by rw [← hWb]; exact (Below.refl _ _).alloc (Nat.le_refl _) _
    have hbx2 : Wb.heap[wr.heap.size]? = some (.cells #[.int .i64 op', .slice ra' rn' rc', .string ⟨nm'.toArray⟩, .slice a' n' c', .int .i64 mn', .int .i64 mx'] 33 (0, 0)) := by rw [← hWb]; exact Deep.blk_alloc_new wr _
    have he := HE.out
    rw [Mt.compL_step hjk] at he
    have hlp := HLP.out
    rw [Mt.nstL_step hjk] at hlp
    have hq := congrArg List.length he.1
    simp only [List.length_append] at hq
    have hln := HLN.out
    rw [← HC.out] at hln
    have hnn := HNN.out
    rw [← HC.out, he.2] at hnn
    simp only at hnn
    rw [Mt.compL_names] at hnn
    have hkn := HKN.out
    have hns := Mt.nst_le kids j hjk
    have hqq := HQ.out
    have HN2 := Lib.hid (HIK.out j hjk _ k (Fg F1 wr Wb) code1 names1 lp2 Wb hT (Mt.okL_mem HOKL.out j hjk) (HPj.out.below hbb) (by omega) (Nat.le_trans (Mt.nsL_le _ _) hnn) (by omega))
    have HBB := Lib.hid hbb
    have HE2 := Lib.hid he
    have HLP2 := Lib.hid hlp
    obtain ⟨q0, q1, q2, q3, q4, q5⟩ := box6 hbx2
    clear c0 c1 c2 c3 c4 c5 hT hbb hbx2 he hlp hq hln hnn hkn hns hqq hbl
    go_wp2_with fail
    refine HN2.out.mono ?_
    rintro e W3 ⟨rfl, hp3, hg3⟩
    have HG3 : Hid (GoF F1 F1 wr W3) := Lib.hid ((GoF.below HBB.out).trans hg3).same
    have HP3 := Lib.hid (HPj.out.go HG3.out (hp3.weak fun _ h => .inl h))
    clear hp3 hg3
    go_wp2_with fail
    go_roundw
    case rel => exact ⟨j + 1, _, _, _, by go_num, by omega, Lib.hid ⟨by rw [HE2.out.1, List.append_assoc, List.length_append], by rw [HE2.out.2, List.length_append]⟩, Lib.hid (by have := HLP2.out; omega), HP3, Lib.hid (HGj.out.trans HG3.out)⟩
    case measure => simp [intOf]; omega
   ·have hd : kids.drop j = [] := List.drop_eq_nil_of_le (by rw [HNK.out]; omega)
    have he := HE.out
    have hlp := HLP.out
    rw [hd, Mt.compL, List.append_nil] at he
    rw [hd, Mt.nstL] at hlp
    have HE2 := Lib.hid he
    have HLP2 := Lib.hid hlp
    clear he hlp hd
    go_wp2_with fail
    go_end0
    exact ⟨rfl, HFIN.out _ _ _ _ HPj.out HGj.out (by rw [← HC.out, HE2.out.1]) (by rw [← HC.out, HE2.out.2]) (by have := HLP2.out; rw [← HQ.out]; omega)⟩
 by_cases o3 : op = 3
 ·subst o3
  have hC := HCC.out
  simp only [show ¬ (3 : Int) = 1 by decide, show ¬ (3 : Int) = 6 by decide, show ¬ (3 : Int) = 7 by decide, show ¬ (3 : Int) = 2 by decide, show ¬ (3 : Int) = 5 by decide, show ¬ (3 : Int) = 4 by decide, if_false, if_true] at hC
  have hQ := HQQ.out
  simp only [or_true, if_true] at hQ
  have h2 : 2 ≤ nk := by rw [← HNK.out]; exact HOK1.out.1 rfl
  have hln := HLN.out
  rw [← hC] at hln
  have hnn := HNN.out
  rw [← hC, Mt.compA_names, ← Mt.compA_names 0 kids code.length] at hnn
  have hkn := HKN.out
  rw [← hQ] at hkn
  have HM := Lib.hid (mchoice_any w0 s g kids HIK.out nk HNK.out a c k F1 code names lp1 W1 HKT.out HOKL.out h2 HP1.out (by rw [compA_E_len] at hln; exact hln) hnn hkn (by omega))
  have HC := Lib.hid hC
  have HQ := Lib.hid hQ
  clear hC hQ h2 hln hnn hkn
  go_enter Tryz.func82, Tryz.ntmps82
  go_wp2_with fail
  refine HM.out.mono ?_
  rintro e W2 ⟨rfl, hp2, hg2⟩
  have HP2 := Lib.hid (HP1.out.go hg2 hp2)
  have HG2 := Lib.hid hg2
  clear hp2 hg2
  go_wp2_with fail
  go_end0
  exact ⟨rfl, HFIN.out _ _ _ _ HP2.out HG2.out (by rw [← HC.out]) (by rw [← HC.out]) (by rw [← HQ.out, HL1.out]; omega)⟩
 by_cases o5 : op = 5
 ·subst o5
  have h1 : nk = 1 := by rw [← HNK.out]; exact HOK1.out.2.1 rfl
  subst h1
  obtain ⟨kid, hkid⟩ : ∃ kid, kids = [kid] := by
   have := HNK.out
   match kids, this with
   | [x], _ => exact ⟨x, rfl⟩
  have hC := HCC.out
  simp only [show ¬ (5 : Int) = 1 by decide, show ¬ (5 : Int) = 6 by decide, show ¬ (5 : Int) = 7 by decide, show ¬ (5 : Int) = 2 by decide, show ¬ (5 : Int) = 3 by decide, show ¬ (5 : Int) = 4 by decide, if_false, if_true] at hC
  have hQ := HQQ.out
  simp only [show ¬ ((5 : Int) = 2 ∨ (5 : Int) = 3) by decide, if_false, if_true] at hQ
  have hik := HIK.out 0 (by rw [hkid]; simp)
  obtain ⟨blk, off, op', ra', rn', rc', nm', a', n', c', mn', mx', rfl, hbl, c0, c1, c2, c3, c4, c5, hT⟩ := HKT.out 0 (by rw [hkid]; simp)
  have hokk := Mt.okL_mem HOKL.out 0 (by rw [hkid]; simp)
  have hke : kids[0]'(by rw [hkid]; simp) = kid := by simp [hkid]
  rw [hke] at hik hT hokk
  rw [hkid, Mt.compH] at hC
  rw [hkid, Mt.nstH] at hQ
  simp only [Nat.zero_mul, Nat.add_zero] at c0 c1 c2 c3 c4 c5
  obtain ⟨ci, hci⟩ : ∃ x, Mt.capI names nm = x := ⟨_, rfl⟩
  rw [hci] at hC
  have hln := HLN.out
  rw [← hC] at hln
  simp only [List.length_append, List.length_cons, List.length_nil] at hln
  have hnn := HNN.out
  rw [← hC] at hnn
  simp only at hnn
  have hn1 : names.length ≤ 100000 := by
   rw [Mt.compN_names] at hnn
   exact Nat.le_trans (Nat.le_trans (Mt.capL_le names nm) (Mt.nsN_le kid _)) hnn
  have hkn := HKN.out
  rw [← hQ] at hkn
  have HLK := Lib.hid hln
  have HNK2 := Lib.hid hnn
  have HKK := Lib.hid hkn
  have HOKK := Lib.hid hokk
  have HCI := Lib.hid hci
  have HC := Lib.hid hC
  have HQ := Lib.hid hQ
  have HT := Lib.hid hT
  have HIKK := Lib.hid hik
  clear hC hQ hln hnn hkn hokk hci hT hik hke hkid HKT HIK HOKL HOK1 HNK
  go_enter Tryz.func82, Tryz.ntmps82
  go_wp2_with fail
  refine (capture_any w0 s g F1 code names lp1 nm W1 HP1.out.ps hn1).mono ?_
  rintro e W2 ⟨rfl, hp2, hg2⟩
  rw [HCI.out]
  have HP2 := Lib.hid (HP1.out.go hg2 hp2)
  have HG2 := Lib.hid hg2
  clear hp2 hg2
  go_wp2_with fail
  refine (emit0_any 3 ci 0 HP2.out.ps (by have := HLK.out; omega)).mono ?_
  rintro e W3 ⟨rfl, hp3, hg3⟩
  have HP3 := Lib.hid (HP2.out.go hg3 hp3)
  have HG3 := Lib.hid (HG2.out.trans hg3)
  clear hp3 hg3
  have hlw : blk < W3.heap.size := Nat.lt_of_lt_of_le hbl HP3.out.bl.size
  have e0 := (HP3.out.bl.cell (p := ⟨blk, off, none⟩) hbl).trans c0
  have e1 := (HP3.out.bl.cell (p := ⟨blk, off + 1, none⟩) hbl).trans c1
  have e2 := (HP3.out.bl.cell (p := ⟨blk, off + 2, none⟩) hbl).trans c2
  have e3 := (HP3.out.bl.cell (p := ⟨blk, off + 3, none⟩) hbl).trans c3
  have e4 := (HP3.out.bl.cell (p := ⟨blk, off + 4, none⟩) hbl).trans c4
  have e5 := (HP3.out.bl.cell (p := ⟨blk, off + 5, none⟩) hbl).trans c5
  obtain ⟨d0, d1, d2, d3, d4, d5⟩ := box6 (HG3.out.blk HFb.out HBX.out)
  have hl3 : (code ++ [(⟨3, ci, 0, []⟩ : Mt.Ins)]).length = code.length + 1 := by simp
  have HN := HIKK.out _ k F1 (code ++ [(⟨3, ci, 0, []⟩ : Mt.Ins)]) (Mt.capL names nm) lp1 W3 HT.out HOKK.out HP3.out (by rw [hl3]; have := HLK.out; omega) (by rw [hl3]; exact HNK2.out) HKK.out
  rw [hl3] at HN
  have HN := Lib.hid HN
  have HL3 := Lib.hid hl3
  clear hl3 c0 c1 c2 c3 c4 c5 hbl
  go_wp2_with fail
  refine HN.out.mono ?_
  rintro e W4 ⟨rfl, hp4, hg4⟩
  have HP4 := Lib.hid (HP3.out.go hg4 hp4)
  have HG4 := Lib.hid (HG3.out.trans hg4)
  clear hp4 hg4
  go_wp2_with fail
  refine (emit0_any 4 ci 0 HP4.out.ps (by rw [List.length_append, HL3.out]; have := HLK.out; omega)).mono ?_
  rintro e W5 ⟨rfl, hp5, hg5⟩
  have HP5 := Lib.hid (HP4.out.go hg5 hp5)
  have HG5 := Lib.hid (HG4.out.trans hg5)
  clear hp5 hg5
  go_wp2_with fail
  go_end0
  exact ⟨rfl, HFIN.out _ _ _ _ HP5.out HG5.out (by rw [← HC.out]; simp) (by rw [← HC.out]) (by rw [← HQ.out, HL1.out]; omega)⟩
 by_cases o4 : op = 4
 ·subst o4
  obtain ⟨g1, g2, g3, g4⟩ := HOK1.out.2.2 rfl
  have h1 : nk = 1 := by rw [← HNK.out]; exact g1
  subst h1
  obtain ⟨kid, hkid⟩ : ∃ kid, kids = [kid] := by
   have := HNK.out
   match kids, this with
   | [x], _ => exact ⟨x, rfl⟩
  subst hkid
  have hik := HIK.out 0 (by simp)
  have hokk := Mt.okL_mem HOKL.out 0 (by simp)
  simp only [List.getElem_cons_zero] at hik hokk
  have HR := repeat_any w0 s g kid hik _ rs nm mn mx k F1 code names lp1 W1 HV.out hokk g2 g3 g4 HP1.out
  have hC := HCC.out
  have hQ := HQQ.out
  rw [← Mt.compN] at hC
  rw [← Mt.nst] at hQ
  rw [hC, hQ] at HR
  have HR := Lib.hid (HR HLN.out HNN.out HKN.out (by have := HL1.out; omega))
  clear hC hQ g1 g2 g3 g4 hik hokk
  go_enter Tryz.func82, Tryz.ntmps82
  go_wp2_with fail
  refine HR.out.mono ?_
  rintro e W2 ⟨rfl, hp2, hg2⟩
  have HP2 := Lib.hid (HP1.out.go hg2 hp2)
  have HG2 := Lib.hid hg2
  clear hp2 hg2
  go_wp2_with fail
  go_end0
  exact ⟨rfl, HFIN.out _ _ _ _ HP2.out HG2.out rfl rfl (by rw [HL1.out]; omega)⟩
 ·have hC := HCC.out
  rw [if_neg o1, if_neg o6, if_neg o7, if_neg o2, if_neg o3, if_neg o5, if_neg o4] at hC
  have hQ := HQQ.out
  rw [if_neg (by omega), if_neg o5, if_neg o4] at hQ
  have HC := Lib.hid hC
  have HQ := Lib.hid hQ
  have z1 : (op == 1) = false := by rw [beq_eq_false_iff_ne]; exact o1
  have z2 : (op == 2) = false := by rw [beq_eq_false_iff_ne]; exact o2
  have z3 : (op == 3) = false := by rw [beq_eq_false_iff_ne]; exact o3
  have z4 : (op == 4) = false := by rw [beq_eq_false_iff_ne]; exact o4
  have z5 : (op == 5) = false := by rw [beq_eq_false_iff_ne]; exact o5
  have z6 : (op == 6) = false := by rw [beq_eq_false_iff_ne]; exact o6
  have z7 : (op == 7) = false := by rw [beq_eq_false_iff_ne]; exact o7
  clear hC hQ
  go_enter Tryz.func82, Tryz.ntmps82
  go_wp2_with fail
  go_end0
  exact ⟨rfl, HFIN.out _ _ _ _ HP1.out (GoF.refl _ _) (by rw [← HC.out, List.append_nil]) (by rw [← HC.out]) (by rw [← HQ.out, HL1.out]; omega)⟩
theorem mnode_any (w0 : World) (s : List UInt8) (g : Nat) (t : NT) : NodAt w0 s g t := by
 have h : ∀ N (t : NT), SizeOf.sizeOf t < N → NodAt w0 s g t := by
  intro N
  induction N with
  | zero => intro t h; omega
  | succ N ih => intro t h; exact node_step w0 s g N ih t h
 exact h (SizeOf.sizeOf t + 1) t (by omega)
end Go.Proofs.YtmpbjaodgajnfaaGreatDoor
namespace Go.Proofs.YtmpbjaodgajnfaaGreatDoor
open Go.RowKit
def StrR (x : List UInt8) (us : List Value) : Prop := us = [.string ⟨x.toArray⟩]
structure MaB (t : NT) (en : Bool) (s : List UInt8) (F : Nat → Prop) (g fa : Nat) (w : World) : Prop where
 mb : MB (Mt.progN t en) s (Mt.nst t) F g fa w
 ft : FtB (Mt.progN t en) s (Mt.nst t) F fa w
 nm : ∃ nv, w.cell? ⟨g, 1, none⟩ = some nv ∧ RW F 1 StrR w (Mt.nsN t []) nv
def Fa (fa : Nat) (w : World) (b : Nat) : Prop := b < w.heap.size ∧ b ≠ fa
theorem rw_of_own {α : Type} {W w' : World} {F : Nat → Prop} {e : TypeId} {k : Nat} {R : α → List Value → Prop} {xs : List α} {v : Value} {uss : List (List Value)} (hlen : uss.length = xs.length) (hel : ∀ i (h : i < xs.length) (h' : i < uss.length), uss[i].length = k ∧ R xs[i] uss[i]) (hown : W.ownsRow 0 e k v xs.length uss.flatten) (hsz : xs.length ≤ 1000000)
  (hb : ∀ b, v.ownBlock = some b → w'.heap[b]? = W.heap[b]? ∧ F b) : RW F k R w' xs v := by
 obtain ⟨_, ⟨h1, h2⟩ | ⟨q, cap, cur, h1, _, hg, hnc, hcm, hcs, htk⟩⟩ := hown
 ·exact ⟨none, 0, by rw [h1, h2], ⟨hsz, fun _ => rfl⟩, fun h0 => by omega⟩
 ·subst h1
  obtain ⟨hq, hF⟩ := hb q rfl
  have hg' : w'.heap[q]? = some (.cells cur e (0, 0)) := hq.trans hg
  refine ⟨some ⟨q, 0, none⟩, cap, rfl, ⟨hsz, fun h => by cases h⟩, fun h0 => ⟨q, 0, rfl, heap_lt hg', hF, fun i hi => ⟨uss[i]'(by omega), (hel i hi (by omega)).1, fun j hj => ?_, (hel i hi (by omega)).2⟩⟩⟩
  have e := flat_at k uss (fun u hu => by obtain ⟨j, hj, rfl⟩ := List.getElem_of_mem hu; exact (hel j (by omega) hj).1) i j (by omega) hj
  have hlt : i * k + j < xs.length * k := by
   have : (i + 1) * k ≤ xs.length * k := Nat.mul_le_mul_right _ hi
   rw [Nat.succ_mul] at this
   omega
  rw [← htk, List.getElem?_take_of_lt hlt] at e
  rw [Lib.cell_of_heap hg', Nat.zero_add]
  simpa using e
theorem flat_one (l : List (List UInt8)) : (l.map fun x => Value.string ⟨x.toArray⟩) = (l.map fun x => [Value.string ⟨x.toArray⟩]).flatten := by
 induction l with
 | nil => rfl
 | cons a l ih => simp only [List.map_cons, List.flatten_cons, ih, List.singleton_append]
theorem PgS.mach {w0 : World} {s : List UInt8} {g : Nat} {F : Nat → Prop} {code : List Mt.Ins} {names : List (List UInt8)} {lp : Nat} {W : World} (h : PgS w0 s g F code names lp W) (hlow : ∀ b, b < w0.heap.size → F b) (hbl : Below w0.heap.size w0 W) (hc : code.length ≤ 1000000) (hn : names.length ≤ 1000000) (W' : World)
  (hW' : W' = (W.alloc (.cells ((List.range (lp + 1)).map fun _ => Value.slice none 0 0).toArray 223)).setCell ⟨g, 4, none⟩ (.slice (some ⟨W.heap.size, 0, none⟩) (lp + 1) (lp + 1))) :
  MB code s lp (Fa W.heap.size W') g W.heap.size W' ∧ FtB code s lp (Fa W.heap.size W') W.heap.size W' ∧ (∃ nv, W'.cell? ⟨g, 1, none⟩ = some nv ∧ RW (Fa W.heap.size W') 1 StrR W' names nv) ∧ GoF F (Fa W.heap.size W') W W' := by
 obtain ⟨cv, nv, uss, h⟩ := h
 obtain ⟨Wa, hWa⟩ : ∃ Wa, W.alloc (.cells ((List.range (lp + 1)).map fun _ => Value.slice none 0 0).toArray 223) = Wa := ⟨_, rfl⟩
 rw [hWa] at hW'
 have hsz : Wa.heap.size = W.heap.size + 1 := by rw [← hWa]; exact Deep.nblk_alloc W _
 have hba : Below W.heap.size W Wa := by rw [← hWa]; exact (Below.refl _ _).alloc (Nat.le_refl _) _
 have hnew : Wa.heap[W.heap.size]? = some (.cells ((List.range (lp + 1)).map fun _ => Value.slice none 0 0).toArray 223 (0, 0)) := by rw [← hWa]; exact Deep.blk_alloc_new W _
 have hg : g < W.heap.size := heap_lt h.head
 have hsz' : W'.heap.size = W.heap.size + 1 := by rw [hW', Deep.nblk_setCell, hsz]
 have hoth : ∀ b, b < W.heap.size → b ≠ g → W'.heap[b]? = W.heap[b]? := fun b hb hne => by
  rw [hW', Deep.blk_setCell_other _ _ _ b hne]
  exact hba.block b hb
 have hhead : W'.heap[g]? = some (.cells #[cv, nv, .int .i64 (lp : Int), .string ⟨s.toArray⟩, .slice (some ⟨W.heap.size, 0, none⟩) (lp + 1) (lp + 1)] 148 (0, 0)) := by
  rw [hW']
  exact set_at ((hba.block g hg).trans h.head) 4 _
 have hfa : W'.heap[W.heap.size]? = some (.cells ((List.range (lp + 1)).map fun _ => Value.slice none 0 0).toArray 223 (0, 0)) := by
  rw [hW', Deep.blk_setCell_other _ _ _ _ (fun e => by have : W.heap.size = g := e; omega)]
  exact hnew
 obtain ⟨ca, cc, hcv⟩ := h.c0s
 subst hcv
 have hrow : RW (Fa W.heap.size W') 4 (InR (Fa W.heap.size W') W') W' code (.slice ca code.length cc) := by
  refine rw_of_own h.len (fun i hi hi' => ?_) h.crow hc (fun b hb => ?_)
  ·obtain ⟨ra, rc, e, hr, hr1, hr2⟩ := h.ins i hi hi'
   generalize code[i] = ins at hr hr1 e ⊢
   refine ⟨by rw [e]; rfl, ra, rc, e, ?_⟩
   obtain ⟨a', c', e1, _, e3⟩ := hr
   injection e1 with e4 e5 e6
   subst e4 e6
   refine ⟨ra, rc, rfl, ⟨hr1, hr2⟩, fun h0 => ?_⟩
   obtain ⟨blk, off, e7, hbl0, _, _⟩ := e3 0 h0
   subst e7
   have hblW : blk < W.heap.size := Nat.lt_of_lt_of_le hbl0 hbl.size
   have hbg : blk ≠ g := fun e => h.out (e ▸ hlow blk hbl0)
   have hbk : W'.heap[blk]? = w0.heap[blk]? := (hoth blk hblW hbg).trans (hbl.block blk hbl0)
   refine ⟨blk, off, rfl, by omega, ⟨by omega, by omega⟩, fun m hm => ?_⟩
   obtain ⟨blk', off', e8, _, c0, c1⟩ := e3 m hm
   injection e8 with e8
   injection e8 with e9 e10
   subst e9 e10
   refine ⟨[.int .u8 (ins.rs[m].1.toNat : Int), .int .u8 (ins.rs[m].2.toNat : Int)], rfl, fun j hj => ?_, rfl⟩
   rcases j with _ | _ | j
   ·exact (World.cell?_of_block (w := w0) (w' := W') (a := ⟨blk, off + m * 2, none⟩) hbk).trans c0
   ·exact (World.cell?_of_block (w := w0) (w' := W') (a := ⟨blk, off + m * 2 + 1, none⟩) hbk).trans c1
   ·omega
  ·have hbW := own_lt h.crow hb
   have hc2 := h.cout b hb
   exact ⟨hoth b hbW hc2.2.1, by omega, by omega⟩
 refine ⟨⟨⟨ca, cc, nv, hhead, hrow⟩, ⟨by omega, by omega⟩, by omega⟩, ⟨fun _ => none, hfa, fun hf => hf.2 rfl, fun b hb => hb.1, fun e b vs hr => (by cases hr), fun e e' b vs vs' hr => (by cases hr)⟩, ⟨nv, by rw [Lib.cell_of_heap hhead]; rfl, ?_⟩, ⟨⟨?_, ?_, ?_, by omega, fun b hb hl => hoth b hl (fun e => h.out (e ▸ hb))⟩, fun b hb => ⟨by have := h.bnd b hb; omega, by have := h.bnd b hb; omega⟩⟩⟩
 ·refine rw_of_own (uss := names.map fun x => [Value.string ⟨x.toArray⟩]) (by simp) (fun i hi hi' => ⟨by simp, by simp [StrR]⟩) (by rw [← flat_one]; exact h.nrow) hn (fun b hb => ?_)
  have hbW := own_lt h.nrow hb
  have hn2 := h.nout b hb
  exact ⟨hoth b hbW hn2.2, by omega, by omega⟩
 ·rw [hW', ← hWa]; rfl
 ·rw [hW', ← hWa]; rfl
 ·rw [hW', ← hWa]; rfl
end Go.Proofs.YtmpbjaodgajnfaaGreatDoor
namespace Go.Proofs.YtmpbjaodgajnfaaGreatDoor
open Go.RowKit
theorem pgs_start (w0 : World) (s : List UInt8) (W : World) : PgS w0 s W.heap.size (fun b => b < W.heap.size) [] [] 0 (W.alloc (.cells #[.slice none 0 0, .slice none 0 0, .int .i64 0, .string ⟨s.toArray⟩, .slice none 0 0] 148)) :=
 ⟨.slice none 0 0, .slice none 0 0, [], {
  head := Deep.blk_alloc_new W _
  len := rfl
  ins := fun k hk => by simp at hk
  crow := World.ownsRow_nil _ _ _ _
  nrow := World.ownsRow_nil _ _ _ _
  cout := fun k hk => by cases hk
  nout := fun k hk => by cases hk
  out := fun h => Nat.lt_irrefl _ h
  bnd := fun b hb => by rw [Deep.nblk_alloc]; exact Nat.lt_succ_of_lt hb }⟩
theorem PgS.drew {w0 : World} {s : List UInt8} {g : Nat} {F : Nat → Prop} {code : List Mt.Ins} {names : List (List UInt8)} {lp : Nat} {W : World} (h : PgS w0 s g F code names lp W) : PgS w0 s g F code names lp W.drew := h.keep (W' := W.drew) (fun _ _ _ => rfl) (fun b hb => ⟨h.bnd b hb, fun _ => hb⟩)
theorem PgS.c4 {w0 : World} {s : List UInt8} {g : Nat} {F : Nat → Prop} {code : List Mt.Ins} {names : List (List UInt8)} {lp : Nat} {W : World} (h : PgS w0 s g F code names lp W) : W.cell? ⟨g, 4, none⟩ = some (.slice none 0 0) ∧ W.frozen? ⟨g, 4, none⟩ = false := by
 obtain ⟨cv, nv, uss, h⟩ := h
 exact ⟨by rw [Lib.cell_of_heap h.head]; rfl, h.fz 4⟩
theorem made_nil (n : Nat) : madeCells #[Value.slice none 0 0] n = ((List.range n).map fun _ => Value.slice none 0 0).toArray := by
 unfold madeCells
 apply Array.ext_getElem?
 intro i
 by_cases h : i < n <;> simp [h, Nat.mod_one]
theorem Mt.progN_len {t : NT} (hok : Mt.okN t) (hc : Mt.costN t ≤ 4000) (en : Bool) : (Mt.progN t en).length ≤ 8002 := by
 have := Mt.compN_le t hok hc 0 []
 unfold Mt.progN
 cases en <;> simp <;> omega
theorem Mt.nsN_16 {t : NT} (h : ckE t = 0) : (Mt.nsN t []).length ≤ 16 := Nat.le_trans (Mt.nsN_len t) (Mt.ckE_zero h).2.2
def CompP (t : NT) (en : Bool) (s : List UInt8) (w : World) (e : Ending) (w' : World) : Prop := ∃ g fa, e = .returned (.tuple #[.pointer (some ⟨g, 0, none⟩), .bool true]) ∧ Below w.heap.size w w' ∧ w.heap.size ≤ g ∧ w.heap.size ≤ fa ∧ MaB t en s (Fa fa w') g fa w'
set_option maxRecDepth 1000000 in
set_option maxHeartbeats 8000000 in
theorem compile_any (t : NT) (v : Value) (s : List UInt8) (en : Bool) (w : World) (h : NAt w t v) (hk : Kinds w) (hs : s.length ≤ 20000) (hck : ckE t = 0) (hco : Mt.costN t ≤ 4000) :
  Calls Tryz.prog 56 #[v, .string ⟨s.toArray⟩, .bool en] w (CompP t en s w) := by
 have hN := h
 obtain ⟨op, rs, nm, kids, mn, mx, ra, rc, a, c, e0, rfl, _⟩ := h.open
 clear e0
 obtain ⟨nk, hnk⟩ : ∃ n, kids.length = n := ⟨_, rfl⟩
 obtain ⟨nr, hnr⟩ : ∃ n, rs.length = n := ⟨_, rfl⟩
 rw [hnk, hnr] at hN ⊢
 obtain ⟨Wa, hWa⟩ : ∃ Wa, w.alloc (.cells #[.int .i64 op, .slice ra nr rc, .string ⟨nm.toArray⟩, .slice a nk c, .int .i64 mn, .int .i64 mx] 33) = Wa := ⟨_, rfl⟩
 have hb : Below w.heap.size w Wa := by rw [← hWa]; exact (Below.refl _ _).alloc (Nat.le_refl _) _
 have hbx : Wa.heap[w.heap.size]? = some (.cells #[.int .i64 op, .slice ra nr rc, .string ⟨nm.toArray⟩, .slice a nk c, .int .i64 mn, .int .i64 mx] 33 (0, 0)) := by rw [← hWa]; exact Deep.blk_alloc_new w _
 have hca := check_any t _ Wa (NAt.later hb _ _ hN) (hk.below hb)
 rw [hck] at hca
 have HCA := Lib.hid hca
 have HB := Lib.hid hb
 have HX := Lib.hid hbx
 have HN := Lib.hid hN
 have HK := Lib.hid hk
 have HCK := Lib.hid hck
 have HCO := Lib.hid hco
 obtain ⟨b0, b1, b2, b3, b4, b5⟩ := box6 hbx
 have z1 : decide ((20000 : Int) < (s.length : Int)) = false := decide_eq_false (by omega)
 obtain ⟨K, hKK⟩ : ∃ K, Mt.costN t = K := ⟨_, rfl⟩
 have HKK := Lib.hid hKK
 have z2 : decide ((4000 : Int) < (K : Int)) = false := decide_eq_false (by omega)
 clear hk hb hbx hN h hnk hnr hca hck hco hKK
 go_enter Tryz.func56, Tryz.ntmps56
 go_wp2_with fail
 refine HCA.out.mono ?_
 rintro e w2 ⟨rfl, hb2⟩
 have HB2 := Lib.hid (HB.out.trans (hb2.mono HB.out.size))
 have hx2 := (hb2.block _ (heap_lt HX.out)).trans HX.out
 have HX2 := Lib.hid hx2
 obtain ⟨d0, d1, d2, d3, d4, d5⟩ := box6 hx2
 have hct := Cost_any t _ w2 (NAt.later HB2.out _ _ HN.out) (HK.out.below HB2.out)
 rw [if_pos HCK.out, HKK.out] at hct
 have HCT := Lib.hid hct
 clear hb2 hx2 hct
 go_wp2_with fail
 refine HCT.out.mono ?_
 rintro e w3 ⟨rfl, hb3⟩
 have HB3 := Lib.hid (HB2.out.trans (hb3.mono HB2.out.size))
 have hx3 := (hb3.block _ (heap_lt HX2.out)).trans HX2.out
 obtain ⟨Wc, hWc⟩ : ∃ Wc, w3.alloc (.cells #[.slice none 0 0, .slice none 0 0, .int .i64 0, .string ⟨s.toArray⟩, .slice none 0 0] 148) = Wc := ⟨_, rfl⟩
 have hps := pgs_start w s w3
 rw [hWc] at hps
 have hbc : Below w3.heap.size w3 Wc := by rw [← hWc]; exact (Below.refl _ _).alloc (Nat.le_refl _) _
 have HBC := Lib.hid (HB3.out.trans (hbc.mono HB3.out.size))
 have hlow : ∀ b, b < w.heap.size → b < w3.heap.size := fun b hb => Nat.lt_of_lt_of_le hb HB3.out.size
 have HPC : Hid (Pre w s w3.heap.size (fun b => b < w3.heap.size) [] [] 0 Wc) := Lib.hid ⟨hlow, HBC.out, hps⟩
 have hxc := (hbc.block _ (heap_lt hx3)).trans hx3
 obtain ⟨g0, g1, g2, g3, g4, g5⟩ := box6 hxc
 have HLOW := Lib.hid hlow
 clear hb3 hx3 hps hbc hlow hxc
 have HPD : Hid (Pre w s w3.heap.size (fun b => b < w3.heap.size) [] [] 0 Wc.drew) := Lib.hid (HPC.out.go (GoF.drew _ _) HPC.out.ps.drew)
 have hnst := Mt.nst_cost t (Mt.okC_okN t (Mt.ckE_okC HCK.out)) HCO.out
 have hcl := Mt.compN_le t (Mt.okC_okN t (Mt.ckE_okC HCK.out)) HCO.out 0 []
 have hnl := Mt.nsN_16 HCK.out
 have HND := mnode_any w s w3.heap.size t _ 0 (fun b => b < w3.heap.size) [] [] 0 Wc.drew HN.out (Mt.okC_okN t (Mt.ckE_okC HCK.out)) HPD.out (by simp only [List.length_nil]; have := HCO.out; omega) (by rw [Mt.compN_names]; omega) (by have := HCO.out; omega)
 simp only [List.length_nil] at HND
 have HND := Lib.hid HND
 have HNL := Lib.hid hnl
 have HCL := Lib.hid hcl
 have HNS := Lib.hid hnst
 clear hnst hcl hnl
 go_wp2_with fail
 go_still_tail 4, (by rfl)
 change wpList _ _ _ _ _ Wc.drew
 go_wp2_with fail
 refine HND.out.mono ?_
 rintro e w4 ⟨rfl, hp4, hg4⟩
 have HP4 := Lib.hid (HPD.out.go hg4 hp4)
 have hmx : max 0 (0 + Mt.nst t) = Mt.nst t := by omega
 rw [hmx] at HP4
 have HG4 : Hid (GoF (fun b => b < w3.heap.size) (fun b => b < w3.heap.size) Wc w4) := Lib.hid ((GoF.drew _ _).trans hg4)
 clear hp4 hg4 hmx
 cases en with
 | false =>
  go_wp2_with fail
  refine (emit0_any 9 0 0 HP4.out.ps (by simp; have := HCL.out; have := HCO.out; omega)).mono ?_
  rintro e w5 ⟨rfl, hp5, hg5⟩
  have HP5 := Lib.hid (HP4.out.go hg5 hp5)
  have HG5 := Lib.hid (HG4.out.trans hg5)
  have hprog : Mt.progN t false = [] ++ (Mt.compN t 0 []).1 ++ [(⟨9, 0, 0, []⟩ : Mt.Ins)] := by
   unfold Mt.progN
   simp
  rw [← hprog] at HP5
  have HCD := Lib.hid (Mt.progN_len (Mt.okC_okN t (Mt.ckE_okC HCK.out)) HCO.out false)
  have hL4 : Mt.nst t ≤ 4000 := Nat.le_trans HNS.out HCO.out
  clear hp5 hg5 hprog
  obtain ⟨L, hL⟩ : ∃ L, Mt.nst t = L := ⟨_, rfl⟩
  have HL := Lib.hid hL
  rw [hL] at HP5 hL4
  clear hL
  obtain ⟨u1, u2, _, _⟩ := HP5.out.ps.loops 0
  obtain ⟨h4, z4⟩ := HP5.out.ps.c4
  obtain ⟨Wd, hWd⟩ : ∃ Wd, w5.alloc (.cells (madeCells #[Value.slice none 0 0] (L + 1)) 223) = Wd := ⟨_, rfl⟩
  have hmk : (Instr.makeSlice 146 (.int .i64 ((L : Int) + 1)) (.int .i64 ((L : Int) + 1))).run Tryz.prog w5 = .ok (.slice (some ⟨w5.heap.size, 0, none⟩) (L + 1) (L + 1)) Wd := by
   rw [show ((L : Int) + 1) = ((L + 1 : Nat) : Int) by push_cast; rfl, ← hWd]
   exact run_make_row' (P := Tryz.prog) 146 223 (.slice none 0 0) 24 Tryz.underlying146 (by kernel_rfl) rfl .i64 .i64 (L + 1) (by omega) (by omega) w5
  have hgl := HP5.out.ps.glt.1
  have hdb : Wd.heap[w3.heap.size]? = w5.heap[w3.heap.size]? := by
   rw [← hWd]
   exact ((Below.refl w5.heap.size w5).alloc (Nat.le_refl _) _).block _ hgl
  have h4' := (World.cell?_of_block (w := w5) (w' := Wd) (a := ⟨w3.heap.size, 4, none⟩) hdb).trans h4
  have z4' := (World.frozen?_of_block (w := w5) (w' := Wd) (a := ⟨w3.heap.size, 4, none⟩) hdb).trans z4
  have u1' := (World.cell?_of_block (w := w5) (w' := Wd) (a := ⟨w3.heap.size, 2, none⟩) hdb).trans u1
  have hm := HP5.out.ps.mach (fun b hb => HLOW.out b hb) HP5.out.bl (by have := HCD.out; omega) (by rw [Mt.compN_names]; have := HNL.out; omega) _ rfl
  rw [show (((List.range (L + 1)).map fun _ => Value.slice none 0 0).toArray) = madeCells #[Value.slice none 0 0] (L + 1) from (made_nil _).symm, hWd] at hm
  have HM := Lib.hid hm
  have HWD := Lib.hid hWd
  clear hm hWd hdb hgl
  go_wp2_with fail
  go_ret2
  obtain ⟨m1, m2, m3, m4⟩ := HM.out
  rw [Mt.compN_names] at m3
  exact ⟨_, _, rfl, HBC.out.trans ((HG5.out.trans m4).low (fun b hb => HLOW.out b hb) HBC.out.size), HB3.out.size, Nat.le_trans HBC.out.size HG5.out.kp.size, ⟨by rw [HL.out]; exact m1, by rw [HL.out]; exact m2, m3⟩⟩
 | true =>
  go_wp2_with fail
  refine (emit0_any 6 0 0 HP4.out.ps (by simp; have := HCL.out; have := HCO.out; omega)).mono ?_
  rintro e w4' ⟨rfl, hp4, hg4⟩
  have HP4 := Lib.hid (HP4.out.go hg4 hp4)
  have HG4 := Lib.hid (HG4.out.trans hg4)
  clear hp4 hg4
  go_wp2_with fail
  refine (emit0_any 9 0 0 HP4.out.ps (by simp; have := HCL.out; have := HCO.out; omega)).mono ?_
  rintro e w5 ⟨rfl, hp5, hg5⟩
  have HP5 := Lib.hid (HP4.out.go hg5 hp5)
  have HG5 := Lib.hid (HG4.out.trans hg5)
  have hprog : Mt.progN t true = [] ++ (Mt.compN t 0 []).1 ++ [(⟨6, 0, 0, []⟩ : Mt.Ins)] ++ [(⟨9, 0, 0, []⟩ : Mt.Ins)] := by
   unfold Mt.progN
   simp
  rw [← hprog] at HP5
  have HCD := Lib.hid (Mt.progN_len (Mt.okC_okN t (Mt.ckE_okC HCK.out)) HCO.out true)
  have hL4 : Mt.nst t ≤ 4000 := Nat.le_trans HNS.out HCO.out
  clear hp5 hg5 hprog
  obtain ⟨L, hL⟩ : ∃ L, Mt.nst t = L := ⟨_, rfl⟩
  have HL := Lib.hid hL
  rw [hL] at HP5 hL4
  clear hL
  obtain ⟨u1, u2, _, _⟩ := HP5.out.ps.loops 0
  obtain ⟨h4, z4⟩ := HP5.out.ps.c4
  obtain ⟨Wd, hWd⟩ : ∃ Wd, w5.alloc (.cells (madeCells #[Value.slice none 0 0] (L + 1)) 223) = Wd := ⟨_, rfl⟩
  have hmk : (Instr.makeSlice 146 (.int .i64 ((L : Int) + 1)) (.int .i64 ((L : Int) + 1))).run Tryz.prog w5 = .ok (.slice (some ⟨w5.heap.size, 0, none⟩) (L + 1) (L + 1)) Wd := by
   rw [show ((L : Int) + 1) = ((L + 1 : Nat) : Int) by push_cast; rfl, ← hWd]
   exact run_make_row' (P := Tryz.prog) 146 223 (.slice none 0 0) 24 Tryz.underlying146 (by kernel_rfl) rfl .i64 .i64 (L + 1) (by omega) (by omega) w5
  have hgl := HP5.out.ps.glt.1
  have hdb : Wd.heap[w3.heap.size]? = w5.heap[w3.heap.size]? := by
   rw [← hWd]
   exact ((Below.refl w5.heap.size w5).alloc (Nat.le_refl _) _).block _ hgl
  have h4' := (World.cell?_of_block (w := w5) (w' := Wd) (a := ⟨w3.heap.size, 4, none⟩) hdb).trans h4
  have z4' := (World.frozen?_of_block (w := w5) (w' := Wd) (a := ⟨w3.heap.size, 4, none⟩) hdb).trans z4
  have u1' := (World.cell?_of_block (w := w5) (w' := Wd) (a := ⟨w3.heap.size, 2, none⟩) hdb).trans u1
  have hm := HP5.out.ps.mach (fun b hb => HLOW.out b hb) HP5.out.bl (by have := HCD.out; omega) (by rw [Mt.compN_names]; have := HNL.out; omega) _ rfl
  rw [show (((List.range (L + 1)).map fun _ => Value.slice none 0 0).toArray) = madeCells #[Value.slice none 0 0] (L + 1) from (made_nil _).symm, hWd] at hm
  have HM := Lib.hid hm
  have HWD := Lib.hid hWd
  clear hm hWd hdb hgl
  go_wp2_with fail
  go_ret2
  obtain ⟨m1, m2, m3, m4⟩ := HM.out
  rw [Mt.compN_names] at m3
  exact ⟨_, _, rfl, HBC.out.trans ((HG5.out.trans m4).low (fun b hb => HLOW.out b hb) HBC.out.size), HB3.out.size, Nat.le_trans HBC.out.size HG5.out.kp.size, ⟨by rw [HL.out]; exact m1, by rw [HL.out]; exact m2, m3⟩⟩
end Go.Proofs.YtmpbjaodgajnfaaGreatDoor

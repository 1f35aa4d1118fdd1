/-
  Joined: PatZa, PtF, Laid, LaidPat, Stay, OpenB, OpenN, PtG, FormatsP.
-/
import Derived.Test.YtphbkompnddflaaGreatDoorPatYh
import Derived.Test.YtphbkompnddflaaGreatDoorRfB
import Derived.Test.YtphbkompnddflaaGreatDoorPatT
import Derived.Test.YtphbkompnddflaaGreatDoorCards
import Derived.Test.YtphbkompnddflaaGreatDoorTie
import Derived.WalkKit
import Derived.ProofKit
import Derived.OpenShut
import Derived.Deep.DeepHandedRow
import Derived.Lib.LaidTab
import Derived.Stop.LaidErr
import Derived.Test.YtphbkompnddflaaGreatDoorKinds
import Derived.Lib.QuietBelow
import Derived.Lib.AppendIntMem
import Derived.ChangeStays
import Derived.ChangeBears
import Derived.Below
import Derived.Test.YtphbkompnddflaaGreatDoorMem
import Derived.ChangeSlices
import Derived.Test.YtphbkompnddflaaGreatDoorPatA
import Derived.ChangeArms
/-
  The sanity check of chapter 2.
-/
namespace Go.Proofs.YtphbkompnddflaaGreatDoor
open Go.RowKit

/-- The first kid of a node, in memory. -/
theorem kid0 {F : Nat → Prop} {w : World} {kids : List NT} {a : Option Addr} {n c : Nat} (h : RW F 6 (KR F w) w kids (.slice a n c)) {op : Int} {rs : List (UInt8 × UInt8)} {nm : List UInt8} {ks : List NT} {mn mx : Int} {rest : List NT} (hk : kids = .node op rs nm ks mn mx :: rest) :
    ∃ blk off, a = some ⟨blk, off, none⟩ ∧ blk < w.heap.size ∧ w.cell? ⟨blk, off + 2, none⟩ = some (.string ⟨nm.toArray⟩) := by
  subst hk
  obtain ⟨a', c', e, _, hk⟩ := h
  obtain ⟨blk, off, rfl, hl, _, hc⟩ := hk (by simp)
  obtain ⟨us, hu, hcell, hr⟩ := hc 0 (by simp)
  obtain ⟨op', rs', nm', ks', mn', mx', ra, rc, aa, cc, ht, hv, _⟩ := NG.open hr
  injection ht with e1 e2 e3
  injection e with e4
  refine ⟨blk, off, e4, hl, ?_⟩
  have h2 := hcell 2 (by omega)
  have hus : us = [.int .i64 op', .slice ra rs'.length rc, .string ⟨nm'.toArray⟩, .slice aa ks'.length cc, .int .i64 mn', .int .i64 mx'] := by
    injection hv with hv
    have := congrArg Array.toList hv
    simpa using this
  rw [hus] at h2
  rw [e3]
  simpa using h2

set_option maxHeartbeats 2000000 in
set_option maxRecDepth 1000000 in
theorem aw_any (w : World) (hk : Kinds w) : Calls Tryz.prog 4 #[] w fun e w' => e = .returned (.bool true) ∧ Below w.heap.size w w' := by
  have HA := Lib.hid (awake_any w hk)
  clear hk
  go_enter Tryz.func4, Tryz.ntmps4
  go_wp2_with fail
  refine HA.out.mono ?_
  rintro e w2 ⟨v, rfl, hT, hb⟩
  have HB := Lib.hid hb
  obtain ⟨op, rs, nm, kids, mn, mx, ra, rc, a, cc, ht, rfl, _, _, hkr⟩ := hT.open
  unfold awT at ht
  injection ht with e1 e2 e3 e4 e5 e6
  subst e1 e2 e3 e5 e6
  obtain ⟨blk, off, rfl, hl, hc⟩ := kid0 hkr e4.symm
  have hkl : kids.length = 3 := by rw [← e4]; rfl
  rw [hkl]
  have HB2 := Lib.hid (hb.trans ((al_below w2 (.cells #[.int .i64 2, .slice ra 0 rc, .string ⟨#[]⟩, .slice (some ⟨blk, off, none⟩) 3 cc, .int .i64 0, .int .i64 0] 25)).mono hb.size))
  have hc2 : (w2.alloc (.cells #[.int .i64 2, .slice ra 0 rc, .string ⟨#[]⟩, .slice (some ⟨blk, off, none⟩) 3 cc, .int .i64 0, .int .i64 0] 25)).cell? ⟨blk, off + 2, none⟩ = some (.string ⟨#[110]⟩) := ((al_below w2 _).cell (p := ⟨blk, off + 2, none⟩) hl).trans hc
  clear hT hkr e4 hkl hc hb hl
  go_wp2_with fail
  go_ret
  exact ⟨rfl, HB2.out⟩
end Go.Proofs.YtphbkompnddflaaGreatDoor
/-
  PatternFormats: for every node and every list of choices the law's answer is yes.
-/
namespace Go.Proofs.YtphbkompnddflaaGreatDoor
open Go.RowKit Go.Sort

theorem nSzs_cnt (N : Nat) (h : ∀ t : NT, SizeOf.sizeOf t < N → nSz t ≤ cntN t) : ∀ ks : List NT, (∀ k ∈ ks, SizeOf.sizeOf k < N) → ∀ n, nSzs n ks ≤ n + cnts ks := by
  intro ks
  induction ks with
  | nil => intro _ n; rw [nSzs, cnts]; omega
  | cons k ks ih =>
    intro hk n
    rw [nSzs, cnts]
    have h1 := h k (hk k (by simp))
    have h2 := ih (fun x hx => hk x (List.mem_cons_of_mem _ hx)) (n + nSz k)
    split <;> omega
theorem nSz_cnt (N : Nat) : ∀ t : NT, SizeOf.sizeOf t < N → nSz t ≤ cntN t := by
  induction N with
  | zero => intro t h; omega
  | succ N ih =>
    intro t h
    obtain ⟨op, rs, nm, kids, mn, mx⟩ := t
    have := nSzs_cnt N ih kids (fun k hk => by have := List.sizeOf_lt_of_mem hk; simp at h; omega) 1
    rw [nSz, cntN]
    omega
theorem ck_big {t : NT} (h : 400 < nSz t) : ckE t ≠ 0 := fun h0 => by
  have h1 := (ckE_good h0).2
  have h2 := nSz_cnt _ t (Nat.lt_succ_self _)
  omega
/-- The k-th node of the list. -/
def EL (q k : Nat) (W : World) : Prop := ∃ (t : NT) (op : Int) (rs : List (UInt8 × UInt8)) (nm : List UInt8) (ks : List NT) (mn mx : Int) (ra : Option Addr) (rc : Nat) (a : Option Addr) (c : Nat),
  (W.cell? ⟨q, k * 6, none⟩ = some (.int .i64 op) ∧ W.cell? ⟨q, k * 6 + 1, none⟩ = some (.slice ra rs.length rc) ∧ W.cell? ⟨q, k * 6 + 2, none⟩ = some (.string ⟨nm.toArray⟩) ∧ W.cell? ⟨q, k * 6 + 3, none⟩ = some (.slice a ks.length c) ∧ W.cell? ⟨q, k * 6 + 4, none⟩ = some (.int .i64 mn) ∧ W.cell? ⟨q, k * 6 + 5, none⟩ = some (.int .i64 mx)) ∧
  NAt W t (.agg #[.int .i64 op, .slice ra rs.length rc, .string ⟨nm.toArray⟩, .slice a ks.length c, .int .i64 mn, .int .i64 mx])
theorem EL.on {q k : Nat} {W W' : World} (h : EL q k W) (hb : Below W.heap.size W W') (hq : q < W.heap.size) : EL q k W' := by
  obtain ⟨t, op, rs, nm, ks, mn, mx, ra, rc, a, c, ⟨h0, h1, h2, h3, h4, h5⟩, hn⟩ := h
  have hc : ∀ i, W'.cell? ⟨q, i, none⟩ = W.cell? ⟨q, i, none⟩ := fun i => hb.cell (p := ⟨q, i, none⟩) hq
  exact ⟨t, op, rs, nm, ks, mn, mx, ra, rc, a, c, ⟨(hc _).trans h0, (hc _).trans h1, (hc _).trans h2, (hc _).trans h3, (hc _).trans h4, (hc _).trans h5⟩, NAt.later hb _ _ hn⟩
theorem el_row {q : Nat} {W : World} {us0 us1 us2 us3 : List Value} {ty : TypeId} (hr : W.heap[q]? = some (.cells (us0 ++ (us1 ++ (us2 ++ us3))).toArray ty (0, 0)))
    (h : ∀ us, us = us0 ∨ us = us1 ∨ us = us2 ∨ us = us3 → ∃ (t : NT) (op : Int) (rs : List (UInt8 × UInt8)) (nm : List UInt8) (ks : List NT) (mn mx : Int) (ra : Option Addr) (rc : Nat) (a : Option Addr) (c : Nat), us = [.int .i64 op, .slice ra rs.length rc, .string ⟨nm.toArray⟩, .slice a ks.length c, .int .i64 mn, .int .i64 mx] ∧ NAt W t (.agg us.toArray)) : ∀ k, k < 4 → EL q k W := by
  have hc : ∀ i, W.cell? ⟨q, i, none⟩ = (us0 ++ (us1 ++ (us2 ++ us3)))[i]? := fun i => by rw [cell_of_row _ _ _ _ _ _ hr]; simp
  obtain ⟨t0, op0, rs0, nm0, ks0, mn0, mx0, ra0, rc0, a0, c0, rfl, n0⟩ := h us0 (by simp)
  obtain ⟨t1, op1, rs1, nm1, ks1, mn1, mx1, ra1, rc1, a1, c1, rfl, n1⟩ := h us1 (by simp)
  obtain ⟨t2, op2, rs2, nm2, ks2, mn2, mx2, ra2, rc2, a2, c2, rfl, n2⟩ := h us2 (by simp)
  obtain ⟨t3, op3, rs3, nm3, ks3, mn3, mx3, ra3, rc3, a3, c3, rfl, n3⟩ := h us3 (by simp)
  intro k hk
  match k, hk with
  | 0, _ => exact ⟨t0, op0, rs0, nm0, ks0, mn0, mx0, ra0, rc0, a0, c0, ⟨(hc _).trans rfl, (hc _).trans rfl, (hc _).trans rfl, (hc _).trans rfl, (hc _).trans rfl, (hc _).trans rfl⟩, n0⟩
  | 1, _ => exact ⟨t1, op1, rs1, nm1, ks1, mn1, mx1, ra1, rc1, a1, c1, ⟨(hc _).trans rfl, (hc _).trans rfl, (hc _).trans rfl, (hc _).trans rfl, (hc _).trans rfl, (hc _).trans rfl⟩, n1⟩
  | 2, _ => exact ⟨t2, op2, rs2, nm2, ks2, mn2, mx2, ra2, rc2, a2, c2, ⟨(hc _).trans rfl, (hc _).trans rfl, (hc _).trans rfl, (hc _).trans rfl, (hc _).trans rfl, (hc _).trans rfl⟩, n2⟩
  | 3, _ => exact ⟨t3, op3, rs3, nm3, ks3, mn3, mx3, ra3, rc3, a3, c3, ⟨(hc _).trans rfl, (hc _).trans rfl, (hc _).trans rfl, (hc _).trans rfl, (hc _).trans rfl, (hc _).trans rfl⟩, n3⟩


theorem ap_st {g : Nat} {W W' : World} (h : Apart g W W') : Stay (fun k => k ≠ g) (fun k => k ≠ g) W W' := ⟨h.1.size, fun _ hk hl => ⟨hk, h.block hk hl⟩⟩
theorem fmt_bool {a b : Bool} (h : a = b) : (a != b) = false := by subst h; cases a <;> rfl
set_option maxRecDepth 1000000 in
set_option maxHeartbeats 8000000 in
theorem formats_any (tn : NT) (vn vc : Value) (cs : List UInt8) (w : World) (hn : NAt w tn vn) (hc : BS w vc cs) (hk : Kinds w) :
    Calls Tryz.prog 3 #[vn, vc] w fun e w' => e = .returned (.bool true) ∧ Below w.heap.size w w' := by
  have HN := Lib.hid hn
  have HCS := Lib.hid hc
  obtain ⟨op1, rs1, nm1, ks1, mn1, mx1, ra1, rc1, a1, c1, _, rfl, _⟩ := hn.open
  have HBK0 := Lib.hid (nE_new w op1 ra1 rs1.length rc1 nm1 a1 ks1.length c1 mn1 mx1)
  have HB0 := Lib.hid (al_below w (.cells #[.int .i64 op1, .slice ra1 rs1.length rc1, .string ⟨nm1.toArray⟩, .slice a1 ks1.length c1, .int .i64 mn1, .int .i64 mx1] 25))
  have HK := Lib.hid hk
  have hs0 : w.heap.size + 1 = (w.alloc (.cells #[.int .i64 op1, .slice ra1 rs1.length rc1, .string ⟨nm1.toArray⟩, .slice a1 ks1.length c1, .int .i64 mn1, .int .i64 mx1] 25)).heap.size := by simp
  obtain ⟨W0, hW0⟩ : ∃ W0, w.alloc (.cells #[.int .i64 op1, .slice ra1 rs1.length rc1, .string ⟨nm1.toArray⟩, .slice a1 ks1.length c1, .int .i64 mn1, .int .i64 mx1] 25) = W0 := ⟨_, rfl⟩
  rw [hW0] at HBK0 HB0 hs0
  have HS0 := Lib.hid hs0
  clear hk hn hc hs0
  go_enter Tryz.func3, Tryz.ntmps3
  go_wp2_with fail
  clear hW0
  refine (aw_any _ (HK.out.below HB0.out)).mono ?_
  rintro e w1 ⟨rfl, hb⟩
  have hs1 : w.heap.size < w1.heap.size := by have := hb.size; have := HS0.out; omega
  have HBK1 := Lib.hid (HBK0.out.on hb (by have := HS0.out; omega))
  have HB1 := Lib.hid (HB0.out.trans (hb.mono HB0.out.size))
  clear hb HBK0 HB0 HS0
  obtain ⟨p0, p1, p2, p3, p4, p5⟩ := bkn HBK1.out
  go_wp2_with fail
  refine (nref_size tn _ _ (NAt.later HB1.out _ _ HN.out)).mono ?_
  rintro e w2 ⟨rfl, hb⟩
  have hs2 : w.heap.size < w2.heap.size := Nat.lt_of_lt_of_le hs1 hb.size
  have HBK2 := Lib.hid (HBK1.out.on hb hs1)
  have HB2 := Lib.hid (HB1.out.trans (hb.mono HB1.out.size))
  clear hb HBK1 HB1 p0 p1 p2 p3 p4 p5 hs1
  have HBIG := Lib.hid (ck_big (t := tn))
  obtain ⟨S, hS⟩ : ∃ S, nSz tn = S := ⟨_, rfl⟩
  rw [hS] at HBIG ⊢
  clear hS
  by_cases hbig : 400 < S
  · have z1 : decide ((400 : Int) < (S : Int)) = true := decide_eq_true (by omega)
    have y1 : decide (400 < S) = true := decide_eq_true hbig
    have HE := Lib.hid (HBIG.out hbig)
    obtain ⟨p0, p1, p2, p3, p4, p5⟩ := bkn HBK2.out
    go_wp2_with fail
    refine (check_any tn _ _ (NAt.later HB2.out _ _ HN.out) (HK.out.below HB2.out)).mono ?_
    rintro e w3 ⟨rfl, hb⟩
    have HB3 := Lib.hid (HB2.out.trans (hb.mono HB2.out.size))
    clear hb p0 p1 p2 p3 p4 p5
    obtain ⟨C, hC⟩ : ∃ C, ckE tn = C := ⟨_, rfl⟩
    rw [hC] at HE ⊢
    have z2 : ((C : Int) == 0) = false := by rw [beq_eq_false_iff_ne]; have := HE.out; omega
    have z3 : ((C : Int) != 0) = true := by simp only [bne, z2, Bool.not_false]
    have z4 : (C == 0) = false := by rw [beq_eq_false_iff_ne]; exact HE.out
    have z5 : (C != 0) = true := by simp only [bne, z4, Bool.not_false]
    clear hC
    go_wp2_with fail
    go_ret
    exact ⟨rfl, HB3.out⟩
  · have z1 : decide ((400 : Int) < (S : Int)) = false := decide_eq_false (by omega)
    have y1 : decide (400 < S) = false := decide_eq_false hbig
    clear HBIG
    go_wp2_with fail
    refine (new_any vc cs 200 w2 (HCS.out.below HB2.out) (by omega)).mono ?_
    rintro e w3 ⟨rfl, hca, hb⟩
    obtain ⟨g, hg⟩ : ∃ g, g = w2.heap.size := ⟨_, rfl⟩
    have hgw : w.heap.size < g := by omega
    have HBK3 := Lib.hid (HBK2.out.on hb hs2)
    have HB3 := Lib.hid (HB2.out.trans (hb.mono HB2.out.size))
    rw [← hg] at hca ⊢
    have HCA := Lib.hid hca
    clear hg hb hca HBK2 HB2
    go_wp2_with fail
    refine (node_any 4 (by omega) g w3 HCA.out).mono ?_
    rintro e w4 ⟨vp, tp, rfl, hT, hgd, hsm⟩
    have hg3 : g < w3.heap.size := HCA.out.1
    have HSM := Lib.hid hsm
    have HT4 : Hid (NG (fun k => k ≠ g) w4 tp vp) := Lib.hid (NG.go ⟨Nat.le_refl _, fun k hk _ => ⟨by omega, rfl⟩⟩ _ _ hT)
    obtain ⟨op2, rs2, nm2, ks2, mn2, mx2, ra2, rc2, a2, c2, _, rfl, _⟩ := hT.open
    have HG4 := Lib.hid hgd
    have HBK4 := Lib.hid (HBK3.out.go hgd.ap (by omega))
    have HB4 := Lib.hid (Apart.below HB3.out hgd.ap (Nat.le_of_lt hgw))
    clear hT hgd hsm HBK3 HB3
    go_wp2_with fail
    refine (node_any 2 (by omega) g w4 HG4.out.codes).mono ?_
    rintro e w5 ⟨vq, tq, rfl, hT, hgd, _⟩
    have hg4 : g < w4.heap.size := HG4.out.codes.1
    have HTQ5 : Hid (NG (fun k => k ≠ g) w5 tq vq) := Lib.hid (NG.go ⟨Nat.le_refl _, fun k hk _ => ⟨by omega, rfl⟩⟩ _ _ hT)
    obtain ⟨op3, rs3, nm3, ks3, mn3, mx3, ra3, rc3, a3, c3, _, rfl, _⟩ := hT.open
    have HTP5 := Lib.hid (NG.go (F := fun k => k ≠ g) (F' := fun k => k ≠ g) ⟨hgd.ap.1.size, fun k hk hl => ⟨hk, hgd.ap.block hk hl⟩⟩ _ _ HT4.out)
    have HG5 := Lib.hid hgd
    have HBK5 := Lib.hid (HBK4.out.go hgd.ap (by omega))
    have HB5 := Lib.hid (Apart.below HB4.out hgd.ap (Nat.le_of_lt hgw))
    have hg5 : g < w5.heap.size := hgd.codes.1
    clear hT hgd HBK4 HB4 HT4 HG4
    have HBKp := Lib.hid ((nE_new w5 op2 ra2 rs2.length rc2 nm2 a2 ks2.length c2 mn2 mx2).on (al_below _ (.cells #[.int .i64 op3, .slice ra3 rs3.length rc3, .string ⟨nm3.toArray⟩, .slice a3 ks3.length c3, .int .i64 mn3, .int .i64 mx3] 25)) (by simp))
    have HBKq := Lib.hid (nE_new (w5.alloc (.cells #[.int .i64 op2, .slice ra2 rs2.length rc2, .string ⟨nm2.toArray⟩, .slice a2 ks2.length c2, .int .i64 mn2, .int .i64 mx2] 25)) op3 ra3 rs3.length rc3 nm3 a3 ks3.length c3 mn3 mx3)
    have hb1 := al_below w5 (.cells #[.int .i64 op2, .slice ra2 rs2.length rc2, .string ⟨nm2.toArray⟩, .slice a2 ks2.length c2, .int .i64 mn2, .int .i64 mx2] 25)
    have HBA := Lib.hid (hb1.alloc hb1.size (.cells #[.int .i64 op3, .slice ra3 rs3.length rc3, .string ⟨nm3.toArray⟩, .slice a3 ks3.length c3, .int .i64 mn3, .int .i64 mx3] 25))
    have HG6 := Lib.hid ((HG5.out.al (.cells #[.int .i64 op2, .slice ra2 rs2.length rc2, .string ⟨nm2.toArray⟩, .slice a2 ks2.length c2, .int .i64 mn2, .int .i64 mx2] 25)).al (.cells #[.int .i64 op3, .slice ra3 rs3.length rc3, .string ⟨nm3.toArray⟩, .slice a3 ks3.length c3, .int .i64 mn3, .int .i64 mx3] 25))
    have hs1 : (w5.alloc (.cells #[.int .i64 op2, .slice ra2 rs2.length rc2, .string ⟨nm2.toArray⟩, .slice a2 ks2.length c2, .int .i64 mn2, .int .i64 mx2] 25)).heap.size = w5.heap.size + 1 := by simp
    rw [hs1] at HBKq
    obtain ⟨w6, hw6⟩ : ∃ w6, (w5.alloc (.cells #[.int .i64 op2, .slice ra2 rs2.length rc2, .string ⟨nm2.toArray⟩, .slice a2 ks2.length c2, .int .i64 mn2, .int .i64 mx2] 25)).alloc (.cells #[.int .i64 op3, .slice ra3 rs3.length rc3, .string ⟨nm3.toArray⟩, .slice a3 ks3.length c3, .int .i64 mn3, .int .i64 mx3] 25) = w6 := ⟨_, rfl⟩
    have hs6 : w6.heap.size = w5.heap.size + 2 := by rw [← hw6]; simp
    rw [hw6] at HBKp HBKq HBA HG6
    have HTP6 := Lib.hid (NG.go (ap_st (Apart.of_below HBA.out hg5)) _ _ HTP5.out)
    have HTQ6 := Lib.hid (NG.go (ap_st (Apart.of_below HBA.out hg5)) _ _ HTQ5.out)
    have HBK6 := Lib.hid (HBK5.out.on HBA.out (by omega))
    have HB6 := Lib.hid (HB5.out.trans (HBA.out.mono HB5.out.size))
    clear HTP5 HTQ5 HBK5 HB5 HG5 hb1 hs1
    obtain ⟨p0, p1, p2, p3, p4, p5⟩ := bkn HBKp.out
    go_wp2_with fail
    clear hw6 p0 p1 p2 p3 p4 p5
    refine (spoil_any tp _ (fun k => k ≠ g) 1000 g w6 (fun _ h => h) HG6.out.codes HTP6.out HSM.out (by omega)).mono ?_
    rintro e w7 ⟨vb, tb, rfl, hT, hgd, _⟩
    have HTB7 : Hid (NG (fun k => k ≠ g) w7 tb vb) := Lib.hid (NG.go ⟨Nat.le_refl _, fun k hk _ => ⟨hk.elim id (fun h => by have := HG6.out.codes.1; omega), rfl⟩⟩ _ _ hT)
    obtain ⟨op4, rs4, nm4, ks4, mn4, mx4, ra4, rc4, a4, c4, _, rfl, _⟩ := hT.open
    have hg6 : g < w6.heap.size := HG6.out.codes.1
    have hg7 : g < w7.heap.size := hgd.codes.1
    have HTP7 := Lib.hid (NG.go (ap_st hgd.ap) _ _ HTP6.out)
    have HTQ7 := Lib.hid (NG.go (ap_st hgd.ap) _ _ HTQ6.out)
    have HBK7 := Lib.hid (HBK6.out.go hgd.ap (by omega))
    have HBKp7 := Lib.hid (HBKp.out.go hgd.ap (by omega))
    have HBKq7 := Lib.hid (HBKq.out.go hgd.ap (by omega))
    have HB7 := Lib.hid (Apart.below HB6.out hgd.ap (Nat.le_of_lt hgw))
    have hs7 : w5.heap.size + 2 ≤ w7.heap.size := by have := hgd.ap.1.size; omega
    clear hT hgd HTP6 HTQ6 HBK6 HBKp HBKq HB6 HG6
    have HBKb := Lib.hid (nE_new w7 op4 ra4 rs4.length rc4 nm4 a4 ks4.length c4 mn4 mx4)
    have HBb := Lib.hid (al_below w7 (.cells #[.int .i64 op4, .slice ra4 rs4.length rc4, .string ⟨nm4.toArray⟩, .slice a4 ks4.length c4, .int .i64 mn4, .int .i64 mx4] 25))
    obtain ⟨w8, hw8⟩ : ∃ w8, w7.alloc (.cells #[.int .i64 op4, .slice ra4 rs4.length rc4, .string ⟨nm4.toArray⟩, .slice a4 ks4.length c4, .int .i64 mn4, .int .i64 mx4] 25) = w8 := ⟨_, rfl⟩
    have hs8 : w8.heap.size = w7.heap.size + 1 := by rw [← hw8]; simp
    rw [hw8] at HBKb HBb
    have HT1 := Lib.hid (NAt.later (HB7.out.trans (HBb.out.mono HB7.out.size)) _ _ HN.out)
    have HT2 := Lib.hid (NAt.later HBb.out _ _ HTP7.out.at)
    have HT3 := Lib.hid (NAt.later HBb.out _ _ HTQ7.out.at)
    have HT4 := Lib.hid (NAt.later HBb.out _ _ HTB7.out.at)
    have HBK8 := Lib.hid (HBK7.out.on HBb.out (by omega))
    have HBKp8 := Lib.hid (HBKp7.out.on HBb.out (by omega))
    have HBKq8 := Lib.hid (HBKq7.out.on HBb.out (by omega))
    have HB8 := Lib.hid (HB7.out.trans (HBb.out.mono HB7.out.size))
    clear HTP7 HTQ7 HTB7 HBK7 HBKp7 HBKq7 HB7
    have hp8 : w5.heap.size < w8.heap.size := by omega
    clear hs8 hs7 hs6
    obtain ⟨p0, p1, p2, p3, p4, p5⟩ := bkn HBK8.out
    obtain ⟨q0, q1, q2, q3, q4, q5⟩ := bkn HBKp8.out
    obtain ⟨r0, r1, r2, r3, r4, r5⟩ := bkn HBKq8.out
    obtain ⟨s0, s1, s2, s3, s4, s5⟩ := bkn HBKb.out
    have HEL := Lib.hid (el_row (q := w8.heap.size) (us0 := [.int .i64 op1, .slice ra1 rs1.length rc1, .string ⟨nm1.toArray⟩, .slice a1 ks1.length c1, .int .i64 mn1, .int .i64 mx1]) (us1 := [.int .i64 op2, .slice ra2 rs2.length rc2, .string ⟨nm2.toArray⟩, .slice a2 ks2.length c2, .int .i64 mn2, .int .i64 mx2]) (us2 := [.int .i64 op3, .slice ra3 rs3.length rc3, .string ⟨nm3.toArray⟩, .slice a3 ks3.length c3, .int .i64 mn3, .int .i64 mx3]) (us3 := [.int .i64 op4, .slice ra4 rs4.length rc4, .string ⟨nm4.toArray⟩, .slice a4 ks4.length c4, .int .i64 mn4, .int .i64 mx4]) (heap_alloc_new w8 (.cells #[.int .i64 op1, .slice ra1 rs1.length rc1, .string ⟨nm1.toArray⟩, .slice a1 ks1.length c1, .int .i64 mn1, .int .i64 mx1, .int .i64 op2, .slice ra2 rs2.length rc2, .string ⟨nm2.toArray⟩, .slice a2 ks2.length c2, .int .i64 mn2, .int .i64 mx2, .int .i64 op3, .slice ra3 rs3.length rc3, .string ⟨nm3.toArray⟩, .slice a3 ks3.length c3, .int .i64 mn3, .int .i64 mx3, .int .i64 op4, .slice ra4 rs4.length rc4, .string ⟨nm4.toArray⟩, .slice a4 ks4.length c4, .int .i64 mn4, .int .i64 mx4] 25)) (fun us hu => by
      have hA := al_below w8 (.cells #[.int .i64 op1, .slice ra1 rs1.length rc1, .string ⟨nm1.toArray⟩, .slice a1 ks1.length c1, .int .i64 mn1, .int .i64 mx1, .int .i64 op2, .slice ra2 rs2.length rc2, .string ⟨nm2.toArray⟩, .slice a2 ks2.length c2, .int .i64 mn2, .int .i64 mx2, .int .i64 op3, .slice ra3 rs3.length rc3, .string ⟨nm3.toArray⟩, .slice a3 ks3.length c3, .int .i64 mn3, .int .i64 mx3, .int .i64 op4, .slice ra4 rs4.length rc4, .string ⟨nm4.toArray⟩, .slice a4 ks4.length c4, .int .i64 mn4, .int .i64 mx4] 25)
      rcases hu with rfl | rfl | rfl | rfl
      · exact ⟨tn, _, _, _, _, _, _, _, _, _, _, rfl, NAt.later hA _ _ HT1.out⟩
      · exact ⟨tp, _, _, _, _, _, _, _, _, _, _, rfl, NAt.later hA _ _ HT2.out⟩
      · exact ⟨tq, _, _, _, _, _, _, _, _, _, _, rfl, NAt.later hA _ _ HT3.out⟩
      · exact ⟨tb, _, _, _, _, _, _, _, _, _, _, rfl, NAt.later hA _ _ HT4.out⟩))
    have HB9 := Lib.hid (HB8.out.trans ((al_below w8 (.cells #[.int .i64 op1, .slice ra1 rs1.length rc1, .string ⟨nm1.toArray⟩, .slice a1 ks1.length c1, .int .i64 mn1, .int .i64 mx1, .int .i64 op2, .slice ra2 rs2.length rc2, .string ⟨nm2.toArray⟩, .slice a2 ks2.length c2, .int .i64 mn2, .int .i64 mx2, .int .i64 op3, .slice ra3 rs3.length rc3, .string ⟨nm3.toArray⟩, .slice a3 ks3.length c3, .int .i64 mn3, .int .i64 mx3, .int .i64 op4, .slice ra4 rs4.length rc4, .string ⟨nm4.toArray⟩, .slice a4 ks4.length c4, .int .i64 mn4, .int .i64 mx4] 25)).mono HB8.out.size))
    have HBKp9 := Lib.hid (HBKp8.out.on (al_below w8 (.cells #[.int .i64 op1, .slice ra1 rs1.length rc1, .string ⟨nm1.toArray⟩, .slice a1 ks1.length c1, .int .i64 mn1, .int .i64 mx1, .int .i64 op2, .slice ra2 rs2.length rc2, .string ⟨nm2.toArray⟩, .slice a2 ks2.length c2, .int .i64 mn2, .int .i64 mx2, .int .i64 op3, .slice ra3 rs3.length rc3, .string ⟨nm3.toArray⟩, .slice a3 ks3.length c3, .int .i64 mn3, .int .i64 mx3, .int .i64 op4, .slice ra4 rs4.length rc4, .string ⟨nm4.toArray⟩, .slice a4 ks4.length c4, .int .i64 mn4, .int .i64 mx4] 25)) (by omega))
    have HTp9 := Lib.hid (NAt.later (al_below w8 (.cells #[.int .i64 op1, .slice ra1 rs1.length rc1, .string ⟨nm1.toArray⟩, .slice a1 ks1.length c1, .int .i64 mn1, .int .i64 mx1, .int .i64 op2, .slice ra2 rs2.length rc2, .string ⟨nm2.toArray⟩, .slice a2 ks2.length c2, .int .i64 mn2, .int .i64 mx2, .int .i64 op3, .slice ra3 rs3.length rc3, .string ⟨nm3.toArray⟩, .slice a3 ks3.length c3, .int .i64 mn3, .int .i64 mx3, .int .i64 op4, .slice ra4 rs4.length rc4, .string ⟨nm4.toArray⟩, .slice a4 ks4.length c4, .int .i64 mn4, .int .i64 mx4] 25)) _ _ HT2.out)
    have hq9 : w8.heap.size < (w8.alloc (.cells #[.int .i64 op1, .slice ra1 rs1.length rc1, .string ⟨nm1.toArray⟩, .slice a1 ks1.length c1, .int .i64 mn1, .int .i64 mx1, .int .i64 op2, .slice ra2 rs2.length rc2, .string ⟨nm2.toArray⟩, .slice a2 ks2.length c2, .int .i64 mn2, .int .i64 mx2, .int .i64 op3, .slice ra3 rs3.length rc3, .string ⟨nm3.toArray⟩, .slice a3 ks3.length c3, .int .i64 mn3, .int .i64 mx3, .int .i64 op4, .slice ra4 rs4.length rc4, .string ⟨nm4.toArray⟩, .slice a4 ks4.length c4, .int .i64 mn4, .int .i64 mx4] 25)).heap.size := by simp
    go_wp2_with fail
    clear hw8 p0 p1 p2 p3 p4 p5 q0 q1 q2 q3 q4 q5 r0 r1 r2 r3 r4 r5 s0 s1 s2 s3 s4 s5 HBK8 HBKp8 HBKq8 HBKb
    obtain ⟨q, hq⟩ : ∃ q, w8.heap.size = q := ⟨_, rfl⟩
    obtain ⟨w9, hw9⟩ : ∃ w9, w8.alloc (.cells #[.int .i64 op1, .slice ra1 rs1.length rc1, .string ⟨nm1.toArray⟩, .slice a1 ks1.length c1, .int .i64 mn1, .int .i64 mx1, .int .i64 op2, .slice ra2 rs2.length rc2, .string ⟨nm2.toArray⟩, .slice a2 ks2.length c2, .int .i64 mn2, .int .i64 mx2, .int .i64 op3, .slice ra3 rs3.length rc3, .string ⟨nm3.toArray⟩, .slice a3 ks3.length c3, .int .i64 mn3, .int .i64 mx3, .int .i64 op4, .slice ra4 rs4.length rc4, .string ⟨nm4.toArray⟩, .slice a4 ks4.length c4, .int .i64 mn4, .int .i64 mx4] 25) = w9 := ⟨_, rfl⟩
    obtain ⟨pb, hpb⟩ : ∃ pb, w5.heap.size = pb := ⟨_, rfl⟩
    rw [hq, hw9] at HEL hq9
    rw [hw9] at HB9 HTp9 HBKp9
    rw [hpb] at HBKp9
    rw [hq, hw9, hpb]
    have hp9 : pb < w9.heap.size := by omega
    clear hw9 hq hpb HT1 HT2 HT3 HT4
    go_loopw [38] (fun i wr => ∃ k : Nat, i = .int .i64 k ∧ k ≤ 4 ∧ Hid (Below w9.heap.size w9 wr)) (fun i _ => 4 - (intOf i).toNat)
    case atStart => exact ⟨0, rfl, by omega, Lib.hid (Below.refl _ _)⟩
    case round =>
      obtain ⟨k, rfl, hk4, HBR⟩ := hrel
      have HVW := Lib.hid (HB9.out.trans (HBR.out.mono HB9.out.size))
      by_cases hlt : k < 4
      · have z1 : decide ((k : Int) < 4) = true := decide_eq_true (by omega)
        have y1 : decide (k < 4) = true := decide_eq_true hlt
        have i1 : (k : Int) < 4 := by omega
        have i2 : (0 : Int) ≤ (k : Int) := by omega
        have hw1 : IntKind.i64.wrap ((k : Int) + 1) = (k : Int) + 1 := IntWalk.i64_in _ (by omega)
        obtain ⟨t5, op5, rs5, nm5, ks5, mn5, mx5, ra5, rc5, a5, c5, ⟨e0, e1, e2, e3, e4, e5⟩, hn5⟩ := (HEL.out k hlt).on HBR.out hq9
        have HN5 := Lib.hid (NAt.later (al_below wr (.cells #[.int .i64 op5, .slice ra5 rs5.length rc5, .string ⟨nm5.toArray⟩, .slice a5 ks5.length c5, .int .i64 mn5, .int .i64 mx5] 25)) _ _ hn5)
        have HX5 := Lib.hid (nE_new wr op5 ra5 rs5.length rc5 nm5 a5 ks5.length c5 mn5 mx5)
        have HBX := Lib.hid (al_below wr (.cells #[.int .i64 op5, .slice ra5 rs5.length rc5, .string ⟨nm5.toArray⟩, .slice a5 ks5.length c5, .int .i64 mn5, .int .i64 mx5] 25))
        have HP5 := Lib.hid ((HBKp9.out.on HBR.out hp9).on HBX.out (Nat.lt_of_lt_of_le hp9 HBR.out.size))
        have HTP5 := Lib.hid (NAt.later HBX.out _ _ (NAt.later HBR.out _ _ HTp9.out))
        have hx6 : wr.heap.size < (wr.alloc (.cells #[.int .i64 op5, .slice ra5 rs5.length rc5, .string ⟨nm5.toArray⟩, .slice a5 ks5.length c5, .int .i64 mn5, .int .i64 mx5] 25)).heap.size := by simp
        have hp6 : pb < (wr.alloc (.cells #[.int .i64 op5, .slice ra5 rs5.length rc5, .string ⟨nm5.toArray⟩, .slice a5 ks5.length c5, .int .i64 mn5, .int .i64 mx5] 25)).heap.size := by have := HBR.out.size; simp; omega
        have HB6 := Lib.hid (HBR.out.trans (HBX.out.mono HBR.out.size))
        have HV6 := Lib.hid (HVW.out.trans (HBX.out.mono HVW.out.size))
        obtain ⟨w6, hw6⟩ : ∃ w6, wr.alloc (.cells #[.int .i64 op5, .slice ra5 rs5.length rc5, .string ⟨nm5.toArray⟩, .slice a5 ks5.length c5, .int .i64 mn5, .int .i64 mx5] 25) = w6 := ⟨_, rfl⟩
        rw [hw6] at HN5 HX5 HBX HP5 HTP5 hx6 hp6 HB6 HV6
        obtain ⟨p0, p1, p2, p3, p4, p5⟩ := bkn HX5.out
        have hbq : q < wr.heap.size := Nat.lt_of_lt_of_le hq9 HBR.out.size
        clear hn5
        go_wp2_with fail
        clear hw6 e0 e1 e2 e3 e4 e5
        refine (format_any t5 _ w6 HN5.out (HK.out.below HV6.out)).mono ?_
        rintro e w7 ⟨rfl, hb⟩
        have HX7 := Lib.hid (HX5.out.on hb hx6)
        have HP7 := Lib.hid (HP5.out.on hb hp6)
        have HB7 := Lib.hid (HBX.out.trans (hb.mono HBX.out.size))
        have HN7 := Lib.hid (NAt.later hb _ _ HN5.out)
        have HTP7 := Lib.hid (NAt.later hb _ _ HTP5.out)
        have hx7 := Nat.lt_of_lt_of_le hx6 hb.size
        have hp7 := Nat.lt_of_lt_of_le hp6 hb.size
        clear hb p0 p1 p2 p3 p4 p5 HX5 HP5 HN5 HTP5 HBX hx6 hp6
        obtain ⟨p0, p1, p2, p3, p4, p5⟩ := bkn HX7.out
        go_wp2_with fail
        refine (rformat_any t5 _ w7 HN7.out).mono ?_
        rintro e w8 ⟨rfl, hb⟩
        have HX8 := Lib.hid (HX7.out.on hb hx7)
        have HP8 := Lib.hid (HP7.out.on hb hp7)
        have HB8 := Lib.hid (HB7.out.trans (hb.mono HB7.out.size))
        have HN8 := Lib.hid (NAt.later hb _ _ HN7.out)
        have HTP8 := Lib.hid (NAt.later hb _ _ HTP7.out)
        clear hb p0 p1 p2 p3 p4 p5 HX7 HP7 HN7 HTP7 HB7
        obtain ⟨p0, p1, p2, p3, p4, p5⟩ := bkn HX8.out
        obtain ⟨q0, q1, q2, q3, q4, q5⟩ := bkn HP8.out
        obtain ⟨F, hF⟩ : ∃ F, fmtM t5 = F := ⟨_, rfl⟩
        rw [hF]
        obtain ⟨FS, FE⟩ := F
        simp only
        clear hF
        have P0 := cell_regrown p0
        have P1 := cell_regrown p1
        have P2 := cell_regrown p2
        have P3 := cell_regrown p3
        have P4 := cell_regrown p4
        have P5 := cell_regrown p5
        have Q0 := cell_regrown q0
        have Q1 := cell_regrown q1
        have Q2 := cell_regrown q2
        have Q3 := cell_regrown q3
        have Q4 := cell_regrown q4
        have Q5 := cell_regrown q5
        have HC1 := Lib.hid fun d os => psame_any tp t5 _ _ (grow (redrawn w8 d) os) (NAt.later (below_regrown w8 d os) _ _ HTP8.out) (NAt.later (below_regrown w8 d os) _ _ HN8.out)
        have HC2 := Lib.hid fun d os => rsame_any tp t5 _ _ (grow (redrawn w8 d) os) (NAt.later (below_regrown w8 d os) _ _ HTP8.out) (NAt.later (below_regrown w8 d os) _ _ HN8.out)
        have HC3 := Lib.hid fun d os => psame_any t5 t5 _ _ (grow (redrawn w8 d) os) (NAt.later (below_regrown w8 d os) _ _ HN8.out) (NAt.later (below_regrown w8 d os) _ _ HN8.out)
        have hst : sameB t5 t5 = true := (sameB_iff _ _).2 rfl
        rw [hst] at HC3
        obtain ⟨SB, hSB⟩ : ∃ SB, sameB tp t5 = SB := ⟨_, rfl⟩
        rw [hSB] at HC1 HC2
        clear hst hSB
        go_wp2_with fail
        clear p0 p1 p2 p3 p4 p5 q0 q1 q2 q3 q4 q5
        refine wp_region_quiet_below (by kernel_rfl) (by kernel_rfl) ?_
        first | go_big_quiet_step (fail) | quiet_step (fail)
        first | go_big_quiet_step (fail) | quiet_step (fail)
        first | go_big_quiet_step (fail) | quiet_step (fail)
        first | go_big_quiet_step (fail) | quiet_step (fail)
        first | go_big_quiet_step (fail) | quiet_step (fail)
        first | go_big_quiet_step (fail) | quiet_step (fail)
        first | go_big_quiet_step (fail) | quiet_step (fail)
        first | go_big_quiet_step (fail) | quiet_step (fail)
        first | go_big_quiet_step (fail) | quiet_step (fail)
        first | go_big_quiet_step (fail) | quiet_step (fail)
        first | go_big_quiet_step (fail) | quiet_step (fail)
        first | go_big_quiet_step ((go_at_call 12; exact Calls.regrown_of (HC1.out _ _))) | quiet_step ((go_at_call 12; exact Calls.regrown_of (HC1.out _ _)))
        first | go_big_quiet_step (fail) | quiet_step (fail)
        first | go_big_quiet_step (fail) | quiet_step (fail)
        first | go_big_quiet_step ((go_at_call 13; exact Calls.regrown_of (HC2.out _ _))) | quiet_step ((go_at_call 13; exact Calls.regrown_of (HC2.out _ _)))
        first | go_big_quiet_step (fail) | quiet_step (fail)
        first | go_big_quiet_step (fail) | quiet_step (fail)
        first | go_big_quiet_step (fail) | quiet_step (fail)
        first | go_big_quiet_step (fail) | quiet_step (fail)
        first | go_big_quiet_step (fail) | quiet_step (fail)
        first | go_big_quiet_step ((go_at_call 12; exact Calls.regrown_of (HC3.out _ _))) | quiet_step ((go_at_call 12; exact Calls.regrown_of (HC3.out _ _)))
        first | go_big_quiet_step (fail) | quiet_step (fail)
        first | go_big_quiet_step (fail) | quiet_step (fail)
        refine wpQuiet_nil ?_
        clear P0 P1 P2 P3 P4 P5 Q0 Q1 Q2 Q3 Q4 Q5
        rintro _ ⟨⟨dq, osq⟩, rfl⟩
        obtain ⟨w9', hw9⟩ : ∃ W, grow (redrawn w8 dq) osq = W := ⟨_, rfl⟩
        have HQ3 : Hid (Below w9.heap.size w9 w9') := Lib.hid (hw9 ▸ (HBR.out.trans (HB8.out.mono HBR.out.size)).trans ((below_regrown w8 dq osq).mono (Nat.le_trans HBR.out.size HB8.out.size)))
        dsimp only
        rw [hw9]
        clear hw9
        go_wp2_with fail
        go_roundw
        case rel => exact ⟨k + 1, by go_num, by omega, HQ3⟩
        case measure => simp [intOf]; omega
      · have z1 : decide ((k : Int) < 4) = false := decide_eq_false (by omega)
        have y1 : decide (k < 4) = false := decide_eq_false hlt
        go_wp2_with fail
        go_ret
        exact ⟨rfl, HVW.out⟩
end Go.Proofs.YtphbkompnddflaaGreatDoor
/-
  What a row's list of variables gives: the tables' cells; and a world that fits it.
-/
namespace Go.Proofs.YtphbkompnddflaaGreatDoor
open Go.ChangeShapes Go.WideShapes Go.ChangeAt Go.RowKit

theorem own : ownKnob Tryz.prog.godebug = none := by kernel_rfl

/-- A listed table of integers as cells: for the witness. -/
def litCells : DataW Unit → Array Value
  | .agg l => (l.map fun | .lit (.int k n) => Value.int k n | _ => undef).toArray
  | _ => #[]
def layAt (d : DataW Unit) : Obj → Obj
  | .cells _ t frozen => .cells (litCells d) t frozen
  | o => o

end Go.Proofs.YtphbkompnddflaaGreatDoor
/-
  The tables that chapter 2's laws read, out of a row's list.
-/
namespace Go.Proofs.YtphbkompnddflaaGreatDoor
open Go.ChangeShapes Go.WideShapes Go.ChangeAt Go.RowKit

theorem gKinds : Tryz.prog.globalNamed "logtide/ascii.kinds" = some 0 := by kernel_rfl
theorem gPow : Tryz.prog.globalNamed "internal/strconv.uint64pow10" = some 2 := by kernel_rfl
theorem gKindsType : (Tryz.prog.globals[0]?).map (·.type) = some 112 := by kernel_rfl
theorem gPowType : (Tryz.prog.globals[2]?).map (·.type) = some 130 := by kernel_rfl
theorem cellsKinds : Tryz.prog.cellsOf 112 = 256 := by kernel_rfl
theorem cellsPow : Tryz.prog.cellsOf 130 = 20 := by kernel_rfl
theorem cellsU8 : Tryz.prog.cellsOf 5 = 1 := by kernel_rfl
theorem cellsU64 : Tryz.prog.cellsOf 123 = 1 := by kernel_rfl
theorem kinds_data : (Rows.laid_logtide_ascii_kinds : DataW Unit) = Lib.tabData .u8 Asc.kTab := by kernel_rfl

theorem kinds_of_head {W : World} {rest : List (String × DataW Unit)} (h : laidMet Tryz.prog (("logtide/ascii.kinds", Rows.laid_logtide_ascii_kinds) :: rest) W) : Kinds W := by
  rw [kinds_data] at h
  have ht : Lib.TabIs Tryz.prog W "logtide/ascii.kinds" .u8 Asc.kTab := Lib.tabIs_of_head (zs := Asc.kTab) (rest := rest) gKinds gKindsType Tryz.underlying112 Tryz.underlying5 cellsU8 cellsKinds h
  have hc : ∀ c, c < 256 → W.cell? ⟨0, c, none⟩ = some (.int .u8 (Asc.kind c : Nat)) := fun c hc => by
    rw [← Asc.kTab_at c hc]
    exact ht.cell gKinds c (by simpa [Asc.kTab] using hc)
  exact ⟨World.block_lt_of_cell? W _ (hc 0 (by omega)), hc⟩

/-- The table of the powers of ten is laid. -/
def Pow (w : World) : Prop := Lib.TabIs Tryz.prog w "internal/strconv.uint64pow10" .u64 Lib.pow10Tab
theorem Pow.below {w w' : World} (h : Pow w) (hb : Below w.heap.size w w') : Pow w' := by
  have hc := Lib.TabIs.cell h gPow 0 (by decide)
  exact var?_below hb gPow (World.block_lt_of_cell? w _ hc) h

def laidOne : List (String × DataW Unit) := [("logtide/ascii.kinds", Rows.laid_logtide_ascii_kinds)]
def laidFour : List (String × DataW Unit) := [("math/bits.deBruijn32tab", Rows.laid_math_bits_deBruijn32tab), ("math/bits.deBruijn64tab", Rows.laid_math_bits_deBruijn64tab), ("internal/strconv.uint64pow10", Rows.laid_internal_strconv_uint64pow10), ("logtide/ascii.kinds", Rows.laid_logtide_ascii_kinds)]

theorem k_of_laid {W : World} (h : laidMetH Tryz.prog laidOne W) : Kinds W := kinds_of_head (rest := []) h
theorem kp_of_laid {W : World} (h : laidMetH Tryz.prog laidFour W) : Kinds W ∧ Pow W := by
  have h' : laidMet Tryz.prog laidFour W := h
  have h3 : laidMet Tryz.prog [("internal/strconv.uint64pow10", Rows.laid_internal_strconv_uint64pow10), ("logtide/ascii.kinds", Rows.laid_logtide_ascii_kinds)] W := h'.tail.tail
  have hp : Pow W := Lib.tabIs_of_head (zs := Lib.pow10Tab) (rest := [("logtide/ascii.kinds", Rows.laid_logtide_ascii_kinds)]) gPow gPowType Tryz.underlying130 Tryz.underlying123 cellsU64 cellsPow h3
  exact ⟨kinds_of_head (rest := []) h3.tail, hp⟩

/-- A WORLD FOR THE WITNESS: the settled one, the tables holding what their initialisers lay. -/
noncomputable def laidWorld (os : Os) : World :=
  { World.holding Tryz.prog os ⟨#[], #[], []⟩ with heap := ((((World.holding Tryz.prog os ⟨#[], #[], []⟩).heap.modify 0 (layAt Rows.laid_logtide_ascii_kinds)).modify 2 (layAt Rows.laid_internal_strconv_uint64pow10)).modify 3 (layAt Rows.laid_math_bits_deBruijn32tab)).modify 4 (layAt Rows.laid_math_bits_deBruijn64tab) }

end Go.Proofs.YtphbkompnddflaaGreatDoor
/-
  THE ROW'S LAST STEP, WHATEVER THE ARGUMENTS' TYPES: what a call leaves alone below the heap's old end reads behind it as it read before.
-/
namespace Go.Proofs.YtphbkompnddflaaGreatDoor
open Go.ChangeShapes Go.WideShapes Go.ChangeAt Go.RowKit

theorem stay_laid : laidOutB Tryz.prog = true := by kernel_rfl
theorem stay_maps : mapsRowed Tryz.prog = true := by kernel_rfl
theorem stay_kids : Kids Tryz.prog (· < Tryz.prog.types.size) := kids_rows stay_laid stay_maps
def slicesSized (P : Program) : Bool := (List.range P.types.size).all fun t => match P.underlying t with | some (.slice e) => decide (0 < P.cellsOf e) | _ => true
theorem stay_sized : slicesSized Tryz.prog = true := by kernel_rfl
theorem stay_pos {t e : TypeId} (ht : t < Tryz.prog.types.size) (h : Tryz.prog.underlying t = some (.slice e)) : 0 < Tryz.prog.cellsOf e := by
  have := (List.all_eq_true.1 stay_sized) t (List.mem_range.2 ht)
  rw [h] at this
  simpa using this

theorem trodAll_stays {H : Type} {enc : TypeId × Value → H} {W W' : World} {sp : Nat → Bool} :
    ∀ {ts : List TypeId} {vs : List Value} {ds : List (DataW H)} {ps : List MemPlace}, (∀ t ∈ ts, t < Tryz.prog.types.size) → DataW.TrodAll enc Tryz.prog W 0 (fun _ => true) true ts vs ds ps →
      (∀ p ∈ ps, W.sameAt W' p) → (∀ p ∈ ps, sp p.block = true) → DataW.TrodAll enc Tryz.prog W' 0 sp true ts vs ds ps
  | [], vs, ds, ps, _, h, _, _ => by
    obtain ⟨rfl, rfl, rfl⟩ := trodAll_nil h
    exact rfl
  | t :: ts, vs, ds, ps, ht, h, h1, h2 => by
    obtain ⟨v, vs', d, ds', p, q, rfl, rfl, rfl, ⟨fuel, hf⟩, hr⟩ := trodAll_cons h
    refine ⟨p, q, ⟨fuel, DataW.trod_stays (x := (d, p)) stay_kids stay_pos (fun h => by cases h) (ht t (by simp)) hf (fun x hx => h1 x (List.mem_append_left _ hx)) (fun x hx => h2 x (List.mem_append_left _ hx))⟩, ?_, rfl⟩
    exact trodAll_stays (fun t h => ht t (List.mem_cons_of_mem _ h)) hr (fun x hx => h1 x (List.mem_append_right _ hx)) (fun x hx => h2 x (List.mem_append_right _ hx))

/-- A law that returned true and left everything alone. -/
theorem post_true {H : Type} {enc : TypeId × Value → H} {f : Func} {s : ChangeSpec} {W W' : World} {args : Array Value} {ds gs : List (DataW H)} {before : List MemPlace}
    (hW : DataW.Whole enc Tryz.prog f.params.toList s.vars false W args.toList ds gs before) (hvars : s.vars = []) (hT : ∀ t ∈ f.params.toList, t < Tryz.prog.types.size)
    (hrt : f.resultTypes = #[4]) (hres : (s.fn H ds).results = [.lit (.bool true)]) (hargs : (s.fn H ds).args = ds) (hv : (s.fn H ds).vars = []) (hb : Below W.heap.size W W') :
    s.post enc Tryz.prog f false true false false W args (.bool true) W' := by
  have hlt := hW.lt
  have hW0 := hW
  obtain ⟨p, q, hA, hV, rfl, _, _⟩ := hW
  rw [hvars] at hV
  obtain ⟨rfl, rfl⟩ := trodVars_none hV
  rw [List.append_nil] at hlt
  refine ⟨ds, [], p ++ [], [], p, [], hW0, ?_, ?_, ?_, hb.frame _, fun h => by cases h⟩
  · rw [List.append_nil, hres, hrt]
    exact trodAll_cons_mk (shut_bool Tryz.underlying4 _) trodAll_mk0
  · rw [List.append_nil, hargs]
    exact trodAll_stays hT hA (fun x hx => hb.same (hlt x hx)) (fun x hx => by simpa using hlt x hx)
  · rw [List.append_nil, hv, hvars]
    exact rfl

end Go.Proofs.YtphbkompnddflaaGreatDoor
/-
  A SLICE OF BYTES THAT CAME IN.
-/
namespace Go.Proofs.YtphbkompnddflaaGreatDoor
open Go.ChangeShapes Go.WideShapes Go.ChangeAt Go.RowKit
open Go.ChangeMaps (open_string shut_string)

theorem cellsU8q : Tryz.prog.cellsOf 5 = 1 := by kernel_rfl
set_option maxRecDepth 1000000 in
/-- A slice of bytes that came in. -/
theorem open_bytes {H : Type} {enc : TypeId × Value → H} {W : World} {base : Nat} {v : Value} {d : DataW H} {p : List MemPlace} (hv : Value.okWide Tryz.prog W .any base 26 v)
    (h : DataW.Trod enc Tryz.prog W 0 (fun _ => true) true 26 v d p) : ∃ bs, BSI W v bs := by
  obtain ⟨a0, len, cap, rfl⟩ := okWide_slice Tryz.underlying26 hv
  obtain ⟨fuel, hf⟩ := h
  rcases open_ints Tryz.underlying26 Tryz.underlying5 cellsU8q hf with ⟨hcs, hx⟩ | ⟨a, len', cap', zs, hcs, _, hl, hm, hz, hx, hcell, hwz⟩
  · simp only [Prod.mk.injEq] at hx
    obtain ⟨rfl, rfl⟩ := hx
    simp [Value.cells] at hcs
    obtain ⟨rfl, rfl, rfl⟩ := hcs
    exact ⟨[], .inl ⟨rfl, rfl⟩⟩
  · simp only [Prod.mk.injEq] at hx
    obtain ⟨rfl, rfl⟩ := hx
    simp [Value.cells] at hcs
    obtain ⟨rfl, rfl, rfl⟩ := hcs
    simp only [if_true] at hz
    have hl2 : (zs.take len).length = len := by rw [List.length_take]; omega
    refine ⟨(zs.take len).map fun z => UInt8.ofNat z.toNat, .inr ⟨a, cap, by rw [List.length_map, hl2], by rw [List.length_map, hl2]; exact hl, fun j u hj => ?_⟩⟩
    · unfold Lib.byteCells at hj
      rw [List.map_map, List.getElem?_map] at hj
      obtain ⟨z, hz1, rfl⟩ := Option.map_eq_some_iff.1 hj
      have hj1 : j < len := by have := (List.getElem?_eq_some_iff.1 hz1).1; omega
      rw [List.getElem?_take_of_lt hj1] at hz1
      obtain ⟨hj2, hz3⟩ := List.getElem?_eq_some_iff.1 hz1
      have hc := hcell j hj2
      have e : zs.getD j 0 = z := by simp [List.getD, hz1]
      rw [e] at hc
      obtain ⟨n, hn, rfl⟩ := u8_nat (hwz z (by rw [← hz3]; exact List.getElem_mem hj2))
      rw [hc]
      simp only [Function.comp_apply, Int.toNat_natCast]
      rw [Asc.ofNat_toNat8 hn]

end Go.Proofs.YtphbkompnddflaaGreatDoor
/-
  Nodes of patterns as they come in.
-/
namespace Go.Proofs.YtphbkompnddflaaGreatDoor
open Go.ChangeShapes Go.WideShapes Go.ChangeAt Go.RowKit

theorem ex_list {α : Type} {R : Nat → α → Prop} (n : Nat) (h : ∀ i, i < n → ∃ t, R i t) : ∃ l : List α, l.length = n ∧ ∀ i (hi : i < l.length), R i l[i] := by
  refine ⟨List.ofFn fun i : Fin n => Classical.choose (h i.1 i.2), by simp, fun i hi => ?_⟩
  rw [List.getElem_ofFn]
  exact Classical.choose_spec (h i (by simpa using hi))

section
variable {H : Type} {enc : TypeId × Value → H} {P : Program} {W : World} {base : Nat} {sp : Nat → Bool} {hd : Bool}

theorem open_row {t e : TypeId} {fuel : Nat} {cs : List Value} {x : DataW H × List MemPlace} (k : Nat) (ht : P.underlying t = some (.slice e)) (hk : P.cellsOf e = k) (h0 : 0 < k)
    (h : DataW.trod enc P W base sp hd fuel t cs = some x) : ∃ a len cap, cs = [.slice a len cap] ∧ len ≤ 9223372036854775807 ∧ ∀ i, i < len → ∃ blk off es y n, a = some ⟨blk, off, none⟩ ∧ blk < W.heap.size ∧ n < fuel ∧
      es.length = k ∧ (∀ j, j < k → W.cell? ⟨blk, off + i * k + j, none⟩ = es[j]?) ∧ DataW.trod enc P W base sp hd n e es = some y := by
  rcases DataW.trod_slice ht h with ⟨rfl, _⟩ | ⟨a, len, cap, elems, rest, n, rfl, rfl, _, hb, hl, hm, hlen, hel, _, _⟩
  · exact ⟨none, 0, 0, rfl, by omega, fun i hi => by omega⟩
  refine ⟨some a, len, cap, rfl, Nat.le_trans hl hm, fun i hi => ?_⟩
  have h1 := hel i hi
  rw [hk, List.getElem?_eq_getElem (by omega)] at h1
  obtain ⟨es, h2, h3⟩ := Option.bind_eq_some_iff.1 h1
  obtain ⟨_, h4, h5⟩ := World.cells?_some h2
  obtain ⟨blk, off, spot⟩ := a
  have h6 := h5 0 h0
  rw [List.getElem?_eq_getElem (by omega)] at h6
  have hs : spot = none := by
    have g1 := hel 0 (by omega)
    rw [hk, List.getElem?_eq_getElem (by omega)] at g1
    obtain ⟨es0, g2, g3⟩ := Option.bind_eq_some_iff.1 g1
    obtain ⟨_, g4, g5⟩ := World.cells?_some g2
    have g6 := g5 0 h0
    rw [List.getElem?_eq_getElem (by omega), Nat.zero_mul] at g6
    have h9 := World.cell?_spot g6
    rw [show ∀ a : Addr, (a.add 0).add 0 = a from fun a => by simp [Addr.add]] at h9
    exact h9
  subst hs
  have h7 := World.block_lt_of_cell? _ _ h6
  simp only [add_plain] at h5 h6 h7
  exact ⟨blk, off, es, _, n, rfl, h7, Nat.lt_succ_self _, h4, h5, h3⟩

theorem open_fields {t : TypeId} {fs : Array Field} {fuel : Nat} {cs : List Value} {x : DataW H × List MemPlace} (ht : P.underlying t = some (.struct fs)) (h : DataW.trod enc P W base sp hd fuel t cs = some x) :
    ∃ n, n < fuel ∧ cs.length = P.cellsOf t ∧ ∀ (i : Nat) (f : Field), fs[i]? = some f → ∃ y, DataW.trod enc P W base sp hd n f.type ((cs.drop f.offset).take (P.cellsOf f.type)) = some y := by
  obtain ⟨xs, n, rfl, _, hl, hx, hf⟩ := DataW.trod_struct ht h
  refine ⟨n, Nat.lt_succ_self _, hl, fun i f hi => ?_⟩
  have := hf i f hi
  have hlt : i < fs.size := (Array.getElem?_eq_some_iff.1 hi).1
  rw [List.getElem?_eq_getElem (by omega)] at this
  exact ⟨_, this⟩
theorem fld {fs : Array Field} {cs : List Value} {n : Nat} (hf : ∀ (i : Nat) (f : Field), fs[i]? = some f → ∃ y, DataW.trod enc P W base sp hd n f.type ((cs.drop f.offset).take (P.cellsOf f.type)) = some y) (i T o k : Nat)
    (hT : (fs[i]?).map (fun f => (f.type, f.offset)) = some (T, o)) (hk : P.cellsOf T = k) : ∃ y, DataW.trod enc P W base sp hd n T ((cs.drop o).take k) = some y := by
  obtain ⟨f, h1, h2⟩ := Option.map_eq_some_iff.1 hT
  simp only [Prod.mk.injEq] at h2
  obtain ⟨rfl, rfl⟩ := h2
  rw [← hk]
  exact hf i f h1
theorem str_list (s : ByteArray) : s = ⟨(s.data.toList).toArray⟩ := by cases s; simp
end

theorem cNode : Tryz.prog.cellsOf 25 = 6 := by kernel_rfl
theorem cNodes : Tryz.prog.cellsOf 23 = 1 := by kernel_rfl
theorem cRange : Tryz.prog.cellsOf 56 = 2 := by kernel_rfl
theorem cRanges : Tryz.prog.cellsOf 22 = 1 := by kernel_rfl
theorem cIntN : Tryz.prog.cellsOf 3 = 1 := by kernel_rfl
theorem cStrN : Tryz.prog.cellsOf 9 = 1 := by kernel_rfl
theorem cU8N : Tryz.prog.cellsOf 5 = 1 := by kernel_rfl

section
variable {H : Type} {enc : TypeId × Value → H} {W : World} {base : Nat} {sp : Nat → Bool} {hd : Bool}

set_option maxRecDepth 1000000 in
theorem open_ranges {fuel : Nat} {cs : List Value} {x : DataW H × List MemPlace} (h : DataW.trod enc Tryz.prog W base sp hd fuel 22 cs = some x) :
    ∃ rs a c, cs = [.slice a (rs : List (UInt8 × UInt8)).length c] ∧ RgAt W rs (.slice a rs.length c) := by
  obtain ⟨a, len, cap, e, hlen, hr⟩ := open_row 2 Tryz.underlying22 cRange (by decide) h
  obtain ⟨rs, hkl, hk⟩ := ex_list (R := fun i (r : UInt8 × UInt8) => ∃ blk off, a = some ⟨blk, off, none⟩ ∧ blk < W.heap.size ∧ W.cell? ⟨blk, off + i * 2, none⟩ = some (.int .u8 (r.1.toNat : Int)) ∧ W.cell? ⟨blk, off + i * 2 + 1, none⟩ = some (.int .u8 (r.2.toNat : Int))) len (fun i hi => by
    obtain ⟨blk, off, es, y, m, ea, hb, hm, hes, hc, ht⟩ := hr i hi
    obtain ⟨n, hn, hl, hf⟩ := open_fields Tryz.underlying56 ht
    rw [cRange] at hl
    obtain ⟨u0, u1, rfl⟩ : ∃ u0 u1, es = [u0, u1] := by
      match es, hl with
      | [u0, u1], _ => exact ⟨_, _, rfl⟩
    obtain ⟨y0, h0⟩ := fld hf 0 5 0 1 rfl cU8N
    obtain ⟨y1, h1⟩ := fld hf 1 5 1 1 rfl cU8N
    simp only [List.drop, List.take] at h0 h1
    obtain ⟨k, e0, _, w0⟩ := DataW.trod_int Tryz.underlying5 h0
    obtain ⟨f, e1, _, w1⟩ := DataW.trod_int Tryz.underlying5 h1
    simp only [List.cons.injEq, and_true] at e0 e1
    subst e0 e1
    obtain ⟨k', hk', rfl⟩ := u8_nat w0
    obtain ⟨f', hf', rfl⟩ := u8_nat w1
    refine ⟨(UInt8.ofNat k', UInt8.ofNat f'), blk, off, ea, hb, ?_, ?_⟩
    · first | (simp [Asc.ofNat_toNat8 hk']; done) | (simpa [Asc.ofNat_toNat8 hk'] using hc 0 (by decide))
    · first | (simp [Asc.ofNat_toNat8 hf']; done) | (simpa [Asc.ofNat_toNat8 hf'] using hc 1 (by decide)))
  subst hkl
  exact ⟨rs, a, cap, e, a, cap, rfl, hlen, hk⟩

set_option maxRecDepth 1000000 in
theorem open_node (fuel : Nat) : ∀ (cs : List Value) (x : DataW H × List MemPlace), DataW.trod enc Tryz.prog W base sp hd fuel 25 cs = some x →
    ∃ t u0 u1 u2 u3 u4 u5, cs = [u0, u1, u2, u3, u4, u5] ∧ NAt W t (.agg #[u0, u1, u2, u3, u4, u5]) := by
  induction fuel using Nat.strongRecOn with
  | _ fuel ih =>
  intro cs x h
  obtain ⟨n, hn, hl, hf⟩ := open_fields Tryz.underlying25 h
  rw [cNode] at hl
  obtain ⟨u0, u1, u2, u3, u4, u5, rfl⟩ : ∃ u0 u1 u2 u3 u4 u5, cs = [u0, u1, u2, u3, u4, u5] := by
    match cs, hl with
    | [u0, u1, u2, u3, u4, u5], _ => exact ⟨_, _, _, _, _, _, rfl⟩
  obtain ⟨y0, h0⟩ := fld hf 0 3 0 1 rfl cIntN
  obtain ⟨y1, h1⟩ := fld hf 1 22 1 1 rfl cRanges
  obtain ⟨y2, h2⟩ := fld hf 2 9 2 1 rfl cStrN
  obtain ⟨y3, h3⟩ := fld hf 3 23 3 1 rfl cNodes
  obtain ⟨y4, h4⟩ := fld hf 4 3 4 1 rfl cIntN
  obtain ⟨y5, h5⟩ := fld hf 5 3 5 1 rfl cIntN
  simp only [List.drop, List.take] at h0 h1 h2 h3 h4 h5
  obtain ⟨op, e0, _, _⟩ := DataW.trod_int Tryz.underlying3 h0
  obtain ⟨rs, ra, rc, e1, hrg⟩ := open_ranges h1
  obtain ⟨nm, e2, _, hnm⟩ := DataW.trod_string Tryz.underlying9 h2
  obtain ⟨a, len, cap, e3, hlen, hr⟩ := open_row 6 Tryz.underlying23 cNode (by decide) h3
  obtain ⟨mn, e4, _, _⟩ := DataW.trod_int Tryz.underlying3 h4
  obtain ⟨mx, e5, _, _⟩ := DataW.trod_int Tryz.underlying3 h5
  simp only [List.cons.injEq, and_true] at e0 e1 e2 e3 e4 e5
  obtain ⟨kids, hkl, hk⟩ := ex_list (R := fun i t => ∃ blk off u0 u1 u2 u3 u4 u5, a = some ⟨blk, off, none⟩ ∧ blk < W.heap.size ∧ W.cell? ⟨blk, off + i * 6, none⟩ = some u0 ∧ W.cell? ⟨blk, off + i * 6 + 1, none⟩ = some u1 ∧ W.cell? ⟨blk, off + i * 6 + 2, none⟩ = some u2 ∧ W.cell? ⟨blk, off + i * 6 + 3, none⟩ = some u3 ∧ W.cell? ⟨blk, off + i * 6 + 4, none⟩ = some u4 ∧ W.cell? ⟨blk, off + i * 6 + 5, none⟩ = some u5 ∧ NAt W t (.agg #[u0, u1, u2, u3, u4, u5])) len (fun i hi => by
    obtain ⟨blk, off, es, y, m, ea, hb, hm, hes, hc, ht⟩ := hr i hi
    obtain ⟨t, v0, v1, v2, v3, v4, v5, rfl, hT⟩ := ih m (by omega) es y ht
    exact ⟨t, blk, off, _, _, _, _, _, _, ea, hb, hc 0 (by decide), hc 1 (by decide), hc 2 (by decide), hc 3 (by decide), hc 4 (by decide), hc 5 (by decide), hT⟩)
  refine ⟨.node op rs nm.data.toList kids mn mx, u0, u1, u2, u3, u4, u5, rfl, ?_⟩
  subst hkl
  rw [NAt]
  refine ⟨ra, rc, a, cap, by rw [← str_list, e0, e1, e2, e3, e4, e5], ⟨hrg, hlen, ?_⟩, fun hpos => ?_⟩
  · have h' : nm.size ≤ 9223372036854775807 := hnm
    simpa using h'
  obtain ⟨blk, off, _, _, _, _, _, _, ea, hb, _⟩ := hk 0 hpos
  refine ⟨blk, off, ea, hb, fun i hi => ?_⟩
  obtain ⟨blk', off', v0, v1, v2, v3, v4, v5, ea', _, c0, c1, c2, c3, c4, c5, hT⟩ := hk i hi
  rw [ea] at ea'
  simp only [Option.some.injEq, Addr.mk.injEq, and_true] at ea'
  obtain ⟨rfl, rfl⟩ := ea'
  exact ⟨v0, v1, v2, v3, v4, v5, c0, c1, c2, c3, c4, c5, hT⟩

set_option maxRecDepth 1000000 in
theorem open_node1 {v : Value} {d : DataW H} {p : List MemPlace} (hv : ∃ cs, v = .agg cs ∧ cs.size = Tryz.prog.cellsOf 25) (h : DataW.Trod enc Tryz.prog W base sp hd 25 v d p) : ∃ t, NAt W t v := by
  obtain ⟨cs, rfl, hcs⟩ := hv
  obtain ⟨fuel, h⟩ := h
  simp only [Value.cells] at h
  obtain ⟨t, u0, u1, u2, u3, u4, u5, e, hT⟩ := open_node fuel _ _ h
  refine ⟨t, ?_⟩
  obtain ⟨l, rfl⟩ : ∃ l : List Value, cs = l.toArray := ⟨cs.toList, by simp⟩
  simp only at e
  subst e
  exact hT
end

end Go.Proofs.YtphbkompnddflaaGreatDoor
/-
  PatternFormats' walk at the arguments as they come in: nodes out of a reading.
-/
namespace Go.Proofs.YtphbkompnddflaaGreatDoor
open Go.ChangeShapes Go.WideShapes Go.ChangeAt Go.RowKit

set_option maxRecDepth 1000000 in
theorem formats_law {H : Type} {enc : TypeId × Value → H} {W : World} {base : Nat} {args : Array Value} {ds : List (DataW H)} {p : List MemPlace}
    (hval : ∀ (j : Nat) t v, (#[25, 26] : Array TypeId)[j]? = some t → args[j]? = some v → Value.okWide Tryz.prog W .any base t v)
    (hA : DataW.TrodAll enc Tryz.prog W 0 (fun _ => true) true [25, 26] args.toList ds p) {B : Prop} (_ : B) (hL : laidMetH Tryz.prog laidFour W) :
    Calls Tryz.prog 3 args W fun e w' => e = .returned (.bool true) ∧ Below W.heap.size W w' := by
  obtain ⟨v0, vs0, d0, ds0, p0, q0, hargs, rfl, rfl, h0, r0⟩ := trodAll_cons hA
  obtain ⟨v1, vs1, d1, ds1, p1, q1, rfl, rfl, rfl, h1, r1⟩ := trodAll_cons r0
  obtain ⟨rfl, rfl, rfl⟩ := trodAll_nil r1
  obtain rfl : args = #[v0, v1] := by cases args; simp_all
  obtain ⟨t, ht⟩ := open_node1 (okWide_struct Tryz.underlying25 (hval 0 25 v0 rfl rfl)) h0
  obtain ⟨bs, hbs⟩ := open_bytes (hval 1 26 v1 rfl rfl) h1
  exact formats_any t v0 v1 bs W ht hbs.bs (kp_of_laid hL).1

end Go.Proofs.YtphbkompnddflaaGreatDoor
/-
  PatternFormats: for every input the call returns true and leaves its arguments alone; the variables that it reads are listed and tied to the program's text (the card).
-/
namespace Go.Proofs.YtphbkompnddflaaGreatDoor
open Go.ChangeShapes Go.WideShapes Go.ChangeAt Go.RowKit
namespace FormatsRow

set_option maxRecDepth 1000000 in
theorem contract (H : Type) (enc : TypeId × Value → H) (W : World) (base : Nat) (args : Array Value) (ds gs : List (DataW H)) (before : List MemPlace)
    (hval : ∀ (j : Nat) t v, Tryz.f3.params[j]? = some t → args[j]? = some v → Value.okWide Tryz.prog W .any base t v)
    (hW : DataW.Whole enc Tryz.prog Tryz.f3.params.toList Rows.patternFormatsSpec.vars false W args.toList ds gs before)
    (hbound : (DataW.weightsEach Tryz.prog (Tryz.f3.params.toList ++ (OpenSpec.ofChange Rows.patternFormatsSpec).bare.plain.varTypes Tryz.prog) (ds ++ gs)).all (· ≤ reachBytes) = true)
    (hL : laidMetH Tryz.prog Rows.patternFormatsRow.laid W) :
    Calls Tryz.prog 3 args W fun e W' => ∃ v, e = .returned v ∧ Rows.patternFormatsSpec.post enc Tryz.prog Tryz.f3 false true false false W args v W' := by
  have hW' := hW
  obtain ⟨p, q, hA, hV, rfl, _, _⟩ := hW
  obtain ⟨rfl, rfl⟩ := trodVars_none hV
  rw [List.append_nil] at hbound
  rw [Tryz.params3] at hA hval
  refine (formats_law hval hA hbound hL).mono fun e W' ⟨he, hb⟩ => ?_
  subst he
  refine ⟨_, rfl, post_true hW' rfl ?_ rfl ?_ ?_ ?_ hb⟩
  · rw [Tryz.params3]
    intro t ht
    simp only [List.mem_cons, List.not_mem_nil, or_false] at ht
    have hs : decide (25 < Tryz.prog.types.size) = true ∧ decide (26 < Tryz.prog.types.size) = true := ⟨by kernel_rfl, by kernel_rfl⟩
    obtain ⟨s0, s1⟩ := hs
    rcases ht with rfl | rfl
    · exact of_decide_eq_true s0
    · exact of_decide_eq_true s1
  all_goals
    obtain ⟨v0, vs0, d0, ds0, p0, q0, hargs, rfl, rfl, h0, r0⟩ := trodAll_cons hA
    obtain ⟨v1, vs1, d1, ds1, p1, q1, _, rfl, rfl, h1, r1⟩ := trodAll_cons r0
    obtain ⟨_, rfl, rfl⟩ := trodAll_nil r1
    rfl

theorem laid_met (os : Os) : laidMet Tryz.prog Rows.patternFormatsRow.laid ((laidWorld os).forCall (fun _ _ => 0) ⟨#[], #[.agg #[.int .i64 0, .slice none 0 0, .string ⟨#[]⟩, .slice none 0 0, .int .i64 0, .int .i64 0], .slice none 0 0], []⟩).memory :=
  laidMet_of_run' 8 (by kernel_rfl) (by kernel_rfl)
theorem reads (os : Os) {H : Type} (enc : TypeId × Value → H) : ∃ places, DataW.whole enc Tryz.prog ((laidWorld os).forCall (fun _ _ => 0) ⟨#[], #[.agg #[.int .i64 0, .slice none 0 0, .string ⟨#[]⟩, .slice none 0 0, .int .i64 0, .int .i64 0], .slice none 0 0], []⟩).memory Tryz.f3.params.toList Rows.patternFormatsSpec.vars false (#[.agg #[.int .i64 0, .slice none 0 0, .string ⟨#[]⟩, .slice none 0 0, .int .i64 0, .int .i64 0], .slice none 0 0] : Array Value).toList 8 = some ([.agg [.lit (.int .i64 0), .nil, .lit (.string []), .nil, .lit (.int .i64 0), .lit (.int .i64 0)], .nil], [], places) :=
  ⟨[], by kernel_rfl⟩

set_option maxRecDepth 100000 in
theorem lifted (os : Os) (started : os.Started) (H : Type) (enc : TypeId × Value → H) (F : Stop.Interp) :
    ReturnsInHanded {} Tryz.checked os 3 .any ((OpenSpec.ofChange Rows.patternFormatsSpec).preRow enc Tryz.prog Tryz.f3 Rows.patternFormatsRow.domain false Rows.patternFormatsRow.laid) (((OpenSpec.ofChange Rows.patternFormatsSpec).at F).post enc Tryz.prog Tryz.f3 false true false false) := by
  obtain ⟨places, hx⟩ := reads os enc
  refine returnsInHanded_of_row (C := Tryz.checked) (s := (OpenSpec.ofChange Rows.patternFormatsSpec)) own started (by kernel_rfl) Tryz.func3
    (witness_row_at (enc := enc) (C := Tryz.checked) false (laidWorld os) #[.agg #[.int .i64 0, .slice none 0 0, .string ⟨#[]⟩, .slice none 0 0, .int .i64 0, .int .i64 0], .slice none 0 0] rfl (by kernel_rfl) (by kernel_rfl) (by kernel_rfl)
      (OpenSpec.preRow_of_cond 8 hx (by kernel_rfl) (fun k hk => by cases hk) (by kernel_rfl) (laid_met os))) ?_
  intro W base args ds gs before hval hW _ _ hsz hL _ _
  exact contract H enc W base args ds gs before hval hW hsz hL

theorem said : Rows.PatternFormatsSaid :=
  OpenClaim.holds_of_cond 3 Tryz.f3 rfl rfl rfl rfl rfl rfl rfl ⟨rfl, rfl, rfl, rfl, rfl⟩ rfl rfl rfl rfl rfl (by kernel_rfl) Tryz.func3 (by kernel_rfl)
    (of_decide_eq_true (by kernel_rfl)) (by unfold Func.isWrapper; first | (rw [if_pos (by decide +kernel)]; kernel_rfl) | (rw [if_neg (by decide +kernel)]; exact ⟨rfl, rfl⟩))
    (fun os started H enc _ F => by rw [OpenClaim.pre_eq_preRow]; exact lifted os started H enc F)

theorem plain (f : FuncId) (fn : Func) (hf : Tryz.pinned.checked.prog.funcNamed "logtide/logtidelaw02.PatternFormats" = some f) (hfn : Tryz.pinned.checked.prog.funcs[f]? = some fn) :
    false = Tryz.pinned.checked.prog.looks [] ∧ ∀ (j : Nat) t, fn.params[j]? = some t → Tryz.pinned.checked.prog.wantsStandIn t = false := by
  obtain rfl : f = 3 := Option.some.inj ((show Tryz.prog.funcNamed "logtide/logtidelaw02.PatternFormats" = some 3 by kernel_rfl).symm.trans hf) |>.symm
  obtain rfl : fn = Tryz.f3 := (Option.some.inj (Tryz.func3.symm.trans hfn)).symm
  refine ⟨by kernel_rfl, fun j t ht => ?_⟩
  rw [Tryz.params3] at ht
  have hm := Array.mem_of_getElem? ht
  simp only [List.mem_toArray, List.mem_cons, List.not_mem_nil, or_false] at hm
  rcases hm with rfl | rfl
  · exact (show Tryz.prog.wantsStandIn 25 = false by kernel_rfl)
  · exact (show Tryz.prog.wantsStandIn 26 = false by kernel_rfl)

end FormatsRow

/-- THE CARD. -/
theorem formats_card : Rows.PatternFormatsCardSaid :=
  Claim7.holds_tied_plain_at .later [] _ _ _ _ FormatsRow.said (fun _ h => by cases h) (by kernel_rfl) (fun _ h => by cases h) patternFormats_row_tie rfl ⟨rfl, rfl⟩ (by kernel_rfl) rfl FormatsRow.plain (by kernel_rfl)

#print axioms formats_card
end Go.Proofs.YtphbkompnddflaaGreatDoor

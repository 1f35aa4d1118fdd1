/-
 Joined: PatM, PatN, PatO, PatP, Facts, PatR, PatQ.
-/
import Derived.Test.YtgcpinnnfoanjaaGreatDoorRdZe
import Derived.BigQuiet
import Derived.Deep.DeepCutAuto
import Derived.Deep.RegionHeld3
import Derived.Orders
import Derived.RegionTactic
import Derived.Laws.IdiomStrings
import Derived.Deep.RegionLaw
namespace Go.Proofs.YtgcpinnnfoanjaaGreatDoor
open Go.RowKit
def Dup (fs : List (List UInt8)) : Prop := ∃ i, ∃ h : i < fs.length, fs[i] ∈ fs.take i
open Classical in
noncomputable def ckE (t : NT) : Nat := if (ckN t 0 0 []).2.2 ≠ 0 then (ckN t 0 0 []).2.2 else if Dup (ckN t 0 0 []).2.1 then 7 else if 16 < (ckN t 0 0 []).2.1.length then 4 else 0
theorem ckE_of {t : NT} {c e : Nat} {ns : List (List UInt8)} (h : ckN t 0 0 [] = (c, ns, e)) : (e ≠ 0 → ckE t = e) ∧ (e = 0 → Dup ns → ckE t = 7) ∧ (e = 0 → ¬ Dup ns → 16 < ns.length → ckE t = 4) ∧ (e = 0 → ¬ Dup ns → ¬ 16 < ns.length → ckE t = 0) := by
 unfold ckE
 rw [h]
 refine ⟨fun h0 => if_pos h0, fun h0 h1 => ?_, fun h0 h1 h2 => ?_, fun h0 h1 h2 => ?_⟩
 ·rw [if_neg (by simpa using h0), if_pos h1]
 ·rw [if_neg (by simpa using h0), if_neg h1, if_pos h2]
 ·rw [if_neg (by simpa using h0), if_neg h1, if_neg h2]
theorem own_row {w : World} {B : Nat} {v : Value} {fs : List (List UInt8)} (h : w.ownsRow B 9 1 v fs.length (strCellsL fs)) (h0 : 0 < fs.length) :
  ∃ g cap, v = .slice (some ⟨g, 0, none⟩) fs.length cap ∧ fs.length ≤ cap ∧ cap ≤ 9223372036854775807 ∧ g < w.heap.size ∧ ∀ i (hi : i < fs.length), w.cell? ⟨g, i, none⟩ = some (.string ⟨(fs[i]).toArray⟩) := by
 have hss := ss_own h
 obtain ⟨hl, ⟨rfl, h1⟩ | ⟨g, cap, cur, rfl, _, hg, hn, hcm, hsz, htk⟩⟩ := h
 ·omega
 ·obtain ⟨a', cap', e, hc⟩ := hss
  injection e with e1 e2 e3
  subst e1 e3
  obtain ⟨g', e, hl', hc'⟩ := hc h0
  simp only [Option.some.injEq, Addr.mk.injEq, and_true] at e
  subst e
  exact ⟨g, cap, rfl, hn, hcm, hl', hc'⟩
theorem take_not {fs : List (List UInt8)} {k : Nat} {x : List UInt8} (hk : k < fs.length) (h : x ∉ fs.take k) (hx : x ≠ fs[k]) : x ∉ fs.take (k + 1) := by
 rw [Asc.snoc_take fs k hk]
 simp only [List.mem_append, List.mem_cons, List.not_mem_nil, or_false, not_or]
 exact ⟨h, hx⟩
theorem take_yes {fs : List (List UInt8)} {k n : Nat} (hk : k < fs.length) (hn : k < n) : fs[k] ∈ fs.take n := by
 rw [List.mem_take_iff_getElem]
 exact ⟨k, by omega, rfl⟩
set_option maxRecDepth 100000 in
set_option maxHeartbeats 2000000 in
theorem sindex_any (x : List UInt8) (fs : List (List UInt8)) (i g cap : Nat) (w : World) (hi : i ≤ fs.length) (hl : fs.length ≤ 1000) (hc : ∀ j (h : j < fs.length), w.cell? ⟨g, j, none⟩ = some (.string ⟨(fs[j]).toArray⟩)) :
  Calls Tryz.prog 92 #[.slice (some ⟨g, 0, none⟩) i cap, .string ⟨x.toArray⟩] w fun e w' => (∃ n : Int, e = .returned (.int .i64 n) ∧ (0 ≤ n ↔ x ∈ fs.take i)) ∧ w = w' := by
 have HC := Lib.hid hc
 clear hc
 go_enter Tryz.func92, Tryz.ntmps92
 go_wp2_with fail
 go_loop [8] (fun q => ∃ k : Nat, k ≤ i ∧ q = .int .i64 k ∧ Hid (x ∉ fs.take k)) (fun q => i - (intOf q).toNat)
 case atStart => exact ⟨0, by omega, rfl, Lib.hid (by simp)⟩
 case round =>
  obtain ⟨k, hki, rfl, HNO⟩ := hrel
  by_cases hlt : k < i
  ·have hcell := HC.out k (by omega)
   have i1 : (k : Int) < (i : Int) := by omega
   have i2 : (0 : Int) ≤ (k : Int) := by omega
   have HY := Lib.hid (take_yes (fs := fs) (k := k) (n := i) (by omega) hlt)
   have hkf : k < fs.length := by omega
   have HN : Hid (x ≠ fs[k] → x ∉ fs.take (k + 1)) := Lib.hid (fun hx => take_not hkf HNO.out hx)
   generalize fs[k] = y at *
   by_cases he : x = y
   ·subst he
    go_wp2_with fail
    go_ret
    exact ⟨⟨k, rfl, iff_of_true (by omega) HY.out⟩, rfl⟩
   ·have b1 : (x == y) = false := beq_eq_false_iff_ne.2 he
    have HN2 := Lib.hid (HN.out he)
    clear he HN HY
    go_wp2_with fail
    go_round
    case rel => exact ⟨k + 1, by omega, by go_num, HN2⟩
    case measure => simp [intOf]; omega
  ·obtain rfl : k = i := by omega
   go_wp2_with fail
   go_ret
   exact ⟨⟨-1, rfl, iff_of_false (by omega) HNO.out⟩, rfl⟩
theorem scontains_any (x : List UInt8) (fs : List (List UInt8)) (i g cap : Nat) (w : World) (hi : i ≤ fs.length) (hl : fs.length ≤ 1000) (hc : ∀ j (h : j < fs.length), w.cell? ⟨g, j, none⟩ = some (.string ⟨(fs[j]).toArray⟩)) (b : Bool) (hb : b = true ↔ x ∈ fs.take i) :
  Calls Tryz.prog 77 #[.slice (some ⟨g, 0, none⟩) i cap, .string ⟨x.toArray⟩] w fun e w' => e = .returned (.bool b) ∧ w = w' := by
 have HI := Lib.hid (sindex_any x fs i g cap w hi hl hc)
 have HB := Lib.hid hb
 clear hc hb
 go_enter Tryz.func77, Tryz.ntmps77
 go_wp2_with fail
 refine HI.out.mono ?_
 rintro e w' ⟨⟨n, rfl, hn⟩, rfl⟩
 have HN := Lib.hid hn
 clear hn
 go_wp2_with fail
 go_ret
 refine ⟨ret_bool ?_, rfl⟩
 rw [Bool.eq_iff_iff, HB.out, ← HN.out]
 simp
theorem ck_new (w : World) : CK w.heap.size 0 [] (.slice none 0 0) (w.alloc (.cells #[.int .i64 0, .slice none 0 0] 126)) :=
 ⟨by simp, by simp [go_sem], by simp [go_sem], by simp [go_sem], by simp [go_sem], World.ownsRow_nil _ _ _ _⟩
set_option maxRecDepth 100000 in
set_option maxHeartbeats 4000000 in
theorem check_any (t : NT) (v : Value) (w : World) (h : NAt w t v) (hk : Kinds w) :
  Calls Tryz.prog 57 #[v] w fun e w' => e = .returned (.int .i64 (ckE t)) ∧ Below w.heap.size w w' := by
 obtain ⟨op, rs, nm, kids, mn, mx, ra, rc, a, cp, ht, rfl, _⟩ := h.open
 have hb1 := (Below.refl _ w).alloc (Nat.le_refl _) (.cells #[.int .i64 op, .slice ra rs.length rc, .string ⟨nm.toArray⟩, .slice a kids.length cp, .int .i64 mn, .int .i64 mx] 38)
 have HB0 := Lib.hid (hb1.alloc hb1.size (.cells #[.int .i64 0, .slice none 0 0] 126))
 have HCK : Hid (CK (w.heap.size + 1) 0 [] (.slice none 0 0) ((w.alloc (.cells #[.int .i64 op, .slice ra rs.length rc, .string ⟨nm.toArray⟩, .slice a kids.length cp, .int .i64 mn, .int .i64 mx] 38)).alloc (.cells #[.int .i64 0, .slice none 0 0] 126))) := Lib.hid (by
  have := ck_new (w.alloc (.cells #[.int .i64 op, .slice ra rs.length rc, .string ⟨nm.toArray⟩, .slice a kids.length cp, .int .i64 mn, .int .i64 mx] 38))
  simpa using this)
 have HI := Lib.hid (check_aux _ t _ w _ (w.heap.size + 1) 0 0 [] (.slice none 0 0) (Nat.lt_succ_self _) h hk HB0.out (by omega) HCK.out (by omega) (by simp) (by omega))
 have hok := ckN_ok _ t 0 0 [] (Nat.lt_succ_self _) (by omega) (by simp)
 obtain ⟨r, hr⟩ : ∃ r, ckN t 0 0 [] = r := ⟨_, rfl⟩
 rw [hr] at HI hok
 obtain ⟨c, ns, e⟩ := r
 have HE := Lib.hid (ckE_of hr)
 have HOK := Lib.hid hok
 obtain ⟨Z, hZ⟩ : ∃ Z, ckE t = Z := ⟨_, rfl⟩
 rw [hZ] at HE ⊢
 clear h hk hb1 hr hok hZ ht
 go_enter Tryz.func57, Tryz.ntmps57
 go_wp2_with fail
 refine HI.out.mono ?_
 rintro q w2 ⟨v2, rfl, hck, hcf, hb⟩
 have HCK2 := Lib.hid hck
 have HB2 := Lib.hid hb
 clear hck hcf hb HI
 have p1 := HCK2.out.c1
 have hlen : ns.length ≤ 401 := Nat.le_trans HOK.out.2.1 HOK.out.1
 by_cases e0 : e = 0
 ·have HE2 : Hid ((Dup ns → Z = 7) ∧ (¬ Dup ns → 16 < ns.length → Z = 4) ∧ (¬ Dup ns → ¬ 16 < ns.length → Z = 0)) := Lib.hid ⟨HE.out.2.1 e0, HE.out.2.2.1 e0, HE.out.2.2.2 e0⟩
  subst e0
  rcases Nat.eq_zero_or_pos ns.length with l0 | l0
  ·have hns : ns = [] := List.length_eq_zero_iff.1 l0
   subst hns
   have hv : v2 = .slice none 0 0 ∨ ∃ g cap, v2 = .slice (some ⟨g, 0, none⟩) 0 cap := by
    rcases HCK2.out.row.2 with ⟨h1, _⟩ | ⟨g, cap, cur, h1, _⟩
    ·exact .inl h1
    ·exact .inr ⟨g, cap, h1⟩
   have HZ : Hid (Z = 0) := Lib.hid (HE2.out.2.2 (fun ⟨i, h, _⟩ => by simp at h) (by simp))
   rcases hv with rfl | ⟨g, cap, rfl⟩
   all_goals
    go_wp2_with fail
    go_loop [20] (fun q => q = .int .i64 0) (fun _ => 0)
    case atStart => rfl
    case round =>
     obtain rfl := hrel
     go_wp2_with fail
     go_ret
     exact ⟨ret_int (by rw [HZ.out]; rfl), HB2.out⟩
  ·obtain ⟨g, cap, rfl, hcap, hcm, hgl, hcell⟩ := own_row HCK2.out.row l0
   have HC := Lib.hid hcell
   clear hcell
   go_wp2_with fail
   go_loop [20] (fun q => ∃ k : Nat, k ≤ ns.length ∧ q = .int .i64 k ∧ Hid (∀ i (h : i < ns.length), i < k → ns[i] ∉ ns.take i)) (fun q => ns.length - (intOf q).toNat)
   case atStart => exact ⟨0, by omega, rfl, Lib.hid (fun _ _ _ => by omega)⟩
   case round =>
    obtain ⟨k, hkl, rfl, HNO⟩ := hrel
    by_cases hlt : k < ns.length
    ·have hcell := HC.out k hlt
     have i1 : (k : Int) < (ns.length : Int) := by omega
     have i2 : (0 : Int) ≤ (k : Int) := by omega
     have i3 : (k : Int) ≤ (cap : Int) := by omega
     by_cases hm : ns[k] ∈ ns.take k
     ·have HCO := Lib.hid (scontains_any ns[k] ns k g cap w2 hkl (by omega) HC.out true (iff_of_true rfl hm))
      have HZ : Hid (Z = 7) := Lib.hid (HE2.out.1 ⟨k, hlt, hm⟩)
      clear hm
      generalize ns[k] = y at *
      go_wp2_with fail
      refine HCO.out.mono ?_
      rintro q w3 ⟨rfl, rfl⟩
      go_wp2_with fail
      go_ret
      exact ⟨ret_int (by rw [HZ.out]; rfl), HB2.out⟩
     ·have HCO := Lib.hid (scontains_any ns[k] ns k g cap w2 hkl (by omega) HC.out false (iff_of_false (by decide) hm))
      have HN2 : Hid (∀ i (h : i < ns.length), i < k + 1 → ns[i] ∉ ns.take i) := Lib.hid (fun i h h2 => by
       by_cases e : i = k
       ·subst e; exact hm
       ·exact HNO.out i h (by omega))
      clear hm
      generalize ns[k] = y at *
      go_wp2_with fail
      refine HCO.out.mono ?_
      rintro q w3 ⟨rfl, rfl⟩
      go_wp2_with fail
      go_round
      case rel => exact ⟨k + 1, by omega, by go_num, HN2⟩
      case measure => simp [intOf]; omega
    ·obtain rfl : k = ns.length := by omega
     have HND : Hid (¬ Dup ns) := Lib.hid (fun ⟨i, h, hm⟩ => HNO.out i h h hm)
     by_cases h16 : 16 < ns.length
     ·have z1 : decide ((16 : Int) < (ns.length : Int)) = true := decide_eq_true (by omega)
      have HZ : Hid (Z = 4) := Lib.hid (HE2.out.2.1 HND.out h16)
      go_wp2_with fail
      go_ret
      exact ⟨ret_int (by rw [HZ.out]; rfl), HB2.out⟩
     ·have z1 : decide ((16 : Int) < (ns.length : Int)) = false := decide_eq_false (by omega)
      have HZ : Hid (Z = 0) := Lib.hid (HE2.out.2.2 HND.out h16)
      go_wp2_with fail
      go_ret
      exact ⟨ret_int (by rw [HZ.out]; rfl), HB2.out⟩
 ·have HZ : Hid (Z = e) := Lib.hid (HE.out.1 e0)
  have y1 : ((e : Int) != 0) = true := by rw [bne_iff_ne]; omega
  go_wp2_with fail
  go_ret
  exact ⟨ret_int (by rw [HZ.out]), HB2.out⟩
end Go.Proofs.YtgcpinnnfoanjaaGreatDoor
namespace Go.Proofs.YtgcpinnnfoanjaaGreatDoor
open Go.RowKit
end Go.Proofs.YtgcpinnnfoanjaaGreatDoor
namespace Go.Proofs.YtgcpinnnfoanjaaGreatDoor
open Go.RowKit
def RgR (x : UInt8 × UInt8) (us : List Value) : Prop := us = [.int .u8 (x.1.toNat : Int), .int .u8 (x.2.toNat : Int)]
theorem RW.rg {F : Nat → Prop} {w : World} {rs : List (UInt8 × UInt8)} {v : Value} (h : RW F 2 RgR w rs v) : RgAt w rs v := by
 obtain ⟨a, c, e, hm, hk⟩ := h
 refine ⟨a, c, e, Nat.le_trans hm.1 (by decide), fun i hi => ?_⟩
 obtain ⟨blk, off, e1, hl, _, hc⟩ := hk (by omega)
 obtain ⟨us, hu, hcell, hr⟩ := hc i hi
 unfold RgR at hr
 subst hr
 exact ⟨blk, off, e1, hl, hcell 0 (by decide), hcell 1 (by decide)⟩
def NG (F : Nat → Prop) (w : World) : NT → Value → Prop
 | .node op rs nm kids mn mx, v => ∃ ra rc a c, v = .agg #[.int .i64 op, .slice ra rs.length rc, .string ⟨nm.toArray⟩, .slice a kids.length c, .int .i64 mn, .int .i64 mx] ∧ (RW F 2 RgR w rs (.slice ra rs.length rc) ∧ nm.length ≤ 1000 ∧ kids.length ≤ 1000000 ∧ (a = none → c = 0)) ∧
  (0 < kids.length → ∃ blk off, a = some ⟨blk, off, none⟩ ∧ blk < w.heap.size ∧ F blk ∧ ∀ i (h : i < kids.length), ∃ u0 u1 u2 u3 u4 u5,
   w.cell? ⟨blk, off + i * 6, none⟩ = some u0 ∧ w.cell? ⟨blk, off + i * 6 + 1, none⟩ = some u1 ∧ w.cell? ⟨blk, off + i * 6 + 2, none⟩ = some u2 ∧ w.cell? ⟨blk, off + i * 6 + 3, none⟩ = some u3 ∧ w.cell? ⟨blk, off + i * 6 + 4, none⟩ = some u4 ∧ w.cell? ⟨blk, off + i * 6 + 5, none⟩ = some u5 ∧
   NG F w kids[i] (.agg #[u0, u1, u2, u3, u4, u5]))
termination_by t => SizeOf.sizeOf t
decreasing_by
 have := List.sizeOf_lt_of_mem (List.getElem_mem h)
 simp
 omega
theorem NG.go {F F' : Nat → Prop} {w w' : World} (hs : Stay F F' w w') : ∀ (t : NT) (v : Value), NG F w t v → NG F' w' t v
 | .node op rs nm kids mn mx, v, h => by
  rw [NG] at h ⊢
  obtain ⟨ra, rc, a, c, e, hm, hk⟩ := h
  refine ⟨ra, rc, a, c, e, ⟨hm.1.go hs (fun _ _ h => h), hm.2⟩, fun h0 => ?_⟩
  obtain ⟨blk, off, e1, hl, hF, hc⟩ := hk h0
  refine ⟨blk, off, e1, Nat.lt_of_lt_of_le hl hs.1, (hs.2 _ hF hl).1, fun i hi => ?_⟩
  obtain ⟨u0, u1, u2, u3, u4, u5, c0, c1, c2, c3, c4, c5, ht⟩ := hc i hi
  exact ⟨u0, u1, u2, u3, u4, u5, (hs.cell (p := ⟨blk, off + i * 6, none⟩) hF hl).trans c0, (hs.cell (p := ⟨blk, off + i * 6 + 1, none⟩) hF hl).trans c1, (hs.cell (p := ⟨blk, off + i * 6 + 2, none⟩) hF hl).trans c2, (hs.cell (p := ⟨blk, off + i * 6 + 3, none⟩) hF hl).trans c3, (hs.cell (p := ⟨blk, off + i * 6 + 4, none⟩) hF hl).trans c4, (hs.cell (p := ⟨blk, off + i * 6 + 5, none⟩) hF hl).trans c5, NG.go hs kids[i] _ ht⟩
termination_by t => SizeOf.sizeOf t
decreasing_by
 have := List.sizeOf_lt_of_mem (List.getElem_mem hi)
 simp
 omega
theorem NG.at {F : Nat → Prop} {w : World} : ∀ (t : NT) (v : Value), NG F w t v → NAt w t v
 | .node op rs nm kids mn mx, v, h => by
  rw [NG] at h
  rw [NAt]
  obtain ⟨ra, rc, a, c, e, hm, hk⟩ := h
  refine ⟨ra, rc, a, c, e, ⟨hm.1.rg, Nat.le_trans hm.2.2.1 (by decide), Nat.le_trans hm.2.1 (by decide)⟩, fun h0 => ?_⟩
  obtain ⟨blk, off, e1, hl, hF, hc⟩ := hk h0
  refine ⟨blk, off, e1, hl, fun i hi => ?_⟩
  obtain ⟨u0, u1, u2, u3, u4, u5, c0, c1, c2, c3, c4, c5, ht⟩ := hc i hi
  exact ⟨u0, u1, u2, u3, u4, u5, c0, c1, c2, c3, c4, c5, NG.at kids[i] _ ht⟩
termination_by t => SizeOf.sizeOf t
decreasing_by
 have := List.sizeOf_lt_of_mem (List.getElem_mem hi)
 simp
 omega
def KR (F : Nat → Prop) (w : World) (t : NT) (us : List Value) : Prop := NG F w t (.agg us.toArray)
theorem KR.go {F F' : Nat → Prop} {w w' : World} (hs : Stay F F' w w') (t : NT) (us : List Value) (h : KR F w t us) : KR F' w' t us := NG.go hs _ _ h
theorem NG.node {F : Nat → Prop} {w : World} {rs : List (UInt8 × UInt8)} {ra : Option Addr} {rn rc : Nat} (hr : RW F 2 RgR w rs (.slice ra rn rc)) {kids : List NT} {a : Option Addr} {n c : Nat} (h : RW F 6 (KR F w) w kids (.slice a n c)) (op : Int) (nm : List UInt8) (mn mx : Int) (hnm : nm.length ≤ 1000) :
  NG F w (.node op rs nm kids mn mx) (.agg #[.int .i64 op, .slice ra rn rc, .string ⟨nm.toArray⟩, .slice a n c, .int .i64 mn, .int .i64 mx]) := by
 have hr0 := hr
 obtain ⟨ra', rc', e, _, _⟩ := hr0
 injection e with e1 e2 e3
 subst e1 e2 e3
 obtain ⟨a', c', e, hm, hk⟩ := h
 injection e with e1 e2 e3
 subst e1 e2 e3
 rw [NG]
 refine ⟨ra, rc, a, c, rfl, ⟨hr, hnm, hm.1, hm.2⟩, fun h0 => ?_⟩
 obtain ⟨blk, off, e1, hl, hF, hc⟩ := hk h0
 refine ⟨blk, off, e1, hl, hF, fun i hi => ?_⟩
 obtain ⟨us, hu, hcell, hr⟩ := hc i hi
 match us, hu with
 | [u0, u1, u2, u3, u4, u5], _ => exact ⟨u0, u1, u2, u3, u4, u5, hcell 0 (by decide), hcell 1 (by decide), hcell 2 (by decide), hcell 3 (by decide), hcell 4 (by decide), hcell 5 (by decide), hr⟩
theorem NG.open {F : Nat → Prop} {w : World} {t : NT} {v : Value} (h : NG F w t v) : ∃ op rs nm kids mn mx ra rc a c, t = .node op rs nm kids mn mx ∧ v = .agg #[.int .i64 op, .slice ra rs.length rc, .string ⟨(nm : List UInt8).toArray⟩, .slice a kids.length c, .int .i64 mn, .int .i64 mx] ∧ nm.length ≤ 1000 ∧
  RW F 2 RgR w rs (.slice ra rs.length rc) ∧ RW F 6 (KR F w) w kids (.slice a kids.length c) := by
 obtain ⟨op, rs, nm, kids, mn, mx⟩ := t
 rw [NG] at h
 obtain ⟨ra, rc, a, c, e, hm, hk⟩ := h
 refine ⟨op, rs, nm, kids, mn, mx, ra, rc, a, c, rfl, e, hm.2.1, hm.1, a, c, rfl, hm.2.2, fun h0 => ?_⟩
 obtain ⟨blk, off, e1, hl, hF, hc⟩ := hk h0
 refine ⟨blk, off, e1, hl, hF, fun i hi => ?_⟩
 obtain ⟨u0, u1, u2, u3, u4, u5, c0, c1, c2, c3, c4, c5, ht⟩ := hc i hi
 refine ⟨[u0, u1, u2, u3, u4, u5], rfl, fun j hj => ?_, ht⟩
 match j, hj with
 | 0, _ => exact c0
 | 1, _ => exact c1
 | 2, _ => exact c2
 | 3, _ => exact c3
 | 4, _ => exact c4
 | 5, _ => exact c5
def Sm (N : Nat) : NT → Prop
 | .node _ rs _ ks _ _ => rs.length ≤ N ∧ ks.length ≤ N ∧ ∀ i (h : i < ks.length), Sm N ks[i]
termination_by t => SizeOf.sizeOf t
decreasing_by
 have := List.sizeOf_lt_of_mem (List.getElem_mem h)
 simp
 omega
theorem Sm.node {N : Nat} {op : Int} {rs : List (UInt8 × UInt8)} {nm : List UInt8} {ks : List NT} {mn mx : Int} (h1 : rs.length ≤ N) (h2 : ks.length ≤ N) (h3 : ∀ k ∈ ks, Sm N k) : Sm N (.node op rs nm ks mn mx) := by
 rw [Sm]
 exact ⟨h1, h2, fun i h => h3 _ (List.getElem_mem h)⟩
theorem Sm.open {N : Nat} {op : Int} {rs : List (UInt8 × UInt8)} {nm : List UInt8} {ks : List NT} {mn mx : Int} (h : Sm N (.node op rs nm ks mn mx)) : rs.length ≤ N ∧ ks.length ≤ N ∧ ∀ k ∈ ks, Sm N k := by
 rw [Sm] at h
 refine ⟨h.1, h.2.1, fun k hk => ?_⟩
 obtain ⟨i, hi, rfl⟩ := List.getElem_of_mem hk
 exact h.2.2 i hi
theorem Sm.mono {N M : Nat} (hNM : N ≤ M) : ∀ t : NT, Sm N t → Sm M t
 | .node op rs nm ks mn mx, h => by
  rw [Sm] at h ⊢
  exact ⟨Nat.le_trans h.1 hNM, Nat.le_trans h.2.1 hNM, fun i hi => Sm.mono hNM ks[i] (h.2.2 i hi)⟩
termination_by t => SizeOf.sizeOf t
decreasing_by
 have := List.sizeOf_lt_of_mem (List.getElem_mem hi)
 simp
 omega
structure NS (g : Nat) (w W : World) : Prop where
 gd : GD g w W
 bk : BK w.heap.size 6 (nE 0 none 0 0 [] none 0 0 0 0) W
theorem NS.go {g : Nat} {w W W' : World} (h : NS g w W) (ha : Apart g W W') (hc : CodesAt W' g) : NS g w W' := ⟨h.gd.go ha hc, h.bk.go ha (Nat.ne_of_gt h.gd.hg)⟩
theorem NS.al {g : Nat} {w W : World} (h : NS g w W) (o : Obj) : NS g w (W.alloc o) := ⟨h.gd.al o, h.bk.al o⟩
theorem NS.dr {g : Nat} {w W : World} (h : NS g w W) : NS g w W.drew := ⟨h.gd.dr, h.bk.dr⟩
theorem NS.lt {g : Nat} {w W : World} (h : NS g w W) : w.heap.size < W.heap.size := h.bk.lt
theorem NS.set {g : Nat} {w W : World} (h : NS g w W) {b : Nat} (hb : w.heap.size < b) (i : Nat) (v : Value) : NS g w (W.setCell ⟨b, i, none⟩ v) := ⟨h.gd.set (Nat.le_of_lt hb) i v, h.bk.other (Nat.ne_of_lt hb) i v⟩
theorem bk6 {b : Nat} {E : Nat → Value} {W : World} (h : BK b 6 E W) : W.cell? ⟨b, 0, none⟩ = some (E 0) ∧ W.cell? ⟨b, 1, none⟩ = some (E 1) ∧ W.cell? ⟨b, 2, none⟩ = some (E 2) ∧ W.cell? ⟨b, 3, none⟩ = some (E 3) ∧ W.cell? ⟨b, 4, none⟩ = some (E 4) ∧ W.cell? ⟨b, 5, none⟩ = some (E 5) ∧
  W.frozen? ⟨b, 0, none⟩ = false ∧ W.frozen? ⟨b, 1, none⟩ = false ∧ W.frozen? ⟨b, 2, none⟩ = false ∧ W.frozen? ⟨b, 3, none⟩ = false ∧ W.frozen? ⟨b, 4, none⟩ = false ∧ W.frozen? ⟨b, 5, none⟩ = false :=
 ⟨h.ev 0 (by omega), h.ev 1 (by omega), h.ev 2 (by omega), h.ev 3 (by omega), h.ev 4 (by omega), h.ev 5 (by omega), h.fz 0, h.fz 1, h.fz 2, h.fz 3, h.fz 4, h.fz 5⟩
theorem nE_new (W : World) (op : Int) (ra : Option Addr) (rn rc : Nat) (nm : List UInt8) (a : Option Addr) (n cp : Nat) (mn mx : Int) : BK W.heap.size 6 (nE op ra rn rc nm a n cp mn mx) (W.alloc (.cells #[.int .i64 op, .slice ra rn rc, .string ⟨nm.toArray⟩, .slice a n cp, .int .i64 mn, .int .i64 mx] 38)) :=
 BK.new W _ _ _ 6 (fun i hi => by
  match i, hi with
  | 0, _ => rfl
  | 1, _ => rfl
  | 2, _ => rfl
  | 3, _ => rfl
  | 4, _ => rfl
  | 5, _ => rfl)
theorem NS.start {g : Nat} {w : World} (hc : CodesAt w g) : NS g w (w.alloc (.cells #[.int .i64 0, .slice none 0 0, .string ⟨#[]⟩, .slice none 0 0, .int .i64 0, .int .i64 0] 38)) := ⟨(GD.start hc).al _, nE_new w 0 none 0 0 [] none 0 0 0 0⟩
theorem nest6 (W : World) {b : Nat} {v0 v1 v2 v3 v4 v5 : Value} : ((((((W.setCell ⟨b, 0, none⟩ v0).setCell ⟨b, 1, none⟩ v1).setCell ⟨b, 2, none⟩ v2).setCell ⟨b, 3, none⟩ v3).setCell ⟨b, 4, none⟩ v4).setCell ⟨b, 5, none⟩ v5) = setL W b [v0, v1, v2, v3, v4, v5] 0 := rfl
end Go.Proofs.YtgcpinnnfoanjaaGreatDoor
namespace Go.Proofs.YtgcpinnnfoanjaaGreatDoor
open Go.RowKit
end Go.Proofs.YtgcpinnnfoanjaaGreatDoor
namespace Go.Proofs.YtgcpinnnfoanjaaGreatDoor
open Go
def unl (l : Array Bool) : Nat → Nat
 | 0 => 0
 | n + 1 => unl l n + if l.getD n true then 0 else 1
theorem unl_le (l : Array Bool) : ∀ n, unl l n ≤ n
 | 0 => Nat.le_refl _
 | n + 1 => by
  have := unl_le l n
  unfold unl
  split <;> omega
theorem getD_set (l : Array Bool) (i k : Nat) (d : Bool) : (l.setIfInBounds i true).getD k d = if i = k ∧ k < l.size then true else l.getD k d := by
 simp only [Array.getD_eq_getD_getElem?, Array.getElem?_setIfInBounds]
 by_cases h : i = k
 ·subst h
  by_cases h2 : i < l.size <;> simp [h2]
 ·simp [h]
theorem getD_lt {l : Array Bool} {i : Nat} (h : l.getD i true = false) : i < l.size := by
 rcases Nat.lt_or_ge i l.size with c | c
 ·exact c
 ·simp [Array.getD_eq_getD_getElem?, Array.getElem?_eq_none c] at h
theorem getD_two {l : Array Bool} {i : Nat} (h : i < l.size) (d d' : Bool) : l.getD i d = l.getD i d' := by
 simp [Array.getD_eq_getD_getElem?, Array.getElem?_eq_getElem h]
theorem unl_past (l : Array Bool) (i : Nat) : ∀ n, n ≤ i → unl (l.setIfInBounds i true) n = unl l n
 | 0, _ => rfl
 | n + 1, h => by
  have e : (l.setIfInBounds i true).getD n true = l.getD n true := by rw [getD_set, if_neg (by omega)]
  rw [unl, unl, unl_past l i n (by omega), e]
theorem unl_set (l : Array Bool) (i : Nat) (hi : l.getD i true = false) : ∀ n, i < n → unl (l.setIfInBounds i true) n + 1 = unl l n
 | 0, h => by omega
 | n + 1, h => by
  rw [unl, unl]
  by_cases e : i = n
  ·subst e
   have e2 : (l.setIfInBounds i true).getD i true = true := by rw [getD_set, if_pos ⟨rfl, getD_lt hi⟩]
   rw [unl_past l i i (Nat.le_refl _), e2, hi]
   simp
  ·have e2 : (l.setIfInBounds i true).getD n true = l.getD n true := by rw [getD_set, if_neg (fun c => e c.1)]
   have := unl_set l i hi n (by omega)
   rw [e2]
   omega
theorem unl_zero (l : Array Bool) : ∀ n, unl l n = 0 → ∀ i, i < n → l.getD i true = true
 | 0, _, i, h => by omega
 | n + 1, h0, i, h => by
  rw [unl] at h0
  by_cases e : i = n
  ·subst e
   cases hl : l.getD i true with
   | true => rfl
   | false => rw [hl] at h0; simp at h0
  ·exact unl_zero l n (by omega) i (by omega)
section
variable {P : Program} {ops : Array Oper} {Q : Exit → Act → World → Prop}
theorem ready_mem {md : Region.Mode} {listed : Array Bool} {i : Nat} (h : i ∈ Region.ready md ops listed) :
  i < ops.size ∧ listed.getD i true = false ∧ ∀ o, ops[i]? = some o → ∀ e ∈ o.after, Region.binds md e = true → listed.getD e.on false = true := by
 unfold Region.ready at h
 rw [List.mem_filter, List.mem_range] at h
 obtain ⟨h1, h2⟩ := h
 rw [Bool.and_eq_true, Bool.not_eq_true'] at h2
 refine ⟨h1, h2.1, fun o ho e he hb => ?_⟩
 have h3 := h2.2
 rw [ho] at h3
 simp only [Option.map_some, Option.getD_some, Array.all_eq_true_iff_forall_mem] at h3
 have := h3 e he
 rw [hb] at this
 simpa using this
theorem ready_of {md : Region.Mode} {listed : Array Bool} {i : Nat} {o : Oper} (ho : ops[i]? = some o) (h2 : listed.getD i true = false) (h3 : ∀ e ∈ o.after, Region.binds md e = true → listed.getD e.on false = true) : i ∈ Region.ready md ops listed := by
 unfold Region.ready
 rw [List.mem_filter, List.mem_range]
 refine ⟨(Array.getElem?_eq_some_iff.1 ho).1, ?_⟩
 rw [Bool.and_eq_true, Bool.not_eq_true']
 refine ⟨h2, ?_⟩
 rw [ho]
 simp only [Option.map_some, Option.getD_some, Array.all_eq_true_iff_forall_mem]
 intro e he
 cases hb : Region.binds md e with
 | false => rfl
 | true => simpa using h3 e he hb
def edgesBack (ops : Array Oper) : Bool := (List.range ops.size).all fun i => ((ops[i]?).map (·.after.all fun e => decide (e.on < i))).getD true
theorem edges_back (h : edgesBack ops = true) {i : Nat} {o : Oper} (ho : ops[i]? = some o) (e : Edge) (he : e ∈ o.after) : e.on < i := by
 unfold edgesBack at h
 have := List.all_eq_true.1 h i (List.mem_range.2 (Array.getElem?_eq_some_iff.1 ho).1)
 rw [ho] at this
 simp only [Option.map_some, Option.getD_some, Array.all_eq_true_iff_forall_mem] at this
 simpa using this e he
theorem all_listed (h : edgesBack ops = true) {listed : Array Bool} (hr : Region.ready .any ops listed = []) (hs : listed.size = ops.size) : ∀ i, i < ops.size → listed.getD i true = true := by
 intro i
 induction i using Nat.strongRecOn with
 | ind i ih =>
  intro hi
  cases hl : listed.getD i true with
  | true => rfl
  | false =>
   have := ready_of (md := .any) (listed := listed) (Array.getElem?_eq_getElem hi) hl (fun e he _ => by
    have hb := edges_back h (Array.getElem?_eq_getElem hi) e he
    rw [getD_two (by omega) false true]
    exact ih e.on hb (by omega))
   rw [hr] at this
   cases this
def dstOf (ops : Array Oper) (i : Nat) : Option Nat := (ops[i]?).bind (·.dst)
def slotOf (ops : Array Oper) (a : Act) (i : Nat) : Value :=
 match dstOf ops i with
 | some d => a.tmps.getD d undef
 | none => undef
def dstsApart (ops : Array Oper) (fx : List Nat) (N : Nat) : Bool :=
 (List.range ops.size).all fun i => match dstOf ops i with
  | some d => decide (d < N) && fx.all (fun s => decide (s ≠ d)) && (List.range ops.size).all (fun k => decide (k = i) || decide (dstOf ops k ≠ some d))
  | none => true
theorem put_same {a : Act} {d : Nat} (v : Value) (h : d < a.tmps.size) : (a.put (some d) v).tmps.getD d undef = v := by
 simp [Act.put, h]
theorem put_other {a : Act} {d s : Nat} (v : Value) (h : s ≠ d) : (a.put (some d) v).tmps.getD s undef = a.tmps.getD s undef := by
 simp only [Act.put, Array.getD_eq_getD_getElem?, Array.getElem?_setIfInBounds]
 rw [if_neg (fun e => h e.symm)]
theorem put_size {a : Act} (d : Option Nat) (v : Value) : (a.put d v).tmps.size = a.tmps.size := by
 cases d <;> simp [Act.put]
theorem put_defers {a : Act} (d : Option Nat) (v : Value) : (a.put d v).defers = a.defers := by
 cases d <;> simp [Act.put]
structure SlotBase (N : Nat) (df : List Deferred) (fx : List (Nat × Value)) (Inv : World → Prop) (a : Act) (w : World) : Prop where
 size : a.tmps.size = N
 defers : a.defers = df
 fixed : ∀ s v, (s, v) ∈ fx → a.tmps.getD s undef = v
 inv : Inv w
end
end Go.Proofs.YtgcpinnnfoanjaaGreatDoor
namespace Go.Proofs.YtgcpinnnfoanjaaGreatDoor
open Go.RowKit
def Blk (b0 : Nat) (W : World) (b : Nat) (o : Obj) : Prop := b0 < b ∧ b < W.heap.size ∧ W.heap[b]? = some o
def UP (b0 : Nat) (W W' : World) : Prop := W.heap.size ≤ W'.heap.size ∧ ∀ k, b0 < k → k < W.heap.size → W'.heap[k]? = W.heap[k]?
theorem UP.refl (b0 : Nat) (W : World) : UP b0 W W := ⟨Nat.le_refl _, fun _ _ _ => rfl⟩
theorem UP.al (b0 : Nat) (W : World) (o : Obj) : UP b0 W (W.alloc o) := ⟨by simp, fun k _ h => ((Below.refl _ W).alloc (Nat.le_refl _) o).block k h⟩
theorem UP.ap {g b0 : Nat} {W W' : World} (h : Apart g W W') (hg : g ≤ b0) : UP b0 W W' := ⟨h.1.size, fun k h1 h2 => h.block (by omega) h2⟩
theorem UP.stay {b0 : Nat} {W W' : World} (h : UP b0 W W') : Stay (fun k => b0 < k) (fun k => b0 < k) W W' := ⟨h.1, fun k hk hl => ⟨hk, h.2 k hk hl⟩⟩
theorem Blk.up {b0 b : Nat} {W W' : World} {o : Obj} (h : Blk b0 W b o) (hR : UP b0 W W') : Blk b0 W' b o := ⟨h.1, Nat.lt_of_lt_of_le h.2.1 hR.1, (hR.2 b h.1 h.2.1).trans h.2.2⟩
theorem Blk.new {b0 : Nat} {W : World} (h : b0 < W.heap.size) (o : Obj) : Blk b0 (W.alloc o) W.heap.size o := ⟨h, by simp, heap_alloc_new W o⟩
def Cres (b0 : Nat) (W : World) : Prop := ∃ (op : Int) (ra : Option Addr) (rn rc : Nat) (nm : List UInt8) (a : Option Addr) (n cp : Nat) (mn mx : Int) (t : NT), BK b0 6 (nE op ra rn rc nm a n cp mn mx) W ∧ NG (fun k => b0 < k) W t (.agg #[.int .i64 op, .slice ra rn rc, .string ⟨nm.toArray⟩, .slice a n cp, .int .i64 mn, .int .i64 mx]) ∧ Sm 1000 t
def CI (g : Nat) (w W : World) : Prop := GD g w W ∧ ∃ E, BK w.heap.size 6 E W
def CRr (w W W' : World) : Prop := UP w.heap.size W W' ∧ (Cres w.heap.size W → Cres w.heap.size W')
theorem Cres.up {b0 : Nat} {W W' : World} (h : Cres b0 W) (hu : UP b0 W W') (hb : W'.heap[b0]? = W.heap[b0]?) : Cres b0 W' := by
 obtain ⟨op, ra, rn, rc, nm, a, n, cp, mn, mx, t, h1, h2, h3⟩ := h
 exact ⟨op, ra, rn, rc, nm, a, n, cp, mn, mx, t, h1.keep hb hu.1, NG.go hu.stay _ _ h2, h3⟩
theorem CRr.refl (w W : World) : CRr w W W := ⟨UP.refl _ _, id⟩
theorem CI.lt {g : Nat} {w W : World} (h : CI g w W) : w.heap.size < W.heap.size := h.2.choose_spec.lt
theorem CRr.al {g : Nat} {w W : World} (h : CI g w W) (o : Obj) : CRr w W (W.alloc o) := ⟨UP.al _ _ _, fun c => c.up (UP.al _ _ _) (((Below.refl _ W).alloc (Nat.le_refl _) o).block _ h.lt)⟩
theorem CRr.ap {g : Nat} {w W W' : World} (h : CI g w W) (ha : Apart g W W') : CRr w W W' := ⟨UP.ap ha (Nat.le_of_lt h.1.hg), fun c => c.up (UP.ap ha (Nat.le_of_lt h.1.hg)) (ha.block (by have := h.1.hg; omega) h.lt)⟩
theorem CI.al {g : Nat} {w W : World} (h : CI g w W) (o : Obj) : CI g w (W.alloc o) := ⟨h.1.al o, h.2.choose, h.2.choose_spec.al o⟩
theorem CI.ap {g : Nat} {w W W' : World} (h : CI g w W) (ha : Apart g W W') (hc : CodesAt W' g) : CI g w W' := ⟨h.1.go ha hc, h.2.choose, h.2.choose_spec.go ha (by have := h.1.hg; omega)⟩
theorem bk_set6 {b : Nat} {E : Nat → Value} {W : World} (h : BK b 6 E W) (op : Int) (ra : Option Addr) (rn rc : Nat) (nm : List UInt8) (a : Option Addr) (n cp : Nat) (mn mx : Int) :
  BK b 6 (nE op ra rn rc nm a n cp mn mx) (setL W b [.int .i64 op, .slice ra rn rc, .string ⟨nm.toArray⟩, .slice a n cp, .int .i64 mn, .int .i64 mx] 0) :=
 ((((((h.set 0 (by omega) (.int .i64 op)).set 1 (by omega) (.slice ra rn rc)).set 2 (by omega) (.string ⟨nm.toArray⟩)).set 3 (by omega) (.slice a n cp)).set 4 (by omega) (.int .i64 mn)).set 5 (by omega) (.int .i64 mx)).cong fun i hi => by
  match i, hi with
  | 0, _ => rfl
  | 1, _ => rfl
  | 2, _ => rfl
  | 3, _ => rfl
  | 4, _ => rfl
  | 5, _ => rfl
def CG (g : Nat) (w : World) (d : Nat) (k : Nat) (v : Value) (W : World) : Prop :=
 match k with
 | 0 => v = .pointer (some ⟨g, 0, none⟩)
 | 1 => ∃ k : Nat, k < 26 ∧ v = .int .i64 k
 | 2 => ∃ k : Nat, k < 26 ∧ v = .int .i64 (97 + (k : Int))
 | 3 => ∃ x : UInt8, v = .int .u8 (x.toNat : Int)
 | 4 => v = .pointer (some ⟨g, 0, none⟩)
 | 5 => ∃ k : Nat, k < 26 ∧ v = .int .i64 k
 | 6 => ∃ k : Nat, k < 26 ∧ v = .int .i64 (97 + (k : Int))
 | 7 => ∃ x : UInt8, v = .int .u8 (x.toNat : Int)
 | 8 => ∃ (q : Nat) (x y : UInt8), v = .slice (some ⟨q, 0, none⟩) 2 2 ∧ Blk w.heap.size W q (.cells #[.int .u8 (x.toNat : Int), .int .u8 (y.toNat : Int)] 5)
 | 9 => ∃ y : List UInt8, y.length ≤ 1000 ∧ v = .string ⟨y.toArray⟩
 | 10 => v = .pointer (some ⟨g, 0, none⟩)
 | 11 => v = .int .i64 (d + 1 : Nat)
 | 12 => v = .int .i64 (d : Int)
 | 13 => ∃ t, NG (fun k => w.heap.size < k) W t v ∧ Sm 1000 t
 | 14 => ∃ (q : Nat) (t : NT), v = .slice (some ⟨q, 0, none⟩) 1 1 ∧ RW (fun k => w.heap.size < k) 6 (KR (fun k => w.heap.size < k) W) W [t] v ∧ Sm 1000 t
 | 15 => ∃ (y : List UInt8) (q : Nat) (t : NT), v = .agg #[.int .i64 5, .slice none 0 0, .string ⟨y.toArray⟩, .slice (some ⟨q, 0, none⟩) 1 1, .int .i64 0, .int .i64 0] ∧ NG (fun k => w.heap.size < k) W t v ∧ Sm 1000 t
 | 16 => Cres w.heap.size W
 | _ => True
theorem CG.keep (g : Nat) (w : World) (d : Nat) : ∀ k v W W', CRr w W W' → CG g w d k v W → CG g w d k v W' := by
 intro k v W W' hR h
 have hs := hR.1.stay
 unfold CG at *
 split at h
 ·exact h
 ·exact h
 ·exact h
 ·exact h
 ·exact h
 ·exact h
 ·exact h
 ·exact h
 ·obtain ⟨q, x, y, h1, h2⟩ := h
  exact ⟨q, x, y, h1, h2.up hR.1⟩
 ·exact h
 ·exact h
 ·exact h
 ·exact h
 ·obtain ⟨t, h, h9⟩ := h
  exact ⟨t, NG.go hs _ _ h, h9⟩
 ·obtain ⟨q, t, h1, h2, h9⟩ := h
  exact ⟨q, t, h1, h2.go hs (fun _ _ h => NG.go hs _ _ h), h9⟩
 ·obtain ⟨y, q, t, h1, h2, h9⟩ := h
  exact ⟨y, q, t, h1, NG.go hs _ _ h2, h9⟩
 ·exact hR.2 h
 ·trivial
def BG (g : Nat) (w : World) (b : Nat) (m : Nat) (k : Nat) (v : Value) (W : World) : Prop :=
 match k with
 | 0 => v = .pointer (some ⟨b, 4, none⟩)
 | 1 => v = .int .i64 (m : Int)
 | 2 => v = .pointer (some ⟨b, 4, none⟩)
 | 3 => v = .int .i64 (m : Int)
 | 4 => ∃ y : Int, v = .int .i64 y
 | 5 => v = .pointer (some ⟨b, 4, none⟩)
 | 6 => v = .int .i64 (m : Int)
 | 7 => ∃ y : Int, v = .int .i64 y
 | 8 => ∃ (q : Nat) (y0 y1 y2 y3 : Int), v = .slice (some ⟨q, 0, none⟩) 4 4 ∧ b < q ∧ Blk w.heap.size W q (.cells #[.int .i64 y0, .int .i64 y1, .int .i64 y2, .int .i64 y3] 3)
 | 9 => v = .pointer (some ⟨g, 0, none⟩)
 | 10 => ∃ k : Nat, k < 4 ∧ v = .int .i64 k
 | 11 => ∃ (q k : Nat) (y0 y1 y2 y3 : Int), k < 4 ∧ v = .pointer (some ⟨q, k, none⟩) ∧ b < q ∧ Blk w.heap.size W q (.cells #[.int .i64 y0, .int .i64 y1, .int .i64 y2, .int .i64 y3] 3)
 | 12 => ∃ y : Int, v = .int .i64 y
 | 13 => v = .pointer (some ⟨b, 5, none⟩)
 | _ => True
def BRr (w : World) (b : Nat) (W W' : World) : Prop := W.heap.size ≤ W'.heap.size ∧ ∀ k, w.heap.size < k → k ≠ b → k < W.heap.size → W'.heap[k]? = W.heap[k]?
theorem BG.keep (g : Nat) (w : World) (b m : Nat) : ∀ k v W W', BRr w b W W' → BG g w b m k v W → BG g w b m k v W' := by
 intro k v W W' hR h
 have hb : ∀ {q : Nat} {o : Obj}, b < q → Blk w.heap.size W q o → Blk w.heap.size W' q o := fun hq h => ⟨h.1, Nat.lt_of_lt_of_le h.2.1 hR.1, (hR.2 _ h.1 (by omega) h.2.1).trans h.2.2⟩
 unfold BG at *
 split at h
 ·exact h
 ·exact h
 ·exact h
 ·exact h
 ·exact h
 ·exact h
 ·exact h
 ·exact h
 ·obtain ⟨q, y0, y1, y2, y3, h1, h2, h3⟩ := h
  exact ⟨q, y0, y1, y2, y3, h1, h2, hb h2 h3⟩
 ·exact h
 ·exact h
 ·obtain ⟨q, k, y0, y1, y2, y3, h0, h1, h2, h3⟩ := h
  exact ⟨q, k, y0, y1, y2, y3, h0, h1, h2, hb h2 h3⟩
 ·exact h
 ·exact h
 ·trivial
def FB (w : World) (b : Nat) : Nat → Prop := fun k => w.heap.size < k ∧ k ≠ b
structure BI (g : Nat) (w : World) (b : Nat) (ka : Option Addr) (m : Nat) (t : NT) (W : World) : Prop where
 ns : NS g w W
 bk : ∃ x : Int, BK b 6 (nE 4 none 0 0 [] ka 1 1 (m : Int) x) W
 row : RW (FB w b) 6 (KR (FB w b) W) W [t] (.slice ka 1 1)
 hb : w.heap.size < b
section
variable {g b m : Nat} {w W W' : World} {ka : Option Addr} {t : NT}
theorem BI.al (h : BI g w b ka m t W) (o : Obj) : BI g w b ka m t (W.alloc o) :=
 ⟨h.ns.al o, ⟨h.bk.choose, h.bk.choose_spec.al o⟩, h.row.go ⟨by simp, fun k hk hl => ⟨hk, ((Below.refl _ W).alloc (Nat.le_refl _) o).block k hl⟩⟩ (fun _ _ h => NG.go ⟨by simp, fun k hk hl => ⟨hk, ((Below.refl _ W).alloc (Nat.le_refl _) o).block k hl⟩⟩ _ _ h), h.hb⟩
theorem BI.dr (h : BI g w b ka m t W) : BI g w b ka m t W.drew := by
 have hS : Stay (FB w b) (FB w b) W W.drew := ⟨Nat.le_refl _, fun k hk _ => ⟨hk, rfl⟩⟩
 exact ⟨h.ns.dr, ⟨h.bk.choose, h.bk.choose_spec.dr⟩, h.row.go hS (fun _ _ h => NG.go hS _ _ h), h.hb⟩
theorem BI.ap (h : BI g w b ka m t W) (ha : Apart g W W') (hc : CodesAt W' g) : BI g w b ka m t W' := by
 have hg := h.ns.gd.hg
 have hS : Stay (FB w b) (FB w b) W W' := ⟨ha.1.size, fun k hk hl => ⟨hk, ha.block (by have := hk.1; omega) hl⟩⟩
 exact ⟨h.ns.go ha hc, ⟨h.bk.choose, h.bk.choose_spec.go ha (by have := h.hb; omega)⟩, h.row.go hS (fun _ _ h => NG.go hS _ _ h), h.hb⟩
theorem BI.set (h : BI g w b ka m t W) (y : Int) : BI g w b ka m t (W.setCell ⟨b, 5, none⟩ (.int .i64 y)) := by
 have hS : Stay (FB w b) (FB w b) W (W.setCell ⟨b, 5, none⟩ (.int .i64 y)) := ⟨by simp, fun k hk _ => ⟨hk, Below.heap_setCell _ _ _ k (by have := hk.2; simpa using this)⟩⟩
 obtain ⟨x, hx⟩ := h.bk
 exact ⟨h.ns.set h.hb _ _, ⟨y, (hx.set 5 (by omega) (.int .i64 y)).cong fun i hi => by
  match i, hi with
  | 0, _ => rfl
  | 1, _ => rfl
  | 2, _ => rfl
  | 3, _ => rfl
  | 4, _ => rfl
  | 5, _ => rfl⟩, h.row.go hS (fun _ _ h => NG.go hS _ _ h), h.hb⟩
end
theorem BRr.refl (w : World) (b : Nat) (W : World) : BRr w b W W := ⟨Nat.le_refl _, fun _ _ _ _ => rfl⟩
theorem BRr.al (w : World) (b : Nat) (W : World) (o : Obj) : BRr w b W (W.alloc o) := ⟨by simp, fun k _ _ h => ((Below.refl _ W).alloc (Nat.le_refl _) o).block k h⟩
theorem BRr.ap {g : Nat} {w W W' : World} (b : Nat) (ha : Apart g W W') (hg : g < w.heap.size) : BRr w b W W' := ⟨ha.1.size, fun k h1 _ h2 => ha.block (by omega) h2⟩
theorem BRr.set (w : World) (b : Nat) (W : World) (v : Value) : BRr w b W (W.setCell ⟨b, 5, none⟩ v) := ⟨by simp, fun k _ h _ => Below.heap_setCell _ _ _ k (by simpa using h)⟩
end Go.Proofs.YtgcpinnnfoanjaaGreatDoor
namespace Go.Proofs.YtgcpinnnfoanjaaGreatDoor
open Go.RowKit
theorem infoN : (Tryz.prog.info? 38).map (fun i => (i.zero, i.size, i.bytes)) = some (some (.agg #[.int .i64 0, .slice none 0 0, .string ⟨#[]⟩, .slice none 0 0, .int .i64 0, .int .i64 0]), 6, 88) := by kernel_rfl
theorem node_one (op : Int) (ra : Option Addr) (rn rc : Nat) (nm : List UInt8) (a : Option Addr) (n c : Nat) (mn mx : Int) : ∀ u ∈ [Value.int .i64 op, .slice ra rn rc, .string ⟨nm.toArray⟩, .slice a n c, .int .i64 mn, .int .i64 mx], u.oneCell' = true := by
 intro u hu
 simp only [List.mem_cons, List.not_mem_nil, or_false] at hu
 rcases hu with rfl | rfl | rfl | rfl | rfl | rfl <;> rfl
end Go.Proofs.YtgcpinnnfoanjaaGreatDoor

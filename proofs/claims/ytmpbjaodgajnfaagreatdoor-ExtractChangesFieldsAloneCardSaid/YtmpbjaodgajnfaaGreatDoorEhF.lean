/-
 Joined: PatK, PatL, PatM, MtJ, MtKa, MtL, PatN, PatO, MtK, MtKb.
-/
import Derived.Test.YtmpbjaodgajnfaaGreatDoorEhE
import Derived.Deep.AppendLies
import Derived.Deep.RegionLaw
import Derived.Laws.NewBlocks
import Derived.Test.YtmpbjaodgajnfaaGreatDoorEhA
import Derived.BigQuiet
import Derived.Laws.BitsAllLaws
import Derived.Deep.DeepCutAuto
import Derived.Deep.RegionHeld3
import Derived.Deep.OwnRows
namespace Go.Proofs.YtmpbjaodgajnfaaGreatDoor
open Go.RowKit
def CheckP (g : Nat) (w0 w : World) (vn : Value) (r : Nat × List (List UInt8) × Nat) (e : Ending) (w' : World) : Prop :=
 ∃ v', e = .returned (.int .i64 r.2.2) ∧ CK g r.1 r.2.1 v' w' ∧ CF (· = g) vn v' w w' ∧ Below w0.heap.size w0 w'
theorem str_one (x : List UInt8) : ∀ u ∈ [Value.string ⟨x.toArray⟩], u.oneCell' = true := by
 intro u hu
 simp only [List.mem_cons, List.not_mem_nil, or_false] at hu
 subst hu
 rfl
structure CKS (g : Nat) (w0 w : World) (vn : Value) (c : Nat) (ns : List (List UInt8)) (v : Value) (E : Nat → Value) (W : World) : Prop where
 ck : CK g c ns v W
 cf : CF (· = g) vn v w W
 bl : Below w0.heap.size w0 W
 bk : BK w.heap.size 6 E W
theorem CKS.below {g : Nat} {w0 w W W' : World} {vn v : Value} {c : Nat} {ns : List (List UInt8)} {E : Nat → Value} (h : CKS g w0 w vn c ns v E W) (hb : Below W.heap.size W W') : CKS g w0 w vn c ns v E W' :=
 ⟨h.ck.below hb, h.cf.trans (CF.of_below hb), h.bl.trans (hb.mono h.bl.size), h.bk.on hb h.bk.lt⟩
def nE (op : Int) (ra : Option Addr) (rn rc : Nat) (nm : List UInt8) (a : Option Addr) (n cp : Nat) (mn mx : Int) : Nat → Value := fun i => (#[.int .i64 op, .slice ra rn rc, .string ⟨nm.toArray⟩, .slice a n cp, .int .i64 mn, .int .i64 mx] : Array Value)[i]!
theorem cks_start {g : Nat} {w0 w : World} {vn : Value} {c : Nat} {ns : List (List UInt8)} (h : CK g c ns vn w) (hB : Below w0.heap.size w0 w) (hg : w0.heap.size ≤ g) (op : Int) (ra : Option Addr) (rn rc : Nat) (nm : List UInt8) (a : Option Addr) (n cp : Nat) (mn mx : Int) :
  CKS g w0 w vn (c + 1) ns vn (nE op ra rn rc nm a n cp mn mx) ((w.setCell ⟨g, 0, none⟩ (.int .i64 ((c : Int) + 1))).alloc (.cells #[.int .i64 op, .slice ra rn rc, .string ⟨nm.toArray⟩, .slice a n cp, .int .i64 mn, .int .i64 mx] 33)) := by
 have h1 : CK g (c + 1) ns vn (w.setCell ⟨g, 0, none⟩ (.int .i64 ((c : Int) + 1))) := h.count (c + 1)
 have hal := (Below.refl _ (w.setCell ⟨g, 0, none⟩ (.int .i64 ((c : Int) + 1)))).alloc (Nat.le_refl _) (.cells #[.int .i64 op, .slice ra rn rc, .string ⟨nm.toArray⟩, .slice a n cp, .int .i64 mn, .int .i64 mx] 33)
 refine ⟨h1.below hal, (CF.set (X := (· = g)) rfl 0 _).trans (CF.of_below hal), (hB.setCell (p := ⟨g, 0, none⟩) hg _).trans (hal.mono (by simpa using hB.size)), ?_⟩
 have := BK.new (w.setCell ⟨g, 0, none⟩ (.int .i64 ((c : Int) + 1))) #[.int .i64 op, .slice ra rn rc, .string ⟨nm.toArray⟩, .slice a n cp, .int .i64 mn, .int .i64 mx] 33 (nE op ra rn rc nm a n cp mn mx) 6 (fun i hi => by
  match i, hi with
  | 0, _ => rfl
  | 1, _ => rfl
  | 2, _ => rfl
  | 3, _ => rfl
  | 4, _ => rfl
  | 5, _ => rfl)
 simpa using this
theorem cks_push {g : Nat} {w0 w W W' : World} {vn : Value} {c : Nat} {ns ns' : List (List UInt8)} {E : Nat → Value} {o : Obj} {q n cap H : Nat} (h : CKS g w0 w vn c ns vn E W) (hgr : (W.alloc o).grownBy W' vn.ownBlock) (hat : vn.ownBlock = some q ∨ q = H) (hH : (W.alloc o).heap.size = H)
  (hck : CK g c ns' (.slice (some ⟨q, 0, none⟩) n cap) (W'.setCell ⟨g, 1, none⟩ (.slice (some ⟨q, 0, none⟩) n cap))) (hg : w0.heap.size ≤ g ∧ g < w.heap.size ∧ vn.ownBlock ≠ some w.heap.size) : CKS g w0 w vn c ns' (.slice (some ⟨q, 0, none⟩) n cap) E (W'.setCell ⟨g, 1, none⟩ (.slice (some ⟨q, 0, none⟩) n cap)) := by
 have hown : ∀ k, vn.ownBlock = some k → g + 1 ≤ k := fun k hk => (h.ck.row.lt k hk).1
 have hnb := hg.2.2
 have hB := ((Below.refl _ W).alloc (Nat.le_of_lt h.ck.lt) o).grown (B := g) hgr (by have := h.ck.lt; simp; omega) (fun k hk => by have := hown k hk; omega)
 refine ⟨hck, h.cf.trans ((CF.push hgr hat hH.symm).trans (CF.set (X := (· = g)) rfl 1 _)), h.bl.trans ((hB.mono hg.1).setCell (p := ⟨g, 1, none⟩) hg.1 _), ?_⟩
 refine h.bk.keep ?_ (by simpa using hB.size)
 rw [Below.heap_setCell _ _ _ _ (by simp; omega)]
 exact (hgr.block _ (by have := h.bk.lt; simp; omega) (fun e => hnb e.symm)).trans (((Below.refl _ W).alloc (Nat.le_refl _) o).block _ h.bk.lt)
set_option maxRecDepth 100000 in
set_option maxHeartbeats 16000000 in
theorem check_aux (N : Nat) : ∀ (t : NT) (v : Value) (w0 w : World) (g d c : Nat) (ns : List (List UInt8)) (vn : Value), SizeOf.sizeOf t < N → NAt w0 t v → Kinds w0 → Below w0.heap.size w0 w → w0.heap.size ≤ g → CK g c ns vn w → c ≤ 400 → ns.length ≤ c → d ≤ 21 →
  Calls Tryz.prog 76 #[.pointer (some ⟨g, 0, none⟩), v, .int .i64 d] w (CheckP g w0 w vn (ckN t d c ns)) := by
 induction N with
 | zero => intro t v w0 w g d c ns vn h; omega
 | succ N ih =>
 intro t v w0 w g d c ns vn hN h hkd hB hg hck hc hn hd
 obtain ⟨op, rs, nm, kids, mn, mx, ra, rc, a, cp, rfl, rfl, hr, ⟨hml, hnm⟩, hk⟩ := h.open
 have IH := Lib.hid fun (i : Nat) (hi : i < kids.length) (W : World) (u : Value) (d c : Nat) (ns : List (List UInt8)) (vn : Value) (h1 : NAt w0 kids[i] u) (h2 : Below w0.heap.size w0 W) (h3 : CK g c ns vn W) (h4 : c ≤ 400) (h5 : ns.length ≤ c) (h6 : d ≤ 21) => ih kids[i] u w0 W g d c ns vn (by have := kid_lt (op := op) (rs := rs) (nm := nm) (mn := mn) (mx := mx) i hi; omega) h1 hkd h2 hg h3 h4 h5 h6
 have HKD := Lib.hid hkd
 have HK := Lib.hid hk
 have HR0 := Lib.hid hr
 have HNM := Lib.hid hnm
 have HS0 := Lib.hid (cks_start hck hB hg op ra rs.length rc nm a kids.length cp mn mx)
 have hgw : g < w.heap.size := hck.lt
 have hgle : w0.heap.size ≤ g ∧ g < w.heap.size ∧ vn.ownBlock ≠ some w.heap.size := ⟨hg, hgw, fun e => by have := (hck.row.lt _ e).2; omega⟩
 have p0 := hck.c0
 have q0 := hck.f0
 obtain ⟨R, hR⟩ : ∃ R, ckN (.node op rs nm kids mn mx) d c ns = R := ⟨_, rfl⟩
 rw [hR]
 rw [ckN] at hR
 have HR := Lib.hid hR
 clear h hkd hk hr hB hck ih hN hR hnm
 by_cases t1 : 400 < c + 1
 ·have HX := Lib.hid (show (c + 1, ns, 4) = R by rw [← HR.out, if_pos t1])
  have z1 : decide ((400 : Int) < (c : Int) + 1) = true := decide_eq_true (by omega)
  go_enter Tryz.func76, Tryz.ntmps76
  go_wp2_with fail
  go_ret
  exact ⟨vn, by rw [← HX.out]; rfl, by rw [← HX.out]; exact HS0.out.ck, HS0.out.cf, HS0.out.bl⟩
 ·have z1 : decide ((400 : Int) < (c : Int) + 1) = false := decide_eq_false (by omega)
  by_cases t2 : 20 < d
  ·have HX := Lib.hid (show (c + 1, ns, 5) = R by rw [← HR.out, if_neg t1, if_pos t2])
   have z2 : decide ((20 : Int) < (d : Int)) = true := decide_eq_true (by omega)
   go_enter Tryz.func76, Tryz.ntmps76
   go_wp2_with fail
   go_ret
   exact ⟨vn, by rw [← HX.out]; rfl, by rw [← HX.out]; exact HS0.out.ck, HS0.out.cf, HS0.out.bl⟩
  ·have z2 : decide ((20 : Int) < (d : Int)) = false := decide_eq_false (by omega)
   have HR2 := Lib.hid (show (if shE op rs nm kids.length mn mx ≠ 0 then (c + 1, ns, shE op rs nm kids.length mn mx) else ckNs kids (d + 1) (c + 1) (if op = 5 then ns ++ [nm] else ns)) = R by rw [← HR.out, if_neg t1, if_neg t2])
   have HSH := Lib.hid (shape_any op rs nm kids.length mn mx ra rc a cp ((w.setCell ⟨g, 0, none⟩ (.int .i64 ((c : Int) + 1))).alloc (.cells #[.int .i64 op, .slice ra rs.length rc, .string ⟨nm.toArray⟩, .slice a kids.length cp, .int .i64 mn, .int .i64 mx] 33)) (HR0.out.later HS0.out.bl))
   have HEQ := Lib.hid (show shE op rs nm kids.length mn mx = (if shpB op rs nm kids.length mn mx = false then 1 else if op = 5 ∧ nmB nm = false then 6 else if op = 4 ∧ badR mn mx = true then 2 else 0) from rfl)
   clear HR
   have t1' : c + 1 ≤ 400 := by omega
   have t2' : d + 1 ≤ 21 := by omega
   clear t1 t2
   cases hs : shpB op rs nm kids.length mn mx
   ·rw [hs] at HSH
    have HX := Lib.hid (show (c + 1, ns, 1) = R by rw [← HR2.out, HEQ.out, hs]; rfl)
    clear hs HEQ
    go_enter Tryz.func76, Tryz.ntmps76
    go_wp2_with fail
    refine HSH.out.mono ?_
    rintro e w3 ⟨rfl, hb3⟩
    have HS3 := Lib.hid (HS0.out.below hb3)
    clear hb3
    go_wp2_with fail
    go_ret
    exact ⟨vn, by rw [← HX.out]; rfl, by rw [← HX.out]; exact HS3.out.ck, HS3.out.cf, HS3.out.bl⟩
   ·rw [hs] at HSH
    have HEQ2 := Lib.hid (show shE op rs nm kids.length mn mx = (if op = 5 ∧ nmB nm = false then 6 else if op = 4 ∧ badR mn mx = true then 2 else 0) by rw [HEQ.out, hs]; rfl)
    clear hs HEQ
    by_cases h5 : op = 5
    ·subst h5
     have HNB := Lib.hid fun W (hb : Below w0.heap.size w0 W) => isname_any nm W (HKD.out.below hb) HNM.out
     cases hnb : nmB nm
     ·rw [hnb] at HNB
      have HX := Lib.hid (show (c + 1, ns, 6) = R by rw [← HR2.out, HEQ2.out]; simp [hnb])
      clear hnb HEQ2
      go_enter Tryz.func76, Tryz.ntmps76
      go_wp2_with fail
      refine HSH.out.mono ?_
      rintro e w3 ⟨rfl, hb3⟩
      have HS3 := Lib.hid (HS0.out.below hb3)
      clear hb3
      have k0 : w3.cell? ⟨w.heap.size, 0, none⟩ = some (.int .i64 5) := HS3.out.bk.ev 0 (by omega)
      have k1 : w3.cell? ⟨w.heap.size, 1, none⟩ = some (.slice ra rs.length rc) := HS3.out.bk.ev 1 (by omega)
      have k2 : w3.cell? ⟨w.heap.size, 2, none⟩ = some (.string ⟨nm.toArray⟩) := HS3.out.bk.ev 2 (by omega)
      have k3 : w3.cell? ⟨w.heap.size, 3, none⟩ = some (.slice a kids.length cp) := HS3.out.bk.ev 3 (by omega)
      have k4 : w3.cell? ⟨w.heap.size, 4, none⟩ = some (.int .i64 mn) := HS3.out.bk.ev 4 (by omega)
      have k5 : w3.cell? ⟨w.heap.size, 5, none⟩ = some (.int .i64 mx) := HS3.out.bk.ev 5 (by omega)
      go_wp2_with fail
      refine (HNB.out _ HS3.out.bl).mono ?_
      rintro e w4 ⟨rfl, rfl⟩
      go_wp2_with fail
      go_ret
      exact ⟨vn, by rw [← HX.out]; rfl, by rw [← HX.out]; exact HS3.out.ck, HS3.out.cf, HS3.out.bl⟩
     ·rw [hnb] at HNB
      have HX := Lib.hid (show ckNs kids (d + 1) (c + 1) (ns ++ [nm]) = R by rw [← HR2.out, HEQ2.out]; simp [hnb])
      clear hnb HEQ2
      go_enter Tryz.func76, Tryz.ntmps76
      go_wp2_with fail
      refine HSH.out.mono ?_
      rintro e w3 ⟨rfl, hb3⟩
      have HS3 := Lib.hid (HS0.out.below hb3)
      clear hb3
      have k0 : w3.cell? ⟨w.heap.size, 0, none⟩ = some (.int .i64 5) := HS3.out.bk.ev 0 (by omega)
      have k1 : w3.cell? ⟨w.heap.size, 1, none⟩ = some (.slice ra rs.length rc) := HS3.out.bk.ev 1 (by omega)
      have k2 : w3.cell? ⟨w.heap.size, 2, none⟩ = some (.string ⟨nm.toArray⟩) := HS3.out.bk.ev 2 (by omega)
      have k3 : w3.cell? ⟨w.heap.size, 3, none⟩ = some (.slice a kids.length cp) := HS3.out.bk.ev 3 (by omega)
      have k4 : w3.cell? ⟨w.heap.size, 4, none⟩ = some (.int .i64 mn) := HS3.out.bk.ev 4 (by omega)
      have k5 : w3.cell? ⟨w.heap.size, 5, none⟩ = some (.int .i64 mx) := HS3.out.bk.ev 5 (by omega)
      go_wp2_with fail
      refine (HNB.out _ HS3.out.bl).mono ?_
      rintro e w4 ⟨rfl, rfl⟩
      go_wp2_with fail
      have HSD := Lib.hid (HS3.out.below (Below.refl _ w3).drew)
      have hgw3 : g < w3.heap.size := HS3.out.ck.lt
      have hbw3 : w.heap.size < w3.heap.size := HS3.out.bk.lt
      have p1 := HS3.out.ck.c1
      have q1 := HS3.out.ck.f1
      have p1d := HSD.out.ck.c1
      have q1d := HSD.out.ck.f1
      have k2d : w3.drew.cell? ⟨w.heap.size, 2, none⟩ = some (.string ⟨nm.toArray⟩) := HSD.out.bk.ev 2 (by omega)
      have hown := HSD.out.ck.row
      obtain ⟨i0, hi, hz0, hz1, hz2⟩ := info_parts infoStr
      go_region_law (first
       | (refine step_append_lies _ (by rfl) _ _ _ (by rfl) (g + 1) 9 i0 (.string ⟨#[]⟩) 1 16 Tryz.underlying29 hi hz0 hz1 hz2 rfl (by decide) vn ns.length (strCellsL ns) (by rfl) (hown.alloc _) ⟨w3.heap.size, 0, none⟩ 1 1 [.string ⟨nm.toArray⟩] (by rfl) rfl (World.news_of_block (heap_alloc_new w3.drew _)) (str_one nm) (by omega) (by unfold maxLen; omega) (by omega) (by simp; omega) _ rfl ?_; intro g9 cap9 w9 hown9 hgr9 hat9 hlt9; obtain ⟨hP9, hc9, hf9⟩ := HSD.out.ck.push hgr9 nm hown9; have HS9 := Lib.hid (show CKS g w0 w vn (c + 1) (ns ++ [nm]) (.slice (some ⟨g9, 0, none⟩) (ns.length + 1) cap9) (nE 5 ra rs.length rc nm a kids.length cp mn mx) (w9.setCell ⟨g, 1, none⟩ (.slice (some ⟨g9, 0, none⟩) (ns.length + 1) cap9)) from cks_push HSD.out hgr9 hat9 rfl hP9 hgle); clear hP9 hown9 hgr9 hat9))
      all_goals
       have HSK : ∀ i, i < 6 → (w9.setCell ⟨g, 1, none⟩ (.slice (some ⟨g9, 0, none⟩) (ns.length + 1) cap9)).cell? ⟨w.heap.size, i, none⟩ = some (nE 5 ra rs.length rc nm a kids.length cp mn mx i) := fun i hi => HS9.out.bk.ev i hi
       have kk3 : (w9.setCell ⟨g, 1, none⟩ (.slice (some ⟨g9, 0, none⟩) (ns.length + 1) cap9)).cell? ⟨w.heap.size, 3, none⟩ = some (.slice a kids.length cp) := HSK 3 (by omega)
       clear HSK hown p1 q1 p1d q1d k2d
       go_wp2_with fail
       go_loopw [88] (fun i wr => ∃ (k c2 : Nat) (ns2 : List (List UInt8)) (v2 : Value), i = .int .i64 k ∧ k ≤ kids.length ∧ c2 ≤ 400 ∧ ns2.length ≤ c2 ∧ ckNs (kids.drop k) (d + 1) c2 ns2 = R ∧ CK g c2 ns2 v2 wr ∧ CF (· = g) vn v2 w wr ∧ Below w0.heap.size w0 wr) (fun i _ => kids.length - (intOf i).toNat)
       case atStart => exact ⟨0, c + 1, (ns ++ [nm]), _, rfl, by omega, by omega, by simp only [List.length_append, List.length_cons, List.length_nil]; omega, HX.out, HS9.out.ck, HS9.out.cf, HS9.out.bl⟩
       case round =>
        obtain ⟨k, c2, ns2, v2, rfl, hkl, hc2, hn2, hq, hck2, hcf2, hb2⟩ := hrel
        have HQ := Lib.hid hq
        have HCK2 := Lib.hid hck2
        have HCF2 := Lib.hid hcf2
        have HB2 := Lib.hid hb2
        clear hq hck2 hcf2 hb2
        by_cases hlt : k < kids.length
        ·obtain ⟨blk, off, op', ra', rn', rc', nm', a', n', c1', mn', mx', rfl, hl, c0, c1, c2x, c3, c4, c5, ht⟩ := HK.out k hlt
         have e0 := (HB2.out.cell (p := ⟨blk, off + k * 6, none⟩) hl).trans c0
         have e1 := (HB2.out.cell (p := ⟨blk, off + k * 6 + 1, none⟩) hl).trans c1
         have e2 := (HB2.out.cell (p := ⟨blk, off + k * 6 + 2, none⟩) hl).trans c2x
         have e3 := (HB2.out.cell (p := ⟨blk, off + k * 6 + 3, none⟩) hl).trans c3
         have e4 := (HB2.out.cell (p := ⟨blk, off + k * 6 + 4, none⟩) hl).trans c4
         have e5 := (HB2.out.cell (p := ⟨blk, off + k * 6 + 5, none⟩) hl).trans c5
         have i1 : (k : Int) < (kids.length : Int) := by omega
         have i2 : (0 : Int) ≤ (k : Int) := by omega
         have hal := (Below.refl _ wr).alloc (Nat.le_refl _) (.cells #[.int .i64 op', .slice ra' rn' rc', .string ⟨nm'.toArray⟩, .slice a' n' c1', .int .i64 mn', .int .i64 mx'] 33)
         have HBA := Lib.hid (HB2.out.trans (hal.mono HB2.out.size))
         have HCKA := Lib.hid (HCK2.out.below hal)
         have HCFA := Lib.hid (HCF2.out.trans (CF.of_below hal))
         have hok := ckN_ok _ kids[k] (d + 1) c2 ns2 (Nat.lt_succ_self _) hc2 hn2
         have HI : Hid (Calls Tryz.prog 76 #[.pointer (some ⟨g, 0, none⟩), .agg #[.int .i64 op', .slice ra' rn' rc', .string ⟨nm'.toArray⟩, .slice a' n' c1', .int .i64 mn', .int .i64 mx'], .int .i64 ((d : Int) + 1)] (wr.alloc (.cells #[.int .i64 op', .slice ra' rn' rc', .string ⟨nm'.toArray⟩, .slice a' n' c1', .int .i64 mn', .int .i64 mx'] 33)) (CheckP g w0 (wr.alloc (.cells #[.int .i64 op', .slice ra' rn' rc', .string ⟨nm'.toArray⟩, .slice a' n' c1', .int .i64 mn', .int .i64 mx'] 33)) v2 (ckN kids[k] (d + 1) c2 ns2))) := Lib.hid (IH.out k hlt _ _ (d + 1) c2 ns2 v2 ht HBA.out HCKA.out hc2 hn2 (by omega))
         have HST := Lib.hid (ckNs_step hlt (d + 1) c2 ns2)
         obtain ⟨r, hr⟩ : ∃ r, ckN kids[k] (d + 1) c2 ns2 = r := ⟨_, rfl⟩
         rw [hr] at HI HST hok
         obtain ⟨r1, r2, r3⟩ := r
         simp only at HST
         have HOK := Lib.hid hok
         clear c0 c1 c2x c3 c4 c5 ht hr hal hok
         by_cases h0 : r3 = 0
         ·have HZ := Lib.hid (show ckNs (kids.drop (k + 1)) (d + 1) r1 r2 = R by rw [← HQ.out, HST.out, if_neg (by simpa using h0)])
          have HC1 : Hid (r1 ≤ 400 ∧ r2.length ≤ r1) := Lib.hid ⟨HOK.out.2.2.1 h0, HOK.out.2.1⟩
          subst h0
          go_wp2_with fail
          refine HI.out.mono ?_
          rintro e w4 ⟨v4, rfl, hck4, hcf4, hb4⟩
          have HCK4 := Lib.hid hck4
          have HCF4 := Lib.hid (HCFA.out.trans hcf4)
          have HB4 := Lib.hid hb4
          clear hck4 hcf4 hb4
          go_wp2_with fail
          go_roundw
          case rel => exact ⟨k + 1, r1, r2, v4, by go_num, by omega, HC1.out.1, HC1.out.2, HZ.out, HCK4.out, HCF4.out, HB4.out⟩
          case measure => simp [intOf]; omega
         ·have HZ := Lib.hid (show (r1, r2, r3) = R by rw [← HQ.out, HST.out, if_pos (by simpa using h0)])
          have y1 : ((r3 : Int) != 0) = true := by rw [bne_iff_ne]; omega
          go_wp2_with fail
          refine HI.out.mono ?_
          rintro e w4 ⟨v4, rfl, hck4, hcf4, hb4⟩
          have HCK4 := Lib.hid hck4
          have HCF4 := Lib.hid (HCFA.out.trans hcf4)
          have HB4 := Lib.hid hb4
          clear hck4 hcf4 hb4
          go_wp2_with fail
          go_ret
          exact ⟨v4, by rw [← HZ.out]; rfl, by rw [← HZ.out]; exact HCK4.out, HCF4.out, HB4.out⟩
        ·obtain rfl : k = kids.length := by omega
         have HZ := Lib.hid (show (c2, ns2, 0) = R by rw [← HQ.out, List.drop_length, ckNs])
         go_wp2_with fail
         go_ret
         exact ⟨v2, by rw [← HZ.out]; rfl, by rw [← HZ.out]; exact HCK2.out, HCF2.out, HB2.out⟩
    ·have y5 : (op == 5) = false := by rw [beq_eq_false_iff_ne]; exact h5
     by_cases h4 : op = 4
     ·subst h4
      clear h5 y5
      by_cases m0 : mn < 0
      ·have z10 : decide (mn < 0) = true := decide_eq_true m0
       have hbad : badR mn mx = true := by unfold badR; simp; omega
       have HX := Lib.hid (show (c + 1, ns, 2) = R by rw [← HR2.out, HEQ2.out]; simp [hbad])
       clear hbad HEQ2
       (try clear m2)
       go_enter Tryz.func76, Tryz.ntmps76
       go_wp2_with fail
       refine HSH.out.mono ?_
       rintro e w3 ⟨rfl, hb3⟩
       have HS3 := Lib.hid (HS0.out.below hb3)
       clear hb3
       have k0 : w3.cell? ⟨w.heap.size, 0, none⟩ = some (.int .i64 4) := HS3.out.bk.ev 0 (by omega)
       have k1 : w3.cell? ⟨w.heap.size, 1, none⟩ = some (.slice ra rs.length rc) := HS3.out.bk.ev 1 (by omega)
       have k2 : w3.cell? ⟨w.heap.size, 2, none⟩ = some (.string ⟨nm.toArray⟩) := HS3.out.bk.ev 2 (by omega)
       have k3 : w3.cell? ⟨w.heap.size, 3, none⟩ = some (.slice a kids.length cp) := HS3.out.bk.ev 3 (by omega)
       have k4 : w3.cell? ⟨w.heap.size, 4, none⟩ = some (.int .i64 mn) := HS3.out.bk.ev 4 (by omega)
       have k5 : w3.cell? ⟨w.heap.size, 5, none⟩ = some (.int .i64 mx) := HS3.out.bk.ev 5 (by omega)
       go_wp2_with fail
       go_ret
       exact ⟨vn, by rw [← HX.out]; rfl, by rw [← HX.out]; exact HS3.out.ck, HS3.out.cf, HS3.out.bl⟩
      ·have z10 : decide (mn < 0) = false := decide_eq_false m0
       by_cases m1 : 40 < mn
       ·have z11 : decide (40 < mn) = true := decide_eq_true m1
        have hbad : badR mn mx = true := by unfold badR; simp; omega
        have HX := Lib.hid (show (c + 1, ns, 2) = R by rw [← HR2.out, HEQ2.out]; simp [hbad])
        clear hbad HEQ2
        (try clear m2)
        go_enter Tryz.func76, Tryz.ntmps76
        go_wp2_with fail
        refine HSH.out.mono ?_
        rintro e w3 ⟨rfl, hb3⟩
        have HS3 := Lib.hid (HS0.out.below hb3)
        clear hb3
        have k0 : w3.cell? ⟨w.heap.size, 0, none⟩ = some (.int .i64 4) := HS3.out.bk.ev 0 (by omega)
        have k1 : w3.cell? ⟨w.heap.size, 1, none⟩ = some (.slice ra rs.length rc) := HS3.out.bk.ev 1 (by omega)
        have k2 : w3.cell? ⟨w.heap.size, 2, none⟩ = some (.string ⟨nm.toArray⟩) := HS3.out.bk.ev 2 (by omega)
        have k3 : w3.cell? ⟨w.heap.size, 3, none⟩ = some (.slice a kids.length cp) := HS3.out.bk.ev 3 (by omega)
        have k4 : w3.cell? ⟨w.heap.size, 4, none⟩ = some (.int .i64 mn) := HS3.out.bk.ev 4 (by omega)
        have k5 : w3.cell? ⟨w.heap.size, 5, none⟩ = some (.int .i64 mx) := HS3.out.bk.ev 5 (by omega)
        go_wp2_with fail
        go_ret
        exact ⟨vn, by rw [← HX.out]; rfl, by rw [← HX.out]; exact HS3.out.ck, HS3.out.cf, HS3.out.bl⟩
       ·have z11 : decide (40 < mn) = false := decide_eq_false m1
        by_cases m2 : mx = -1
        ·have z12 : (mx != -1) = false := by rw [bne_eq_false_iff_eq]; exact m2
         have hbad : badR mn mx = false := by unfold badR; simp; omega
         have HX := Lib.hid (show ckNs kids (d + 1) (c + 1) ns = R by rw [← HR2.out, HEQ2.out]; simp [hbad])
         clear hbad HEQ2
         (try clear m2)
         go_enter Tryz.func76, Tryz.ntmps76
         go_wp2_with fail
         refine HSH.out.mono ?_
         rintro e w3 ⟨rfl, hb3⟩
         have HS3 := Lib.hid (HS0.out.below hb3)
         clear hb3
         have k0 : w3.cell? ⟨w.heap.size, 0, none⟩ = some (.int .i64 4) := HS3.out.bk.ev 0 (by omega)
         have k1 : w3.cell? ⟨w.heap.size, 1, none⟩ = some (.slice ra rs.length rc) := HS3.out.bk.ev 1 (by omega)
         have k2 : w3.cell? ⟨w.heap.size, 2, none⟩ = some (.string ⟨nm.toArray⟩) := HS3.out.bk.ev 2 (by omega)
         have k3 : w3.cell? ⟨w.heap.size, 3, none⟩ = some (.slice a kids.length cp) := HS3.out.bk.ev 3 (by omega)
         have k4 : w3.cell? ⟨w.heap.size, 4, none⟩ = some (.int .i64 mn) := HS3.out.bk.ev 4 (by omega)
         have k5 : w3.cell? ⟨w.heap.size, 5, none⟩ = some (.int .i64 mx) := HS3.out.bk.ev 5 (by omega)
         go_wp2_with fail
         go_loopw [88] (fun i wr => ∃ (k c2 : Nat) (ns2 : List (List UInt8)) (v2 : Value), i = .int .i64 k ∧ k ≤ kids.length ∧ c2 ≤ 400 ∧ ns2.length ≤ c2 ∧ ckNs (kids.drop k) (d + 1) c2 ns2 = R ∧ CK g c2 ns2 v2 wr ∧ CF (· = g) vn v2 w wr ∧ Below w0.heap.size w0 wr) (fun i _ => kids.length - (intOf i).toNat)
         case atStart => exact ⟨0, c + 1, ns, vn, rfl, by omega, by omega, by omega, HX.out, HS3.out.ck, HS3.out.cf, HS3.out.bl⟩
         case round =>
          obtain ⟨k, c2, ns2, v2, rfl, hkl, hc2, hn2, hq, hck2, hcf2, hb2⟩ := hrel
          have HQ := Lib.hid hq
          have HCK2 := Lib.hid hck2
          have HCF2 := Lib.hid hcf2
          have HB2 := Lib.hid hb2
          clear hq hck2 hcf2 hb2
          by_cases hlt : k < kids.length
          ·obtain ⟨blk, off, op', ra', rn', rc', nm', a', n', c1', mn', mx', rfl, hl, c0, c1, c2x, c3, c4, c5, ht⟩ := HK.out k hlt
           have e0 := (HB2.out.cell (p := ⟨blk, off + k * 6, none⟩) hl).trans c0
           have e1 := (HB2.out.cell (p := ⟨blk, off + k * 6 + 1, none⟩) hl).trans c1
           have e2 := (HB2.out.cell (p := ⟨blk, off + k * 6 + 2, none⟩) hl).trans c2x
           have e3 := (HB2.out.cell (p := ⟨blk, off + k * 6 + 3, none⟩) hl).trans c3
           have e4 := (HB2.out.cell (p := ⟨blk, off + k * 6 + 4, none⟩) hl).trans c4
           have e5 := (HB2.out.cell (p := ⟨blk, off + k * 6 + 5, none⟩) hl).trans c5
           have i1 : (k : Int) < (kids.length : Int) := by omega
           have i2 : (0 : Int) ≤ (k : Int) := by omega
           have hal := (Below.refl _ wr).alloc (Nat.le_refl _) (.cells #[.int .i64 op', .slice ra' rn' rc', .string ⟨nm'.toArray⟩, .slice a' n' c1', .int .i64 mn', .int .i64 mx'] 33)
           have HBA := Lib.hid (HB2.out.trans (hal.mono HB2.out.size))
           have HCKA := Lib.hid (HCK2.out.below hal)
           have HCFA := Lib.hid (HCF2.out.trans (CF.of_below hal))
           have hok := ckN_ok _ kids[k] (d + 1) c2 ns2 (Nat.lt_succ_self _) hc2 hn2
           have HI : Hid (Calls Tryz.prog 76 #[.pointer (some ⟨g, 0, none⟩), .agg #[.int .i64 op', .slice ra' rn' rc', .string ⟨nm'.toArray⟩, .slice a' n' c1', .int .i64 mn', .int .i64 mx'], .int .i64 ((d : Int) + 1)] (wr.alloc (.cells #[.int .i64 op', .slice ra' rn' rc', .string ⟨nm'.toArray⟩, .slice a' n' c1', .int .i64 mn', .int .i64 mx'] 33)) (CheckP g w0 (wr.alloc (.cells #[.int .i64 op', .slice ra' rn' rc', .string ⟨nm'.toArray⟩, .slice a' n' c1', .int .i64 mn', .int .i64 mx'] 33)) v2 (ckN kids[k] (d + 1) c2 ns2))) := Lib.hid (IH.out k hlt _ _ (d + 1) c2 ns2 v2 ht HBA.out HCKA.out hc2 hn2 (by omega))
           have HST := Lib.hid (ckNs_step hlt (d + 1) c2 ns2)
           obtain ⟨r, hr⟩ : ∃ r, ckN kids[k] (d + 1) c2 ns2 = r := ⟨_, rfl⟩
           rw [hr] at HI HST hok
           obtain ⟨r1, r2, r3⟩ := r
           simp only at HST
           have HOK := Lib.hid hok
           clear c0 c1 c2x c3 c4 c5 ht hr hal hok
           by_cases h0 : r3 = 0
           ·have HZ := Lib.hid (show ckNs (kids.drop (k + 1)) (d + 1) r1 r2 = R by rw [← HQ.out, HST.out, if_neg (by simpa using h0)])
            have HC1 : Hid (r1 ≤ 400 ∧ r2.length ≤ r1) := Lib.hid ⟨HOK.out.2.2.1 h0, HOK.out.2.1⟩
            subst h0
            go_wp2_with fail
            refine HI.out.mono ?_
            rintro e w4 ⟨v4, rfl, hck4, hcf4, hb4⟩
            have HCK4 := Lib.hid hck4
            have HCF4 := Lib.hid (HCFA.out.trans hcf4)
            have HB4 := Lib.hid hb4
            clear hck4 hcf4 hb4
            go_wp2_with fail
            go_roundw
            case rel => exact ⟨k + 1, r1, r2, v4, by go_num, by omega, HC1.out.1, HC1.out.2, HZ.out, HCK4.out, HCF4.out, HB4.out⟩
            case measure => simp [intOf]; omega
           ·have HZ := Lib.hid (show (r1, r2, r3) = R by rw [← HQ.out, HST.out, if_pos (by simpa using h0)])
            have y1 : ((r3 : Int) != 0) = true := by rw [bne_iff_ne]; omega
            go_wp2_with fail
            refine HI.out.mono ?_
            rintro e w4 ⟨v4, rfl, hck4, hcf4, hb4⟩
            have HCK4 := Lib.hid hck4
            have HCF4 := Lib.hid (HCFA.out.trans hcf4)
            have HB4 := Lib.hid hb4
            clear hck4 hcf4 hb4
            go_wp2_with fail
            go_ret
            exact ⟨v4, by rw [← HZ.out]; rfl, by rw [← HZ.out]; exact HCK4.out, HCF4.out, HB4.out⟩
          ·obtain rfl : k = kids.length := by omega
           have HZ := Lib.hid (show (c2, ns2, 0) = R by rw [← HQ.out, List.drop_length, ckNs])
           go_wp2_with fail
           go_ret
           exact ⟨v2, by rw [← HZ.out]; rfl, by rw [← HZ.out]; exact HCK2.out, HCF2.out, HB2.out⟩
        ·have z12 : (mx != -1) = true := by rw [bne_iff_ne]; exact m2
         by_cases m3 : mx < mn
         ·have z13 : decide (mx < mn) = true := decide_eq_true m3
          have hbad : badR mn mx = true := by unfold badR; simp; omega
          have HX := Lib.hid (show (c + 1, ns, 2) = R by rw [← HR2.out, HEQ2.out]; simp [hbad])
          clear hbad HEQ2
          (try clear m2)
          go_enter Tryz.func76, Tryz.ntmps76
          go_wp2_with fail
          refine HSH.out.mono ?_
          rintro e w3 ⟨rfl, hb3⟩
          have HS3 := Lib.hid (HS0.out.below hb3)
          clear hb3
          have k0 : w3.cell? ⟨w.heap.size, 0, none⟩ = some (.int .i64 4) := HS3.out.bk.ev 0 (by omega)
          have k1 : w3.cell? ⟨w.heap.size, 1, none⟩ = some (.slice ra rs.length rc) := HS3.out.bk.ev 1 (by omega)
          have k2 : w3.cell? ⟨w.heap.size, 2, none⟩ = some (.string ⟨nm.toArray⟩) := HS3.out.bk.ev 2 (by omega)
          have k3 : w3.cell? ⟨w.heap.size, 3, none⟩ = some (.slice a kids.length cp) := HS3.out.bk.ev 3 (by omega)
          have k4 : w3.cell? ⟨w.heap.size, 4, none⟩ = some (.int .i64 mn) := HS3.out.bk.ev 4 (by omega)
          have k5 : w3.cell? ⟨w.heap.size, 5, none⟩ = some (.int .i64 mx) := HS3.out.bk.ev 5 (by omega)
          go_wp2_with fail
          go_ret
          exact ⟨vn, by rw [← HX.out]; rfl, by rw [← HX.out]; exact HS3.out.ck, HS3.out.cf, HS3.out.bl⟩
         ·have z13 : decide (mx < mn) = false := decide_eq_false m3
          by_cases m4 : 40 < mx
          ·have z14 : decide (40 < mx) = true := decide_eq_true m4
           have hbad : badR mn mx = true := by unfold badR; simp; omega
           have HX := Lib.hid (show (c + 1, ns, 2) = R by rw [← HR2.out, HEQ2.out]; simp [hbad])
           clear hbad HEQ2
           (try clear m2)
           go_enter Tryz.func76, Tryz.ntmps76
           go_wp2_with fail
           refine HSH.out.mono ?_
           rintro e w3 ⟨rfl, hb3⟩
           have HS3 := Lib.hid (HS0.out.below hb3)
           clear hb3
           have k0 : w3.cell? ⟨w.heap.size, 0, none⟩ = some (.int .i64 4) := HS3.out.bk.ev 0 (by omega)
           have k1 : w3.cell? ⟨w.heap.size, 1, none⟩ = some (.slice ra rs.length rc) := HS3.out.bk.ev 1 (by omega)
           have k2 : w3.cell? ⟨w.heap.size, 2, none⟩ = some (.string ⟨nm.toArray⟩) := HS3.out.bk.ev 2 (by omega)
           have k3 : w3.cell? ⟨w.heap.size, 3, none⟩ = some (.slice a kids.length cp) := HS3.out.bk.ev 3 (by omega)
           have k4 : w3.cell? ⟨w.heap.size, 4, none⟩ = some (.int .i64 mn) := HS3.out.bk.ev 4 (by omega)
           have k5 : w3.cell? ⟨w.heap.size, 5, none⟩ = some (.int .i64 mx) := HS3.out.bk.ev 5 (by omega)
           go_wp2_with fail
           go_ret
           exact ⟨vn, by rw [← HX.out]; rfl, by rw [← HX.out]; exact HS3.out.ck, HS3.out.cf, HS3.out.bl⟩
          ·have z14 : decide (40 < mx) = false := decide_eq_false m4
           have hbad : badR mn mx = false := by unfold badR; simp; omega
           have HX := Lib.hid (show ckNs kids (d + 1) (c + 1) ns = R by rw [← HR2.out, HEQ2.out]; simp [hbad])
           clear hbad HEQ2
           (try clear m2)
           go_enter Tryz.func76, Tryz.ntmps76
           go_wp2_with fail
           refine HSH.out.mono ?_
           rintro e w3 ⟨rfl, hb3⟩
           have HS3 := Lib.hid (HS0.out.below hb3)
           clear hb3
           have k0 : w3.cell? ⟨w.heap.size, 0, none⟩ = some (.int .i64 4) := HS3.out.bk.ev 0 (by omega)
           have k1 : w3.cell? ⟨w.heap.size, 1, none⟩ = some (.slice ra rs.length rc) := HS3.out.bk.ev 1 (by omega)
           have k2 : w3.cell? ⟨w.heap.size, 2, none⟩ = some (.string ⟨nm.toArray⟩) := HS3.out.bk.ev 2 (by omega)
           have k3 : w3.cell? ⟨w.heap.size, 3, none⟩ = some (.slice a kids.length cp) := HS3.out.bk.ev 3 (by omega)
           have k4 : w3.cell? ⟨w.heap.size, 4, none⟩ = some (.int .i64 mn) := HS3.out.bk.ev 4 (by omega)
           have k5 : w3.cell? ⟨w.heap.size, 5, none⟩ = some (.int .i64 mx) := HS3.out.bk.ev 5 (by omega)
           go_wp2_with fail
           go_loopw [88] (fun i wr => ∃ (k c2 : Nat) (ns2 : List (List UInt8)) (v2 : Value), i = .int .i64 k ∧ k ≤ kids.length ∧ c2 ≤ 400 ∧ ns2.length ≤ c2 ∧ ckNs (kids.drop k) (d + 1) c2 ns2 = R ∧ CK g c2 ns2 v2 wr ∧ CF (· = g) vn v2 w wr ∧ Below w0.heap.size w0 wr) (fun i _ => kids.length - (intOf i).toNat)
           case atStart => exact ⟨0, c + 1, ns, vn, rfl, by omega, by omega, by omega, HX.out, HS3.out.ck, HS3.out.cf, HS3.out.bl⟩
           case round =>
            obtain ⟨k, c2, ns2, v2, rfl, hkl, hc2, hn2, hq, hck2, hcf2, hb2⟩ := hrel
            have HQ := Lib.hid hq
            have HCK2 := Lib.hid hck2
            have HCF2 := Lib.hid hcf2
            have HB2 := Lib.hid hb2
            clear hq hck2 hcf2 hb2
            by_cases hlt : k < kids.length
            ·obtain ⟨blk, off, op', ra', rn', rc', nm', a', n', c1', mn', mx', rfl, hl, c0, c1, c2x, c3, c4, c5, ht⟩ := HK.out k hlt
             have e0 := (HB2.out.cell (p := ⟨blk, off + k * 6, none⟩) hl).trans c0
             have e1 := (HB2.out.cell (p := ⟨blk, off + k * 6 + 1, none⟩) hl).trans c1
             have e2 := (HB2.out.cell (p := ⟨blk, off + k * 6 + 2, none⟩) hl).trans c2x
             have e3 := (HB2.out.cell (p := ⟨blk, off + k * 6 + 3, none⟩) hl).trans c3
             have e4 := (HB2.out.cell (p := ⟨blk, off + k * 6 + 4, none⟩) hl).trans c4
             have e5 := (HB2.out.cell (p := ⟨blk, off + k * 6 + 5, none⟩) hl).trans c5
             have i1 : (k : Int) < (kids.length : Int) := by omega
             have i2 : (0 : Int) ≤ (k : Int) := by omega
             have hal := (Below.refl _ wr).alloc (Nat.le_refl _) (.cells #[.int .i64 op', .slice ra' rn' rc', .string ⟨nm'.toArray⟩, .slice a' n' c1', .int .i64 mn', .int .i64 mx'] 33)
             have HBA := Lib.hid (HB2.out.trans (hal.mono HB2.out.size))
             have HCKA := Lib.hid (HCK2.out.below hal)
             have HCFA := Lib.hid (HCF2.out.trans (CF.of_below hal))
             have hok := ckN_ok _ kids[k] (d + 1) c2 ns2 (Nat.lt_succ_self _) hc2 hn2
             have HI : Hid (Calls Tryz.prog 76 #[.pointer (some ⟨g, 0, none⟩), .agg #[.int .i64 op', .slice ra' rn' rc', .string ⟨nm'.toArray⟩, .slice a' n' c1', .int .i64 mn', .int .i64 mx'], .int .i64 ((d : Int) + 1)] (wr.alloc (.cells #[.int .i64 op', .slice ra' rn' rc', .string ⟨nm'.toArray⟩, .slice a' n' c1', .int .i64 mn', .int .i64 mx'] 33)) (CheckP g w0 (wr.alloc (.cells #[.int .i64 op', .slice ra' rn' rc', .string ⟨nm'.toArray⟩, .slice a' n' c1', .int .i64 mn', .int .i64 mx'] 33)) v2 (ckN kids[k] (d + 1) c2 ns2))) := Lib.hid (IH.out k hlt _ _ (d + 1) c2 ns2 v2 ht HBA.out HCKA.out hc2 hn2 (by omega))
             have HST := Lib.hid (ckNs_step hlt (d + 1) c2 ns2)
             obtain ⟨r, hr⟩ : ∃ r, ckN kids[k] (d + 1) c2 ns2 = r := ⟨_, rfl⟩
             rw [hr] at HI HST hok
             obtain ⟨r1, r2, r3⟩ := r
             simp only at HST
             have HOK := Lib.hid hok
             clear c0 c1 c2x c3 c4 c5 ht hr hal hok
             by_cases h0 : r3 = 0
             ·have HZ := Lib.hid (show ckNs (kids.drop (k + 1)) (d + 1) r1 r2 = R by rw [← HQ.out, HST.out, if_neg (by simpa using h0)])
              have HC1 : Hid (r1 ≤ 400 ∧ r2.length ≤ r1) := Lib.hid ⟨HOK.out.2.2.1 h0, HOK.out.2.1⟩
              subst h0
              go_wp2_with fail
              refine HI.out.mono ?_
              rintro e w4 ⟨v4, rfl, hck4, hcf4, hb4⟩
              have HCK4 := Lib.hid hck4
              have HCF4 := Lib.hid (HCFA.out.trans hcf4)
              have HB4 := Lib.hid hb4
              clear hck4 hcf4 hb4
              go_wp2_with fail
              go_roundw
              case rel => exact ⟨k + 1, r1, r2, v4, by go_num, by omega, HC1.out.1, HC1.out.2, HZ.out, HCK4.out, HCF4.out, HB4.out⟩
              case measure => simp [intOf]; omega
             ·have HZ := Lib.hid (show (r1, r2, r3) = R by rw [← HQ.out, HST.out, if_pos (by simpa using h0)])
              have y1 : ((r3 : Int) != 0) = true := by rw [bne_iff_ne]; omega
              go_wp2_with fail
              refine HI.out.mono ?_
              rintro e w4 ⟨v4, rfl, hck4, hcf4, hb4⟩
              have HCK4 := Lib.hid hck4
              have HCF4 := Lib.hid (HCFA.out.trans hcf4)
              have HB4 := Lib.hid hb4
              clear hck4 hcf4 hb4
              go_wp2_with fail
              go_ret
              exact ⟨v4, by rw [← HZ.out]; rfl, by rw [← HZ.out]; exact HCK4.out, HCF4.out, HB4.out⟩
            ·obtain rfl : k = kids.length := by omega
             have HZ := Lib.hid (show (c2, ns2, 0) = R by rw [← HQ.out, List.drop_length, ckNs])
             go_wp2_with fail
             go_ret
             exact ⟨v2, by rw [← HZ.out]; rfl, by rw [← HZ.out]; exact HCK2.out, HCF2.out, HB2.out⟩
     ·have y4 : (op == 4) = false := by rw [beq_eq_false_iff_ne]; exact h4
      have HX := Lib.hid (show ckNs kids (d + 1) (c + 1) ns = R by rw [← HR2.out, HEQ2.out]; simp [h4, h5])
      clear HEQ2 h4 h5
      go_enter Tryz.func76, Tryz.ntmps76
      go_wp2_with fail
      refine HSH.out.mono ?_
      rintro e w3 ⟨rfl, hb3⟩
      have HS3 := Lib.hid (HS0.out.below hb3)
      clear hb3
      have k0 : w3.cell? ⟨w.heap.size, 0, none⟩ = some (.int .i64 op) := HS3.out.bk.ev 0 (by omega)
      have k1 : w3.cell? ⟨w.heap.size, 1, none⟩ = some (.slice ra rs.length rc) := HS3.out.bk.ev 1 (by omega)
      have k2 : w3.cell? ⟨w.heap.size, 2, none⟩ = some (.string ⟨nm.toArray⟩) := HS3.out.bk.ev 2 (by omega)
      have k3 : w3.cell? ⟨w.heap.size, 3, none⟩ = some (.slice a kids.length cp) := HS3.out.bk.ev 3 (by omega)
      have k4 : w3.cell? ⟨w.heap.size, 4, none⟩ = some (.int .i64 mn) := HS3.out.bk.ev 4 (by omega)
      have k5 : w3.cell? ⟨w.heap.size, 5, none⟩ = some (.int .i64 mx) := HS3.out.bk.ev 5 (by omega)
      go_wp2_with fail
      go_loopw [88] (fun i wr => ∃ (k c2 : Nat) (ns2 : List (List UInt8)) (v2 : Value), i = .int .i64 k ∧ k ≤ kids.length ∧ c2 ≤ 400 ∧ ns2.length ≤ c2 ∧ ckNs (kids.drop k) (d + 1) c2 ns2 = R ∧ CK g c2 ns2 v2 wr ∧ CF (· = g) vn v2 w wr ∧ Below w0.heap.size w0 wr) (fun i _ => kids.length - (intOf i).toNat)
      case atStart => exact ⟨0, c + 1, ns, vn, rfl, by omega, by omega, by omega, HX.out, HS3.out.ck, HS3.out.cf, HS3.out.bl⟩
      case round =>
       obtain ⟨k, c2, ns2, v2, rfl, hkl, hc2, hn2, hq, hck2, hcf2, hb2⟩ := hrel
       have HQ := Lib.hid hq
       have HCK2 := Lib.hid hck2
       have HCF2 := Lib.hid hcf2
       have HB2 := Lib.hid hb2
       clear hq hck2 hcf2 hb2
       by_cases hlt : k < kids.length
       ·obtain ⟨blk, off, op', ra', rn', rc', nm', a', n', c1', mn', mx', rfl, hl, c0, c1, c2x, c3, c4, c5, ht⟩ := HK.out k hlt
        have e0 := (HB2.out.cell (p := ⟨blk, off + k * 6, none⟩) hl).trans c0
        have e1 := (HB2.out.cell (p := ⟨blk, off + k * 6 + 1, none⟩) hl).trans c1
        have e2 := (HB2.out.cell (p := ⟨blk, off + k * 6 + 2, none⟩) hl).trans c2x
        have e3 := (HB2.out.cell (p := ⟨blk, off + k * 6 + 3, none⟩) hl).trans c3
        have e4 := (HB2.out.cell (p := ⟨blk, off + k * 6 + 4, none⟩) hl).trans c4
        have e5 := (HB2.out.cell (p := ⟨blk, off + k * 6 + 5, none⟩) hl).trans c5
        have i1 : (k : Int) < (kids.length : Int) := by omega
        have i2 : (0 : Int) ≤ (k : Int) := by omega
        have hal := (Below.refl _ wr).alloc (Nat.le_refl _) (.cells #[.int .i64 op', .slice ra' rn' rc', .string ⟨nm'.toArray⟩, .slice a' n' c1', .int .i64 mn', .int .i64 mx'] 33)
        have HBA := Lib.hid (HB2.out.trans (hal.mono HB2.out.size))
        have HCKA := Lib.hid (HCK2.out.below hal)
        have HCFA := Lib.hid (HCF2.out.trans (CF.of_below hal))
        have hok := ckN_ok _ kids[k] (d + 1) c2 ns2 (Nat.lt_succ_self _) hc2 hn2
        have HI : Hid (Calls Tryz.prog 76 #[.pointer (some ⟨g, 0, none⟩), .agg #[.int .i64 op', .slice ra' rn' rc', .string ⟨nm'.toArray⟩, .slice a' n' c1', .int .i64 mn', .int .i64 mx'], .int .i64 ((d : Int) + 1)] (wr.alloc (.cells #[.int .i64 op', .slice ra' rn' rc', .string ⟨nm'.toArray⟩, .slice a' n' c1', .int .i64 mn', .int .i64 mx'] 33)) (CheckP g w0 (wr.alloc (.cells #[.int .i64 op', .slice ra' rn' rc', .string ⟨nm'.toArray⟩, .slice a' n' c1', .int .i64 mn', .int .i64 mx'] 33)) v2 (ckN kids[k] (d + 1) c2 ns2))) := Lib.hid (IH.out k hlt _ _ (d + 1) c2 ns2 v2 ht HBA.out HCKA.out hc2 hn2 (by omega))
        have HST := Lib.hid (ckNs_step hlt (d + 1) c2 ns2)
        obtain ⟨r, hr⟩ : ∃ r, ckN kids[k] (d + 1) c2 ns2 = r := ⟨_, rfl⟩
        rw [hr] at HI HST hok
        obtain ⟨r1, r2, r3⟩ := r
        simp only at HST
        have HOK := Lib.hid hok
        clear c0 c1 c2x c3 c4 c5 ht hr hal hok
        by_cases h0 : r3 = 0
        ·have HZ := Lib.hid (show ckNs (kids.drop (k + 1)) (d + 1) r1 r2 = R by rw [← HQ.out, HST.out, if_neg (by simpa using h0)])
         have HC1 : Hid (r1 ≤ 400 ∧ r2.length ≤ r1) := Lib.hid ⟨HOK.out.2.2.1 h0, HOK.out.2.1⟩
         subst h0
         go_wp2_with fail
         refine HI.out.mono ?_
         rintro e w4 ⟨v4, rfl, hck4, hcf4, hb4⟩
         have HCK4 := Lib.hid hck4
         have HCF4 := Lib.hid (HCFA.out.trans hcf4)
         have HB4 := Lib.hid hb4
         clear hck4 hcf4 hb4
         go_wp2_with fail
         go_roundw
         case rel => exact ⟨k + 1, r1, r2, v4, by go_num, by omega, HC1.out.1, HC1.out.2, HZ.out, HCK4.out, HCF4.out, HB4.out⟩
         case measure => simp [intOf]; omega
        ·have HZ := Lib.hid (show (r1, r2, r3) = R by rw [← HQ.out, HST.out, if_pos (by simpa using h0)])
         have y1 : ((r3 : Int) != 0) = true := by rw [bne_iff_ne]; omega
         go_wp2_with fail
         refine HI.out.mono ?_
         rintro e w4 ⟨v4, rfl, hck4, hcf4, hb4⟩
         have HCK4 := Lib.hid hck4
         have HCF4 := Lib.hid (HCFA.out.trans hcf4)
         have HB4 := Lib.hid hb4
         clear hck4 hcf4 hb4
         go_wp2_with fail
         go_ret
         exact ⟨v4, by rw [← HZ.out]; rfl, by rw [← HZ.out]; exact HCK4.out, HCF4.out, HB4.out⟩
       ·obtain rfl : k = kids.length := by omega
        have HZ := Lib.hid (show (c2, ns2, 0) = R by rw [← HQ.out, List.drop_length, ckNs])
        go_wp2_with fail
        go_ret
        exact ⟨v2, by rw [← HZ.out]; rfl, by rw [← HZ.out]; exact HCK2.out, HCF2.out, HB2.out⟩
end Go.Proofs.YtmpbjaodgajnfaaGreatDoor
namespace Go.Proofs.YtmpbjaodgajnfaaGreatDoor
open Go.RowKit
structure WKS (w0 Wb : World) (B : Nat) (vn : Value) (ns : List (List UInt8)) (v : Value) (W : World) : Prop where
 row : W.ownsRow B 9 1 v ns.length (strCellsL ns)
 cf : CF (fun _ => False) vn v Wb W
 bl : Below w0.heap.size w0 W
 BW : B ≤ W.heap.size
 B0 : w0.heap.size ≤ B
section
variable {w0 Wb W W' : World} {B : Nat} {vn v : Value} {ns : List (List UInt8)}
theorem WKS.below (h : WKS w0 Wb B vn ns v W) (hb : Below W.heap.size W W') : WKS w0 Wb B vn ns v W' :=
 ⟨own_at h.row fun k hk => hb.block k (h.row.lt k hk).2, h.cf.trans (CF.of_below hb), h.bl.trans (hb.mono h.bl.size), Nat.le_trans h.BW hb.size, h.B0⟩
theorem WKS.push {o : Obj} {q cap H : Nat} (h : WKS w0 Wb B vn ns v W) (hgr : (W.alloc o).grownBy W' v.ownBlock) (hat : v.ownBlock = some q ∨ q = H) (hH : (W.alloc o).heap.size = H) (nm : List UInt8)
  (ho : W'.ownsRow B 9 1 (.slice (some ⟨q, 0, none⟩) (ns.length + 1) cap) (ns.length + 1) (strCellsL ns ++ [.string ⟨nm.toArray⟩])) : WKS w0 Wb B vn (ns ++ [nm]) (.slice (some ⟨q, 0, none⟩) (ns.length + 1) cap) W' := by
 refine ⟨?_, h.cf.trans (CF.push hgr hat hH.symm), h.bl.trans (((Below.refl _ W).alloc h.bl.size o).grown hgr (by have := h.bl.size; simp; omega) (fun k hk => by have := (h.row.lt k hk).1; have := h.B0; omega)), Nat.le_trans h.BW (Nat.le_trans (by simp) hgr.size), h.B0⟩
 have : (ns ++ [nm]).length = ns.length + 1 := by simp
 rw [this, show strCellsL (ns ++ [nm]) = strCellsL ns ++ [.string ⟨nm.toArray⟩] by simp [strCellsL]]
 exact ho
theorem WKS.call (h : WKS w0 Wb B vn ns v W) {r : Nat × List (List UInt8) × Nat} {v' : Value} (h1 : W'.ownsRow B 9 1 v' r.2.1.length (strCellsL r.2.1)) (h2 : CF (fun _ => False) v v' W W') (h3 : Below w0.heap.size w0 W') : WKS w0 Wb B vn r.2.1 v' W' :=
 ⟨h1, h.cf.trans h2, h3, Nat.le_trans h.BW h2.size, h.B0⟩
end
end Go.Proofs.YtmpbjaodgajnfaaGreatDoor
namespace Go.Proofs.YtmpbjaodgajnfaaGreatDoor
open Go.RowKit
def Dup (fs : List (List UInt8)) : Prop := ∃ i, ∃ h : i < fs.length, fs[i] ∈ fs.take i
open Classical in
noncomputable def ckE (t : NT) : Nat := if (ckN t 0 0 []).2.2 ≠ 0 then (ckN t 0 0 []).2.2 else if Dup (ckN t 0 0 []).2.1 then 7 else if 16 < (ckN t 0 0 []).2.1.length then 4 else 0
theorem ckE_of {t : NT} {c e : Nat} {ns : List (List UInt8)} (h : ckN t 0 0 [] = (c, ns, e)) : (e ≠ 0 → ckE t = e) ∧ (e = 0 → Dup ns → ckE t = 7) ∧ (e = 0 → ¬ Dup ns → 16 < ns.length → ckE t = 4) ∧ (e = 0 → ¬ Dup ns → ¬ 16 < ns.length → ckE t = 0) := by
 unfold ckE
 rw [h]
 refine ⟨fun h0 => if_pos h0, fun h0 h1 => ?_, fun h0 h1 h2 => ?_, fun h0 h1 h2 => ?_⟩
 ·rw [if_neg (by simpa using h0), if_pos h1]
 ·rw [if_neg (by simpa using h0), if_neg h1, if_pos h2]
 ·rw [if_neg (by simpa using h0), if_neg h1, if_neg h2]
theorem own_row {w : World} {B : Nat} {v : Value} {fs : List (List UInt8)} (h : w.ownsRow B 9 1 v fs.length (strCellsL fs)) (h0 : 0 < fs.length) :
  ∃ g cap, v = .slice (some ⟨g, 0, none⟩) fs.length cap ∧ fs.length ≤ cap ∧ cap ≤ 9223372036854775807 ∧ g < w.heap.size ∧ ∀ i (hi : i < fs.length), w.cell? ⟨g, i, none⟩ = some (.string ⟨(fs[i]).toArray⟩) := by
 have hss := ss_own h
 obtain ⟨hl, ⟨rfl, h1⟩ | ⟨g, cap, cur, rfl, _, hg, hn, hcm, hsz, htk⟩⟩ := h
 ·omega
 ·obtain ⟨a', cap', e, hc⟩ := hss
  injection e with e1 e2 e3
  subst e1 e3
  obtain ⟨g', e, hl', hc'⟩ := hc h0
  simp only [Option.some.injEq, Addr.mk.injEq, and_true] at e
  subst e
  exact ⟨g, cap, rfl, hn, hcm, hl', hc'⟩
theorem take_not {fs : List (List UInt8)} {k : Nat} {x : List UInt8} (hk : k < fs.length) (h : x ∉ fs.take k) (hx : x ≠ fs[k]) : x ∉ fs.take (k + 1) := by
 rw [Asc.snoc_take fs k hk]
 simp only [List.mem_append, List.mem_cons, List.not_mem_nil, or_false, not_or]
 exact ⟨h, hx⟩
theorem take_yes {fs : List (List UInt8)} {k n : Nat} (hk : k < fs.length) (hn : k < n) : fs[k] ∈ fs.take n := by
 rw [List.mem_take_iff_getElem]
 exact ⟨k, by omega, rfl⟩
set_option maxRecDepth 100000 in
set_option maxHeartbeats 2000000 in
theorem sindex_any (x : List UInt8) (fs : List (List UInt8)) (i g cap : Nat) (w : World) (hi : i ≤ fs.length) (hl : fs.length ≤ 1000) (hc : ∀ j (h : j < fs.length), w.cell? ⟨g, j, none⟩ = some (.string ⟨(fs[j]).toArray⟩)) :
  Calls Tryz.prog 106 #[.slice (some ⟨g, 0, none⟩) i cap, .string ⟨x.toArray⟩] w fun e w' => (∃ n : Int, e = .returned (.int .i64 n) ∧ (0 ≤ n ↔ x ∈ fs.take i)) ∧ w = w' := by
 have HC := Lib.hid hc
 clear hc
 go_enter Tryz.func106, Tryz.ntmps106
 go_wp2_with fail
 go_loop [8] (fun q => ∃ k : Nat, k ≤ i ∧ q = .int .i64 k ∧ Hid (x ∉ fs.take k)) (fun q => i - (intOf q).toNat)
 case atStart => exact ⟨0, by omega, rfl, Lib.hid (by simp)⟩
 case round =>
  obtain ⟨k, hki, rfl, HNO⟩ := hrel
  by_cases hlt : k < i
  ·have hcell := HC.out k (by omega)
   have i1 : (k : Int) < (i : Int) := by omega
   have i2 : (0 : Int) ≤ (k : Int) := by omega
   have HY := Lib.hid (take_yes (fs := fs) (k := k) (n := i) (by omega) hlt)
   have hkf : k < fs.length := by omega
   have HN : Hid (x ≠ fs[k] → x ∉ fs.take (k + 1)) := Lib.hid (fun hx => take_not hkf HNO.out hx)
   generalize fs[k] = y at *
   by_cases he : x = y
   ·subst he
    go_wp2_with fail
    go_ret
    exact ⟨⟨k, rfl, iff_of_true (by omega) HY.out⟩, rfl⟩
   ·have b1 : (x == y) = false := beq_eq_false_iff_ne.2 he
    have HN2 := Lib.hid (HN.out he)
    clear he HN HY
    go_wp2_with fail
    go_round
    case rel => exact ⟨k + 1, by omega, by go_num, HN2⟩
    case measure => simp [intOf]; omega
  ·obtain rfl : k = i := by omega
   go_wp2_with fail
   go_ret
   exact ⟨⟨-1, rfl, iff_of_false (by omega) HNO.out⟩, rfl⟩
theorem scontains_any (x : List UInt8) (fs : List (List UInt8)) (i g cap : Nat) (w : World) (hi : i ≤ fs.length) (hl : fs.length ≤ 1000) (hc : ∀ j (h : j < fs.length), w.cell? ⟨g, j, none⟩ = some (.string ⟨(fs[j]).toArray⟩)) (b : Bool) (hb : b = true ↔ x ∈ fs.take i) :
  Calls Tryz.prog 77 #[.slice (some ⟨g, 0, none⟩) i cap, .string ⟨x.toArray⟩] w fun e w' => e = .returned (.bool b) ∧ w = w' := by
 have HI := Lib.hid (sindex_any x fs i g cap w hi hl hc)
 have HB := Lib.hid hb
 clear hc hb
 go_enter Tryz.func77, Tryz.ntmps77
 go_wp2_with fail
 refine HI.out.mono ?_
 rintro e w' ⟨⟨n, rfl, hn⟩, rfl⟩
 have HN := Lib.hid hn
 clear hn
 go_wp2_with fail
 go_ret
 refine ⟨ret_bool ?_, rfl⟩
 rw [Bool.eq_iff_iff, HB.out, ← HN.out]
 simp
theorem ck_new (w : World) : CK w.heap.size 0 [] (.slice none 0 0) (w.alloc (.cells #[.int .i64 0, .slice none 0 0] 131)) :=
 ⟨by simp, by simp [go_sem], by simp [go_sem], by simp [go_sem], by simp [go_sem], World.ownsRow_nil _ _ _ _⟩
set_option maxRecDepth 100000 in
set_option maxHeartbeats 4000000 in
theorem check_any (t : NT) (v : Value) (w : World) (h : NAt w t v) (hk : Kinds w) :
  Calls Tryz.prog 53 #[v] w fun e w' => e = .returned (.int .i64 (ckE t)) ∧ Below w.heap.size w w' := by
 obtain ⟨op, rs, nm, kids, mn, mx, ra, rc, a, cp, ht, rfl, _⟩ := h.open
 have hb1 := (Below.refl _ w).alloc (Nat.le_refl _) (.cells #[.int .i64 op, .slice ra rs.length rc, .string ⟨nm.toArray⟩, .slice a kids.length cp, .int .i64 mn, .int .i64 mx] 33)
 have HB0 := Lib.hid (hb1.alloc hb1.size (.cells #[.int .i64 0, .slice none 0 0] 131))
 have HCK : Hid (CK (w.heap.size + 1) 0 [] (.slice none 0 0) ((w.alloc (.cells #[.int .i64 op, .slice ra rs.length rc, .string ⟨nm.toArray⟩, .slice a kids.length cp, .int .i64 mn, .int .i64 mx] 33)).alloc (.cells #[.int .i64 0, .slice none 0 0] 131))) := Lib.hid (by
  have := ck_new (w.alloc (.cells #[.int .i64 op, .slice ra rs.length rc, .string ⟨nm.toArray⟩, .slice a kids.length cp, .int .i64 mn, .int .i64 mx] 33))
  simpa using this)
 have HI := Lib.hid (check_aux _ t _ w _ (w.heap.size + 1) 0 0 [] (.slice none 0 0) (Nat.lt_succ_self _) h hk HB0.out (by omega) HCK.out (by omega) (by simp) (by omega))
 have hok := ckN_ok _ t 0 0 [] (Nat.lt_succ_self _) (by omega) (by simp)
 obtain ⟨r, hr⟩ : ∃ r, ckN t 0 0 [] = r := ⟨_, rfl⟩
 rw [hr] at HI hok
 obtain ⟨c, ns, e⟩ := r
 have HE := Lib.hid (ckE_of hr)
 have HOK := Lib.hid hok
 obtain ⟨Z, hZ⟩ : ∃ Z, ckE t = Z := ⟨_, rfl⟩
 rw [hZ] at HE ⊢
 clear h hk hb1 hr hok hZ ht
 go_enter Tryz.func53, Tryz.ntmps53
 go_wp2_with fail
 refine HI.out.mono ?_
 rintro q w2 ⟨v2, rfl, hck, hcf, hb⟩
 have HCK2 := Lib.hid hck
 have HB2 := Lib.hid hb
 clear hck hcf hb HI
 have p1 := HCK2.out.c1
 have hlen : ns.length ≤ 401 := Nat.le_trans HOK.out.2.1 HOK.out.1
 by_cases e0 : e = 0
 ·have HE2 : Hid ((Dup ns → Z = 7) ∧ (¬ Dup ns → 16 < ns.length → Z = 4) ∧ (¬ Dup ns → ¬ 16 < ns.length → Z = 0)) := Lib.hid ⟨HE.out.2.1 e0, HE.out.2.2.1 e0, HE.out.2.2.2 e0⟩
  subst e0
  rcases Nat.eq_zero_or_pos ns.length with l0 | l0
  ·have hns : ns = [] := List.length_eq_zero_iff.1 l0
   subst hns
   have hv : v2 = .slice none 0 0 ∨ ∃ g cap, v2 = .slice (some ⟨g, 0, none⟩) 0 cap := by
    rcases HCK2.out.row.2 with ⟨h1, _⟩ | ⟨g, cap, cur, h1, _⟩
    ·exact .inl h1
    ·exact .inr ⟨g, cap, h1⟩
   have HZ : Hid (Z = 0) := Lib.hid (HE2.out.2.2 (fun ⟨i, h, _⟩ => by simp at h) (by simp))
   rcases hv with rfl | ⟨g, cap, rfl⟩
   all_goals
    go_wp2_with fail
    go_loop [20] (fun q => q = .int .i64 0) (fun _ => 0)
    case atStart => rfl
    case round =>
     obtain rfl := hrel
     go_wp2_with fail
     go_ret
     exact ⟨ret_int (by rw [HZ.out]; rfl), HB2.out⟩
  ·obtain ⟨g, cap, rfl, hcap, hcm, hgl, hcell⟩ := own_row HCK2.out.row l0
   have HC := Lib.hid hcell
   clear hcell
   go_wp2_with fail
   go_loop [20] (fun q => ∃ k : Nat, k ≤ ns.length ∧ q = .int .i64 k ∧ Hid (∀ i (h : i < ns.length), i < k → ns[i] ∉ ns.take i)) (fun q => ns.length - (intOf q).toNat)
   case atStart => exact ⟨0, by omega, rfl, Lib.hid (fun _ _ _ => by omega)⟩
   case round =>
    obtain ⟨k, hkl, rfl, HNO⟩ := hrel
    by_cases hlt : k < ns.length
    ·have hcell := HC.out k hlt
     have i1 : (k : Int) < (ns.length : Int) := by omega
     have i2 : (0 : Int) ≤ (k : Int) := by omega
     have i3 : (k : Int) ≤ (cap : Int) := by omega
     by_cases hm : ns[k] ∈ ns.take k
     ·have HCO := Lib.hid (scontains_any ns[k] ns k g cap w2 hkl (by omega) HC.out true (iff_of_true rfl hm))
      have HZ : Hid (Z = 7) := Lib.hid (HE2.out.1 ⟨k, hlt, hm⟩)
      clear hm
      generalize ns[k] = y at *
      go_wp2_with fail
      refine HCO.out.mono ?_
      rintro q w3 ⟨rfl, rfl⟩
      go_wp2_with fail
      go_ret
      exact ⟨ret_int (by rw [HZ.out]; rfl), HB2.out⟩
     ·have HCO := Lib.hid (scontains_any ns[k] ns k g cap w2 hkl (by omega) HC.out false (iff_of_false (by decide) hm))
      have HN2 : Hid (∀ i (h : i < ns.length), i < k + 1 → ns[i] ∉ ns.take i) := Lib.hid (fun i h h2 => by
       by_cases e : i = k
       ·subst e; exact hm
       ·exact HNO.out i h (by omega))
      clear hm
      generalize ns[k] = y at *
      go_wp2_with fail
      refine HCO.out.mono ?_
      rintro q w3 ⟨rfl, rfl⟩
      go_wp2_with fail
      go_round
      case rel => exact ⟨k + 1, by omega, by go_num, HN2⟩
      case measure => simp [intOf]; omega
    ·obtain rfl : k = ns.length := by omega
     have HND : Hid (¬ Dup ns) := Lib.hid (fun ⟨i, h, hm⟩ => HNO.out i h h hm)
     by_cases h16 : 16 < ns.length
     ·have z1 : decide ((16 : Int) < (ns.length : Int)) = true := decide_eq_true (by omega)
      have HZ : Hid (Z = 4) := Lib.hid (HE2.out.2.1 HND.out h16)
      go_wp2_with fail
      go_ret
      exact ⟨ret_int (by rw [HZ.out]; rfl), HB2.out⟩
     ·have z1 : decide ((16 : Int) < (ns.length : Int)) = false := decide_eq_false (by omega)
      have HZ : Hid (Z = 0) := Lib.hid (HE2.out.2.2 HND.out h16)
      go_wp2_with fail
      go_ret
      exact ⟨ret_int (by rw [HZ.out]; rfl), HB2.out⟩
 ·have HZ : Hid (Z = e) := Lib.hid (HE.out.1 e0)
  have y1 : ((e : Int) != 0) = true := by rw [bne_iff_ne]; omega
  go_wp2_with fail
  go_ret
  exact ⟨ret_int (by rw [HZ.out]), HB2.out⟩
end Go.Proofs.YtmpbjaodgajnfaaGreatDoor
namespace Go.Proofs.YtmpbjaodgajnfaaGreatDoor.Mt
mutual
def prN : NT → List Nm
 | .node op _ nm kids _ _ => (if op = 5 then [nm] else []) ++ prL kids
def prL : List NT → List Nm
 | [] => []
 | k :: ks => prN k ++ prL ks
end
mutual
theorem ckN_shift : ∀ (t : NT) (d c d' c' : Nat) (ns ns' : List Nm), d' ≤ d → c' ≤ c → (ckN t d c ns).2.2 = 0 → (ckN t d' c' ns').2.2 = 0 ∧ (ckN t d c ns).2.1 = ns ++ prN t ∧ (ckN t d' c' ns').1 + c = (ckN t d c ns).1 + c' ∧ c < (ckN t d c ns).1
 | .node op rs nm ks mn mx, d, c, d', c', ns, ns', hd, hc, h => by
  rw [ckN] at h
  by_cases h1 : 400 < c + 1
  ·rw [if_pos h1] at h; cases h
  rw [if_neg h1] at h
  by_cases h2 : 20 < d
  ·rw [if_pos h2] at h; cases h
  rw [if_neg h2] at h
  by_cases h3 : shE op rs nm ks.length mn mx ≠ 0
  ·rw [if_pos h3] at h; exact absurd h h3
  rw [if_neg h3] at h
  obtain ⟨i1, i2, i3, i4⟩ := ckNs_shift ks (d + 1) (c + 1) (d' + 1) (c' + 1) (if op = 5 then ns ++ [nm] else ns) (if op = 5 then ns' ++ [nm] else ns') (by omega) (by omega) h
  have e1 : ckN (.node op rs nm ks mn mx) d c ns = ckNs ks (d + 1) (c + 1) (if op = 5 then ns ++ [nm] else ns) := by rw [ckN, if_neg h1, if_neg h2, if_neg h3]
  have e2 : ckN (.node op rs nm ks mn mx) d' c' ns' = ckNs ks (d' + 1) (c' + 1) (if op = 5 then ns' ++ [nm] else ns') := by rw [ckN, if_neg (by omega), if_neg (by omega), if_neg h3]
  rw [e1, e2]
  refine ⟨i1, ?_, by omega, by omega⟩
  rw [i2, prN]
  split
  ·rw [List.append_assoc]
  ·rfl
theorem ckNs_shift : ∀ (ks : List NT) (d c d' c' : Nat) (ns ns' : List Nm), d' ≤ d → c' ≤ c → (ckNs ks d c ns).2.2 = 0 → (ckNs ks d' c' ns').2.2 = 0 ∧ (ckNs ks d c ns).2.1 = ns ++ prL ks ∧ (ckNs ks d' c' ns').1 + c = (ckNs ks d c ns).1 + c' ∧ c ≤ (ckNs ks d c ns).1
 | [], d, c, d', c', ns, ns', _, _, _ => by
  rw [ckNs, ckNs, prL, List.append_nil]
  exact ⟨rfl, rfl, by simp only; omega, Nat.le_refl _⟩
 | k :: ks, d, c, d', c', ns, ns', hd, hc, h => by
  rw [ckNs] at h
  by_cases h1 : (ckN k d c ns).2.2 ≠ 0
  ·rw [if_pos h1] at h; exact absurd h h1
  rw [if_neg h1] at h
  obtain ⟨j1, j2, j3, j4⟩ := ckN_shift k d c d' c' ns ns' hd hc (by omega)
  obtain ⟨i1, i2, i3, i4⟩ := ckNs_shift ks d (ckN k d c ns).1 d' (ckN k d' c' ns').1 (ckN k d c ns).2.1 (ckN k d' c' ns').2.1 hd (by omega) h
  have e1 : ckNs (k :: ks) d c ns = ckNs ks d (ckN k d c ns).1 (ckN k d c ns).2.1 := by rw [ckNs, if_neg h1]
  have e2 : ckNs (k :: ks) d' c' ns' = ckNs ks d' (ckN k d' c' ns').1 (ckN k d' c' ns').2.1 := by rw [ckNs, if_neg (by omega)]
  rw [e1, e2]
  refine ⟨i1, ?_, by omega, by omega⟩
  rw [i2, j2, prL, List.append_assoc]
end
theorem ckE_zero {t : NT} (h : ckE t = 0) : (ckN t 0 0 []).2.2 = 0 ∧ ¬ Dup (prN t) ∧ (prN t).length ≤ 16 := by
 unfold ckE at h
 split at h
 ·next h1 => exact absurd h h1
 ·next h1 =>
  have h0 : (ckN t 0 0 []).2.2 = 0 := by omega
  have hn := (ckN_shift t 0 0 0 0 [] [] (Nat.le_refl _) (Nat.le_refl _) h0).2.1
  rw [List.nil_append] at hn
  rw [hn] at h
  split at h
  ·cases h
  ·next h2 =>
   split at h
   ·cases h
   ·next h3 => exact ⟨h0, h2, by omega⟩
def SbF (fn : List Nm → List Nm) (P : List Nm) : Prop := ∀ ns x, x ∈ fn ns → x ∈ ns ∨ x ∈ P
theorem SbF.times {fn : List Nm → List Nm} {P : List Nm} (h : SbF fn P) : ∀ n, SbF (timesN fn n) P
 | 0, ns, x, hx => .inl hx
 | n + 1, ns, x, hx => by
  rw [timesN] at hx
  rcases SbF.times h n (fn ns) x hx with hx | hx
  ·exact h ns x hx
  ·exact .inr hx
theorem capL_sb (ns : List Nm) (nm x : Nm) (h : x ∈ capL ns nm) : x ∈ ns ∨ x = nm := by
 unfold capL at h
 split at h
 ·exact .inl h
 ·simpa using h
mutual
theorem capsN_sb : ∀ t : NT, SbF (capsN t) (prN t)
 | .node op rs nm kids mn mx, ns, x, h => by
  rw [capsN] at h
  rw [prN]
  by_cases h5 : op = 5
  ·rw [if_pos h5] at h ⊢
   rcases capsL_sb kids _ x h with h | h
   ·rcases capL_sb ns nm x h with h | rfl
    ·exact .inl h
    ·exact .inr (by simp)
   ·exact .inr (List.mem_append_right _ h)
  ·rw [if_neg h5] at h ⊢
   exact capsL_sb kids ns x h
theorem capsL_sb : ∀ ks : List NT, SbF (capsL ks) (prL ks)
 | [], ns, x, h => by rw [capsL] at h; exact .inl h
 | k :: ks, ns, x, h => by
  rw [capsL] at h
  rw [prL]
  rcases capsL_sb ks _ x h with h | h
  ·rcases capsN_sb k ns x h with h | h
   ·exact .inl h
   ·exact .inr (List.mem_append_left _ h)
  ·exact .inr (List.mem_append_right _ h)
end
theorem prL_take (x : Nm) : ∀ (ks : List NT) (n : Nat), x ∈ prL (ks.take n) → x ∈ prL ks
 | [], n, h => by rwa [List.take_nil] at h
 | k :: ks, 0, h => by rw [List.take_zero, prL] at h; cases h
 | k :: ks, n + 1, h => by
  rw [List.take_succ_cons, prL] at h
  rw [prL]
  rcases List.mem_append.1 h with h | h
  ·exact List.mem_append_left _ h
  ·exact List.mem_append_right _ (prL_take x ks n h)
mutual
theorem nsN_sb : ∀ t : NT, SbF (nsN t) (prN t)
 | .node op rs nm kids mn mx, ns, x, h => by
  have hH := nsH_sb kids
  rw [nsN] at h
  rw [prN]
  by_cases h0 : op = 1
  ·rw [if_pos h0] at h; exact .inl h
  rw [if_neg h0] at h
  by_cases h2 : op = 6
  ·rw [if_pos h2] at h; exact .inl h
  rw [if_neg h2] at h
  by_cases h3 : op = 7
  ·rw [if_pos h3] at h; exact .inl h
  rw [if_neg h3] at h
  by_cases h4 : op = 2
  ·rw [if_pos h4] at h
   rcases nsL_sb kids ns x h with h | h
   ·exact .inl h
   ·exact .inr (List.mem_append_right _ h)
  rw [if_neg h4] at h
  by_cases h5 : op = 3
  ·rw [if_pos h5] at h
   rcases nsL_sb kids ns x h with h | h
   ·exact .inl h
   ·exact .inr (List.mem_append_right _ h)
  rw [if_neg h5] at h
  by_cases h6 : op = 5
  ·rw [if_pos h6] at h ⊢
   rcases hH _ x h with h | h
   ·rcases capL_sb ns nm x h with h | rfl
    ·exact .inl h
    ·exact .inr (by simp)
   ·exact .inr (List.mem_append_right _ h)
  rw [if_neg h6] at h
  by_cases h7 : op = 4
  ·rw [if_pos h7] at h
   by_cases h8 : mx = 0
   ·rw [if_pos h8] at h
    rcases capsL_sb _ ns x h with h | h
    ·exact .inl h
    ·exact .inr (List.mem_append_right _ (prL_take x kids 1 h))
   ·rw [if_neg h8] at h
    have key : x ∈ ns ∨ x ∈ prL kids := by
     split at h
     ·rcases hH _ x h with h | h
      ·exact SbF.times hH _ ns x h
      ·exact .inr h
     ·rcases SbF.times hH _ _ x h with h | h
      ·exact SbF.times hH _ ns x h
      ·exact .inr h
    exact key.imp id fun h => List.mem_append_right _ h
  ·rw [if_neg h7] at h; exact .inl h
theorem nsH_sb : ∀ ks : List NT, SbF (nsH ks) (prL ks)
 | [], ns, x, h => by rw [nsH] at h; exact .inl h
 | k :: ks, ns, x, h => by
  rw [nsH] at h
  rw [prL]
  exact (nsN_sb k ns x h).imp id fun h => List.mem_append_left _ h
theorem nsL_sb : ∀ ks : List NT, SbF (nsL ks) (prL ks)
 | [], ns, x, h => by rw [nsL] at h; exact .inl h
 | k :: ks, ns, x, h => by
  rw [nsL] at h
  rw [prL]
  rcases nsL_sb ks _ x h with h | h
  ·exact (nsN_sb k ns x h).imp id fun h => List.mem_append_left _ h
  ·exact .inr (List.mem_append_right _ h)
end
end Go.Proofs.YtmpbjaodgajnfaaGreatDoor.Mt
namespace Go.Proofs.YtmpbjaodgajnfaaGreatDoor
open Go.RowKit
def rowV : Option (Nat × List Nat) → Value
 | none => .slice none 0 0
 | some x => .slice (some ⟨x.1, 0, none⟩) x.2.length x.2.length
def wordsV (vs : List Nat) : Array Value := (vs.map fun (v : Nat) => Value.int .u64 (v : Int)).toArray
structure FR (C : List Mt.Ins) (s : List UInt8) (L : Nat) (F : Nat → Prop) (fa : Nat) (row : Nat → Option (Nat × List Nat)) (w : World) : Prop where
 head : w.heap[fa]? = some (.cells ((List.range (L + 1)).map fun e => rowV (row e)).toArray 223 (0, 0))
 out : ¬ F fa
 bnd : ∀ b, F b → b < w.heap.size
 words : ∀ e b vs, row e = some (b, vs) → e ≤ L → w.heap[b]? = some (.cells (wordsV vs) 220 (0, 0)) ∧ vs.length = C.length * (s.length + 1) / 64 + 1 ∧ ¬ F b ∧ b ≠ fa ∧ (∀ v ∈ vs, v < 18446744073709551616) ∧ Mt.Sound C s L e vs
 inj : ∀ e e' b vs vs', row e = some (b, vs) → row e' = some (b, vs') → e ≤ L → e' ≤ L → e = e'
theorem heap_lt {w : World} {b : Nat} {x : Obj} (h : w.heap[b]? = some x) : b < w.heap.size := by
 rw [Array.getElem?_eq_some_iff] at h
 exact h.1
theorem FR.keep {C : List Mt.Ins} {s : List UInt8} {L : Nat} {F F' : Nat → Prop} {fa : Nat} {row : Nat → Option (Nat × List Nat)} {w w' : World} (h : FR C s L F fa row w) (hb : ∀ b, b < w.heap.size → w'.heap[b]? = w.heap[b]?) (hF : ∀ b, F' b → b < w'.heap.size ∧ (b < w.heap.size → F b)) : FR C s L F' fa row w' where
 head := (hb fa (heap_lt h.head)).trans h.head
 out := fun hf => h.out ((hF fa hf).2 (heap_lt h.head))
 bnd := fun b hf => (hF b hf).1
 words := fun e b vs hr he => by
  obtain ⟨h1, h2, h3, h4⟩ := h.words e b vs hr he
  exact ⟨(hb b (heap_lt h1)).trans h1, h2, fun hf => h3 ((hF b hf).2 (heap_lt h1)), h4⟩
 inj := h.inj
def FtB (C : List Mt.Ins) (s : List UInt8) (L : Nat) (F : Nat → Prop) (fa : Nat) (w : World) : Prop := ∃ row, FR C s L F fa row w
theorem FtB.keep {C : List Mt.Ins} {s : List UInt8} {L : Nat} {F F' : Nat → Prop} {fa : Nat} {w w' : World} (h : FtB C s L F fa w) (hb : ∀ b, b < w.heap.size → w'.heap[b]? = w.heap[b]?) (hF : ∀ b, F' b → b < w'.heap.size ∧ (b < w.heap.size → F b)) : FtB C s L F' fa w' := by
 obtain ⟨row, h⟩ := h
 exact ⟨row, h.keep hb hF⟩
theorem FR.at {C : List Mt.Ins} {s : List UInt8} {L : Nat} {F : Nat → Prop} {fa : Nat} {row : Nat → Option (Nat × List Nat)} {w : World} (h : FR C s L F fa row w) {e : Nat} (he : e ≤ L) : w.cell? ⟨fa, e, none⟩ = some (rowV (row e)) := by
 rw [Lib.cell_of_heap h.head]
 have : e < L + 1 := by omega
 simp [this]
theorem FR.word {C : List Mt.Ins} {s : List UInt8} {L : Nat} {F : Nat → Prop} {fa : Nat} {row : Nat → Option (Nat × List Nat)} {w : World} (h : FR C s L F fa row w) {e b : Nat} {vs : List Nat} (he : e ≤ L) (hr : row e = some (b, vs)) {i : Nat} (hi : i < vs.length) : w.cell? ⟨b, i, none⟩ = some (.int .u64 (vs[i] : Int)) := by
 rw [Lib.cell_of_heap (h.words e b vs hr he).1]
 unfold wordsV
 simp [hi]
theorem Mt.stI_word {n m pc at_ : Nat} (hp : pc < m) (ha : at_ ≤ n) : Mt.stI n pc at_ / 64 < m * (n + 1) / 64 + 1 := by
 have h1 : Mt.stI n pc at_ < Mt.stI n m 0 := Mt.stI_lt ha hp
 have h2 : Mt.stI n m 0 = m * (n + 1) := rfl
 have := Nat.div_le_div_right (c := 64) (Nat.le_of_lt h1)
 omega
end Go.Proofs.YtmpbjaodgajnfaaGreatDoor
namespace Go.Proofs.YtmpbjaodgajnfaaGreatDoor
open Go.RowKit
def MStr (w : World) (g : Nat) (s : List UInt8) : Prop := w.cell? ⟨g, 3, none⟩ = some (.string ⟨s.toArray⟩)
set_option maxHeartbeats 4000000 in
set_option maxRecDepth 1000000 in
theorem state_any (g pc at_ : Nat) (s : List UInt8) (w : World) (hs : MStr w g s) (hl : s.length ≤ 20000) (hp : pc ≤ 10000) (ha : at_ ≤ 20000) :
  Calls Tryz.prog 159 #[.pointer (some ⟨g, 0, none⟩), .int .i64 (pc : Int), .int .i64 (at_ : Int)] w fun e w' => e = .returned (.tuple #[.int .i64 ((Mt.stI s.length pc at_ / 64 : Nat) : Int), .int .u64 ((2 ^ (Mt.stI s.length pc at_ % 64) : Nat) : Int)]) ∧ ∃ q, w' = w.drewN q := by
 unfold MStr at hs
 have hm : pc * (s.length + 1) ≤ 10000 * 20001 := Nat.mul_le_mul hp (by omega)
 have hN : Mt.stI s.length pc at_ = pc * (s.length + 1) + at_ := rfl
 have hb : Mt.stI s.length pc at_ ≤ 1000000000 := by omega
 obtain ⟨N, hNN⟩ : ∃ N, Mt.stI s.length pc at_ = N := ⟨_, rfl⟩
 have e2 : wrap64 (wrap64 ((pc : Int) * ((s.length : Int) + 1)) + (at_ : Int)) = (N : Int) := by
  obtain ⟨M, hM⟩ : ∃ M, pc * (s.length + 1) = M := ⟨_, rfl⟩
  rw [show (pc : Int) * ((s.length : Int) + 1) = ((pc * (s.length + 1) : Nat) : Int) by push_cast; rfl, hM]
  rw [hM] at hm hN
  unfold wrap64
  omega
 rw [hNN] at hb ⊢
 obtain ⟨D, hD⟩ : ∃ D, N / 64 = D := ⟨_, rfl⟩
 obtain ⟨R, hR⟩ : ∃ R, N % 64 = R := ⟨_, rfl⟩
 have hR6 : R < 64 := by omega
 rw [hD, hR]
 have e3 : IntKind.i64.wrap ((N : Int).tdiv 64) = (D : Int) := by
  rw [show (N : Int).tdiv 64 = ((N / 64 : Nat) : Int) from rfl, IntWalk.i64_in _ (by omega), hD]
 have e4 : (N : Int).tmod 64 = (R : Int) := by rw [show (N : Int).tmod 64 = ((N % 64 : Nat) : Int) from rfl, hR]
 have hP : 2 ^ R ≤ 2 ^ 63 := Nat.pow_le_pow_right (by decide) (by omega)
 have e5 : Op.shift .shl .u64 1 .i64 (R : Int) = pure (.int .u64 ((2 ^ R : Nat) : Int)) := by
  rw [shift_shl .u64 .i64 1 R (by omega) (by simp [IntKind.bits]; omega), Int.toNat_natCast, IntKind.wrap_u64, show (1 : Int) * 2 ^ R = ((2 ^ R : Nat) : Int) by push_cast; omega]
  obtain ⟨P, hPP⟩ : ∃ P, 2 ^ R = P := ⟨_, rfl⟩
  rw [hPP] at hP ⊢
  congr 2
  omega
 obtain ⟨P, hPP⟩ : ∃ P, 2 ^ R = P := ⟨_, rfl⟩
 rw [hPP] at e5 ⊢
 have HD : Hid ((N : Int) / 64 = (D : Int)) := Lib.hid (by omega)
 have HP : Hid (IntKind.u64.wrap (2 ^ R) = (P : Int)) := Lib.hid (by
  rw [← hPP, show ((2 : Int) ^ R) = ((2 ^ R : Nat) : Int) by push_cast; rfl, hPP, IntKind.wrap_u64]
  rw [hPP] at hP
  omega)
 clear hm hN hNN hD hR hP hPP
 have E2 := Lib.hid e2
 clear e2
 go_enter Tryz.func159, Tryz.ntmps159
 go_wp2_with fail
 have e2 := E2.out
 rw [e2]
 clear e2 E2
 go_quiet (fail)
 go_wp2_with fail
 go_ret2
 rw [HD.out, HP.out]
 exact ⟨rfl, _, rfl⟩
def MNo (w : World) (g fa L : Nat) : Prop := w.cell? ⟨g, 4, none⟩ = some (.slice (some ⟨fa, 0, none⟩) (L + 1) (L + 1))
set_option maxHeartbeats 4000000 in
set_option maxRecDepth 1000000 in
theorem hopeless_any (C : List Mt.Ins) (s : List UInt8) (L : Nat) (F : Nat → Prop) (g fa : Nat) (row : Nat → Option (Nat × List Nat)) (pc at_ e : Nat) (w : World) (hs : MStr w g s) (hn : MNo w g fa L) (hf : FR C s L F fa row w) (hl : s.length ≤ 20000) (hC : C.length ≤ 10000) (hp : pc < C.length) (ha : at_ ≤ s.length) (he : e ≤ L) :
  Calls Tryz.prog 137 #[.pointer (some ⟨g, 0, none⟩), .int .i64 (pc : Int), .int .i64 (at_ : Int), .int .i64 (e : Int)] w fun ev w' => (∃ b, ev = .returned (.bool b) ∧ (b = true → Mt.Way C s L pc at_ e none)) ∧ ∃ q, w' = w.drewN q := by
 have hst := state_any g pc at_ s w hs hl (by omega) (by omega)
 have hw := Mt.stI_word (n := s.length) hp ha
 have hrow := hf.at he
 have hpl : 2 ^ (Mt.stI s.length pc at_ % 64) ≤ 2 ^ 63 := Nat.pow_le_pow_right (by decide) (by omega)
 have hfact : ∀ b vs V, row e = some (b, vs) → vs[Mt.stI s.length pc at_ / 64]? = some V → V &&& 2 ^ (Mt.stI s.length pc at_ % 64) ≠ 0 → Mt.Way C s L pc at_ e none := fun b vs V h hV hne => by
  refine (hf.words e b vs h he).2.2.2.2.2 pc at_ V ha hV ?_
  cases hb : V.testBit (Mt.stI s.length pc at_ % 64) with
  | true => rfl
  | false => exact absurd ((Mt.bit_and V _).2 hb) hne
 unfold MNo at hn
 obtain ⟨D, hD⟩ : ∃ D, Mt.stI s.length pc at_ / 64 = D := ⟨_, rfl⟩
 obtain ⟨P, hP⟩ : ∃ P, 2 ^ (Mt.stI s.length pc at_ % 64) = P := ⟨_, rfl⟩
 rw [hD] at hst hw hfact
 rw [hP] at hst hpl hfact
 have HST := Lib.hid hst
 have HF := Lib.hid hfact
 clear hst hD hP hfact hs
 cases hr : row e with
 | none =>
  rw [hr] at hrow
  unfold rowV at hrow
  clear hf hr
  go_enter Tryz.func137, Tryz.ntmps137
  go_wp2_with (go_at_call 159; refine HST.out.mono fun ev w1 ⟨hev, q, hw1⟩ => ?_; subst hev hw1)
  go_ret
  exact ⟨⟨false, rfl, fun h => by cases h⟩, _, rfl⟩
 | some x =>
  obtain ⟨b, vs⟩ := x
  obtain ⟨_, hlen, _, _, hlt, _⟩ := hf.words e b vs hr he
  rw [hr] at hrow
  unfold rowV at hrow
  simp only at hrow
  rw [← hlen] at hw
  have hwd := hf.word he hr hw
  have hV := hlt _ (List.getElem_mem hw)
  have HG := HF.out b vs vs[D] hr (List.getElem?_eq_getElem hw)
  obtain ⟨V, hVV⟩ : ∃ V, vs[D] = V := ⟨_, rfl⟩
  rw [hVV] at hwd hV HG
  obtain ⟨n, hnn⟩ : ∃ n, vs.length = n := ⟨_, rfl⟩
  rw [hnn] at hrow hw
  have hand := u64_and_nat V P hV (by omega)
  obtain ⟨Q, hQ⟩ : ∃ Q, V &&& P = Q := ⟨_, rfl⟩
  rw [hQ] at hand HG
  have HH := Lib.hid HG
  clear HF hf hVV hnn HG hlen hr hlt hQ
  go_enter Tryz.func137, Tryz.ntmps137
  go_wp2_with (go_at_call 159; refine HST.out.mono fun ev w1 ⟨hev, q, hw1⟩ => ?_; subst hev hw1)
  go_ret
  refine ⟨⟨_, rfl, fun h => HH.out ?_⟩, _, rfl⟩
  intro hq
  subst hq
  simp at h
structure Kp (F : Nat → Prop) (w w' : World) : Prop where
 os : w'.os = w.os
 tape : w'.tape = w.tape
 output : w'.output = w.output
 size : w.heap.size ≤ w'.heap.size
 block : ∀ b, F b → b < w.heap.size → w'.heap[b]? = w.heap[b]?
end Go.Proofs.YtmpbjaodgajnfaaGreatDoor
namespace Go.Proofs.YtmpbjaodgajnfaaGreatDoor
open Go.RowKit
end Go.Proofs.YtmpbjaodgajnfaaGreatDoor
namespace Go.Proofs.YtmpbjaodgajnfaaGreatDoor
open Go.RowKit
def RgR (x : UInt8 × UInt8) (us : List Value) : Prop := us = [.int .u8 (x.1.toNat : Int), .int .u8 (x.2.toNat : Int)]
theorem RW.rg {F : Nat → Prop} {w : World} {rs : List (UInt8 × UInt8)} {v : Value} (h : RW F 2 RgR w rs v) : RgAt w rs v := by
 obtain ⟨a, c, e, hm, hk⟩ := h
 refine ⟨a, c, e, Nat.le_trans hm.1 (by decide), fun i hi => ?_⟩
 obtain ⟨blk, off, e1, hl, _, hc⟩ := hk (by omega)
 obtain ⟨us, hu, hcell, hr⟩ := hc i hi
 unfold RgR at hr
 subst hr
 exact ⟨blk, off, e1, hl, hcell 0 (by decide), hcell 1 (by decide)⟩
def NG (F : Nat → Prop) (w : World) : NT → Value → Prop
 | .node op rs nm kids mn mx, v => ∃ ra rc a c, v = .agg #[.int .i64 op, .slice ra rs.length rc, .string ⟨nm.toArray⟩, .slice a kids.length c, .int .i64 mn, .int .i64 mx] ∧ (RW F 2 RgR w rs (.slice ra rs.length rc) ∧ nm.length ≤ 1000 ∧ kids.length ≤ 1000000 ∧ (a = none → c = 0)) ∧
  (0 < kids.length → ∃ blk off, a = some ⟨blk, off, none⟩ ∧ blk < w.heap.size ∧ F blk ∧ ∀ i (h : i < kids.length), ∃ u0 u1 u2 u3 u4 u5,
   w.cell? ⟨blk, off + i * 6, none⟩ = some u0 ∧ w.cell? ⟨blk, off + i * 6 + 1, none⟩ = some u1 ∧ w.cell? ⟨blk, off + i * 6 + 2, none⟩ = some u2 ∧ w.cell? ⟨blk, off + i * 6 + 3, none⟩ = some u3 ∧ w.cell? ⟨blk, off + i * 6 + 4, none⟩ = some u4 ∧ w.cell? ⟨blk, off + i * 6 + 5, none⟩ = some u5 ∧
   NG F w kids[i] (.agg #[u0, u1, u2, u3, u4, u5]))
termination_by t => SizeOf.sizeOf t
decreasing_by
 have := List.sizeOf_lt_of_mem (List.getElem_mem h)
 simp
 omega
theorem NG.go {F F' : Nat → Prop} {w w' : World} (hs : Stay F F' w w') : ∀ (t : NT) (v : Value), NG F w t v → NG F' w' t v
 | .node op rs nm kids mn mx, v, h => by
  rw [NG] at h ⊢
  obtain ⟨ra, rc, a, c, e, hm, hk⟩ := h
  refine ⟨ra, rc, a, c, e, ⟨hm.1.go hs (fun _ _ h => h), hm.2⟩, fun h0 => ?_⟩
  obtain ⟨blk, off, e1, hl, hF, hc⟩ := hk h0
  refine ⟨blk, off, e1, Nat.lt_of_lt_of_le hl hs.1, (hs.2 _ hF hl).1, fun i hi => ?_⟩
  obtain ⟨u0, u1, u2, u3, u4, u5, c0, c1, c2, c3, c4, c5, ht⟩ := hc i hi
  exact ⟨u0, u1, u2, u3, u4, u5, (hs.cell (p := ⟨blk, off + i * 6, none⟩) hF hl).trans c0, (hs.cell (p := ⟨blk, off + i * 6 + 1, none⟩) hF hl).trans c1, (hs.cell (p := ⟨blk, off + i * 6 + 2, none⟩) hF hl).trans c2, (hs.cell (p := ⟨blk, off + i * 6 + 3, none⟩) hF hl).trans c3, (hs.cell (p := ⟨blk, off + i * 6 + 4, none⟩) hF hl).trans c4, (hs.cell (p := ⟨blk, off + i * 6 + 5, none⟩) hF hl).trans c5, NG.go hs kids[i] _ ht⟩
termination_by t => SizeOf.sizeOf t
decreasing_by
 have := List.sizeOf_lt_of_mem (List.getElem_mem hi)
 simp
 omega
theorem NG.at {F : Nat → Prop} {w : World} : ∀ (t : NT) (v : Value), NG F w t v → NAt w t v
 | .node op rs nm kids mn mx, v, h => by
  rw [NG] at h
  rw [NAt]
  obtain ⟨ra, rc, a, c, e, hm, hk⟩ := h
  refine ⟨ra, rc, a, c, e, ⟨hm.1.rg, Nat.le_trans hm.2.2.1 (by decide), Nat.le_trans hm.2.1 (by decide)⟩, fun h0 => ?_⟩
  obtain ⟨blk, off, e1, hl, hF, hc⟩ := hk h0
  refine ⟨blk, off, e1, hl, fun i hi => ?_⟩
  obtain ⟨u0, u1, u2, u3, u4, u5, c0, c1, c2, c3, c4, c5, ht⟩ := hc i hi
  exact ⟨u0, u1, u2, u3, u4, u5, c0, c1, c2, c3, c4, c5, NG.at kids[i] _ ht⟩
termination_by t => SizeOf.sizeOf t
decreasing_by
 have := List.sizeOf_lt_of_mem (List.getElem_mem hi)
 simp
 omega
def KR (F : Nat → Prop) (w : World) (t : NT) (us : List Value) : Prop := NG F w t (.agg us.toArray)
theorem KR.go {F F' : Nat → Prop} {w w' : World} (hs : Stay F F' w w') (t : NT) (us : List Value) (h : KR F w t us) : KR F' w' t us := NG.go hs _ _ h
theorem NG.node {F : Nat → Prop} {w : World} {rs : List (UInt8 × UInt8)} {ra : Option Addr} {rn rc : Nat} (hr : RW F 2 RgR w rs (.slice ra rn rc)) {kids : List NT} {a : Option Addr} {n c : Nat} (h : RW F 6 (KR F w) w kids (.slice a n c)) (op : Int) (nm : List UInt8) (mn mx : Int) (hnm : nm.length ≤ 1000) :
  NG F w (.node op rs nm kids mn mx) (.agg #[.int .i64 op, .slice ra rn rc, .string ⟨nm.toArray⟩, .slice a n c, .int .i64 mn, .int .i64 mx]) := by
 have hr0 := hr
 obtain ⟨ra', rc', e, _, _⟩ := hr0
 injection e with e1 e2 e3
 subst e1 e2 e3
 obtain ⟨a', c', e, hm, hk⟩ := h
 injection e with e1 e2 e3
 subst e1 e2 e3
 rw [NG]
 refine ⟨ra, rc, a, c, rfl, ⟨hr, hnm, hm.1, hm.2⟩, fun h0 => ?_⟩
 obtain ⟨blk, off, e1, hl, hF, hc⟩ := hk h0
 refine ⟨blk, off, e1, hl, hF, fun i hi => ?_⟩
 obtain ⟨us, hu, hcell, hr⟩ := hc i hi
 match us, hu with
 | [u0, u1, u2, u3, u4, u5], _ => exact ⟨u0, u1, u2, u3, u4, u5, hcell 0 (by decide), hcell 1 (by decide), hcell 2 (by decide), hcell 3 (by decide), hcell 4 (by decide), hcell 5 (by decide), hr⟩
theorem NG.open {F : Nat → Prop} {w : World} {t : NT} {v : Value} (h : NG F w t v) : ∃ op rs nm kids mn mx ra rc a c, t = .node op rs nm kids mn mx ∧ v = .agg #[.int .i64 op, .slice ra rs.length rc, .string ⟨(nm : List UInt8).toArray⟩, .slice a kids.length c, .int .i64 mn, .int .i64 mx] ∧ nm.length ≤ 1000 ∧
  RW F 2 RgR w rs (.slice ra rs.length rc) ∧ RW F 6 (KR F w) w kids (.slice a kids.length c) := by
 obtain ⟨op, rs, nm, kids, mn, mx⟩ := t
 rw [NG] at h
 obtain ⟨ra, rc, a, c, e, hm, hk⟩ := h
 refine ⟨op, rs, nm, kids, mn, mx, ra, rc, a, c, rfl, e, hm.2.1, hm.1, a, c, rfl, hm.2.2, fun h0 => ?_⟩
 obtain ⟨blk, off, e1, hl, hF, hc⟩ := hk h0
 refine ⟨blk, off, e1, hl, hF, fun i hi => ?_⟩
 obtain ⟨u0, u1, u2, u3, u4, u5, c0, c1, c2, c3, c4, c5, ht⟩ := hc i hi
 refine ⟨[u0, u1, u2, u3, u4, u5], rfl, fun j hj => ?_, ht⟩
 match j, hj with
 | 0, _ => exact c0
 | 1, _ => exact c1
 | 2, _ => exact c2
 | 3, _ => exact c3
 | 4, _ => exact c4
 | 5, _ => exact c5
def Sm (N : Nat) : NT → Prop
 | .node _ rs _ ks _ _ => rs.length ≤ N ∧ ks.length ≤ N ∧ ∀ i (h : i < ks.length), Sm N ks[i]
termination_by t => SizeOf.sizeOf t
decreasing_by
 have := List.sizeOf_lt_of_mem (List.getElem_mem h)
 simp
 omega
theorem Sm.node {N : Nat} {op : Int} {rs : List (UInt8 × UInt8)} {nm : List UInt8} {ks : List NT} {mn mx : Int} (h1 : rs.length ≤ N) (h2 : ks.length ≤ N) (h3 : ∀ k ∈ ks, Sm N k) : Sm N (.node op rs nm ks mn mx) := by
 rw [Sm]
 exact ⟨h1, h2, fun i h => h3 _ (List.getElem_mem h)⟩
theorem Sm.open {N : Nat} {op : Int} {rs : List (UInt8 × UInt8)} {nm : List UInt8} {ks : List NT} {mn mx : Int} (h : Sm N (.node op rs nm ks mn mx)) : rs.length ≤ N ∧ ks.length ≤ N ∧ ∀ k ∈ ks, Sm N k := by
 rw [Sm] at h
 refine ⟨h.1, h.2.1, fun k hk => ?_⟩
 obtain ⟨i, hi, rfl⟩ := List.getElem_of_mem hk
 exact h.2.2 i hi
theorem Sm.mono {N M : Nat} (hNM : N ≤ M) : ∀ t : NT, Sm N t → Sm M t
 | .node op rs nm ks mn mx, h => by
  rw [Sm] at h ⊢
  exact ⟨Nat.le_trans h.1 hNM, Nat.le_trans h.2.1 hNM, fun i hi => Sm.mono hNM ks[i] (h.2.2 i hi)⟩
termination_by t => SizeOf.sizeOf t
decreasing_by
 have := List.sizeOf_lt_of_mem (List.getElem_mem hi)
 simp
 omega
structure NS (g : Nat) (w W : World) : Prop where
 gd : GD g w W
 bk : BK w.heap.size 6 (nE 0 none 0 0 [] none 0 0 0 0) W
theorem NS.go {g : Nat} {w W W' : World} (h : NS g w W) (ha : Apart g W W') (hc : CodesAt W' g) : NS g w W' := ⟨h.gd.go ha hc, h.bk.go ha (Nat.ne_of_gt h.gd.hg)⟩
theorem NS.al {g : Nat} {w W : World} (h : NS g w W) (o : Obj) : NS g w (W.alloc o) := ⟨h.gd.al o, h.bk.al o⟩
theorem NS.dr {g : Nat} {w W : World} (h : NS g w W) : NS g w W.drew := ⟨h.gd.dr, h.bk.dr⟩
theorem NS.lt {g : Nat} {w W : World} (h : NS g w W) : w.heap.size < W.heap.size := h.bk.lt
theorem NS.set {g : Nat} {w W : World} (h : NS g w W) {b : Nat} (hb : w.heap.size < b) (i : Nat) (v : Value) : NS g w (W.setCell ⟨b, i, none⟩ v) := ⟨h.gd.set (Nat.le_of_lt hb) i v, h.bk.other (Nat.ne_of_lt hb) i v⟩
theorem bk6 {b : Nat} {E : Nat → Value} {W : World} (h : BK b 6 E W) : W.cell? ⟨b, 0, none⟩ = some (E 0) ∧ W.cell? ⟨b, 1, none⟩ = some (E 1) ∧ W.cell? ⟨b, 2, none⟩ = some (E 2) ∧ W.cell? ⟨b, 3, none⟩ = some (E 3) ∧ W.cell? ⟨b, 4, none⟩ = some (E 4) ∧ W.cell? ⟨b, 5, none⟩ = some (E 5) ∧
  W.frozen? ⟨b, 0, none⟩ = false ∧ W.frozen? ⟨b, 1, none⟩ = false ∧ W.frozen? ⟨b, 2, none⟩ = false ∧ W.frozen? ⟨b, 3, none⟩ = false ∧ W.frozen? ⟨b, 4, none⟩ = false ∧ W.frozen? ⟨b, 5, none⟩ = false :=
 ⟨h.ev 0 (by omega), h.ev 1 (by omega), h.ev 2 (by omega), h.ev 3 (by omega), h.ev 4 (by omega), h.ev 5 (by omega), h.fz 0, h.fz 1, h.fz 2, h.fz 3, h.fz 4, h.fz 5⟩
theorem nE_new (W : World) (op : Int) (ra : Option Addr) (rn rc : Nat) (nm : List UInt8) (a : Option Addr) (n cp : Nat) (mn mx : Int) : BK W.heap.size 6 (nE op ra rn rc nm a n cp mn mx) (W.alloc (.cells #[.int .i64 op, .slice ra rn rc, .string ⟨nm.toArray⟩, .slice a n cp, .int .i64 mn, .int .i64 mx] 33)) :=
 BK.new W _ _ _ 6 (fun i hi => by
  match i, hi with
  | 0, _ => rfl
  | 1, _ => rfl
  | 2, _ => rfl
  | 3, _ => rfl
  | 4, _ => rfl
  | 5, _ => rfl)
theorem NS.start {g : Nat} {w : World} (hc : CodesAt w g) : NS g w (w.alloc (.cells #[.int .i64 0, .slice none 0 0, .string ⟨#[]⟩, .slice none 0 0, .int .i64 0, .int .i64 0] 33)) := ⟨(GD.start hc).al _, nE_new w 0 none 0 0 [] none 0 0 0 0⟩
theorem nest6 (W : World) {b : Nat} {v0 v1 v2 v3 v4 v5 : Value} : ((((((W.setCell ⟨b, 0, none⟩ v0).setCell ⟨b, 1, none⟩ v1).setCell ⟨b, 2, none⟩ v2).setCell ⟨b, 3, none⟩ v3).setCell ⟨b, 4, none⟩ v4).setCell ⟨b, 5, none⟩ v5) = setL W b [v0, v1, v2, v3, v4, v5] 0 := rfl
end Go.Proofs.YtmpbjaodgajnfaaGreatDoor
namespace Go.Proofs.YtmpbjaodgajnfaaGreatDoor
open Go.RowKit
def InR (F : Nat → Prop) (w : World) (i : Mt.Ins) (us : List Value) : Prop := ∃ ra rc, us = [.int .i64 (i.op : Int), .int .i64 (i.x : Int), .int .i64 (i.y : Int), .slice ra i.rs.length rc] ∧ RW F 2 RgR w i.rs (.slice ra i.rs.length rc)
theorem InR.go {F F' : Nat → Prop} {w w' : World} (hs : Stay F F' w w') (i : Mt.Ins) (us : List Value) (h : InR F w i us) : InR F' w' i us := by
 obtain ⟨ra, rc, e, h⟩ := h
 exact ⟨ra, rc, e, h.go hs (fun _ _ h => h)⟩
def MkAt (F : Nat → Prop) (w : World) : List Mt.Mk → Value → Prop
 | [], v => v = .pointer none
 | m :: ms, v => ∃ b v', v = .pointer (some ⟨b, 0, none⟩) ∧ F b ∧ b < w.heap.size ∧ w.heap[b]? = some (.cells #[.bool m.1, .int .i64 (m.2.1 : Int), .int .i64 (m.2.2 : Int), v'] 180 (0, 0)) ∧ MkAt F w ms v'
theorem MkAt.go {F F' : Nat → Prop} {w w' : World} (hs : Stay F F' w w') : ∀ (ms : List Mt.Mk) (v : Value), MkAt F w ms v → MkAt F' w' ms v
 | [], _, h => h
 | m :: ms, v, h => by
  obtain ⟨b, v', e, hF, hb, hc, h⟩ := h
  exact ⟨b, v', e, (hs.2 b hF hb).1, Nat.lt_of_lt_of_le hb hs.1, ((hs.2 b hF hb).2).trans hc, MkAt.go hs ms v' h⟩
structure MB (C : List Mt.Ins) (s : List UInt8) (L : Nat) (F : Nat → Prop) (g fa : Nat) (w : World) : Prop where
 cells : ∃ ca cc nv, w.heap[g]? = some (.cells #[.slice ca C.length cc, nv, .int .i64 (L : Int), .string ⟨s.toArray⟩, .slice (some ⟨fa, 0, none⟩) (L + 1) (L + 1)] 148 (0, 0)) ∧ RW F 4 (InR F w) w C (.slice ca C.length cc)
 own : F g
 lt : g < w.heap.size
theorem MB.go {C : List Mt.Ins} {s : List UInt8} {L : Nat} {F F' : Nat → Prop} {g fa : Nat} {w w' : World} (h : MB C s L F g fa w) (hs : Stay F F' w w') : MB C s L F' g fa w' := by
 obtain ⟨ca, cc, nv, hc, hr⟩ := h.cells
 have h2 := hs.2 g h.own h.lt
 exact ⟨⟨ca, cc, nv, h2.2.trans hc, hr.go hs (fun i us h => InR.go hs i us h)⟩, h2.1, Nat.lt_of_lt_of_le h.lt hs.1⟩
end Go.Proofs.YtmpbjaodgajnfaaGreatDoor
namespace Go.Proofs.YtmpbjaodgajnfaaGreatDoor
open Go.RowKit
theorem set_at {w : World} {b : Nat} {c : Array Value} {t : TypeId} {f : Nat × Nat} (h : w.heap[b]? = some (.cells c t f)) (o : Nat) (v : Value) : (w.setCell ⟨b, o, none⟩ v).heap[b]? = some (.cells (c.setIfInBounds o v) t f) := by
 unfold World.setCell
 rw [Array.getElem?_modify]
 simp [h]
theorem row_set (row : Nat → Option (Nat × List Nat)) (L e : Nat) (x : Option (Nat × List Nat)) : ((List.range (L + 1)).map fun k => rowV (row k)).toArray.setIfInBounds e (rowV x) = ((List.range (L + 1)).map fun k => rowV (if k = e then x else row k)).toArray := by
 apply Array.ext_getElem?
 intro i
 rw [Array.getElem?_setIfInBounds]
 by_cases hi : e = i
 ·subst hi
  by_cases hl : e < L + 1
  ·simp [hl]
  ·simp [hl]
 ·simp only [hi, if_false]
  by_cases hl : i < L + 1
  ·simp [hl, show ¬ i = e from fun h => hi h.symm]
  ·simp [hl]
theorem made_zero (n : Nat) : madeCells #[Value.int .u64 0] n = wordsV (List.replicate n 0) := by
 unfold madeCells wordsV
 apply Array.ext_getElem?
 intro i
 by_cases h : i < n <;> simp [h, Nat.mod_one]
theorem FR.new {C : List Mt.Ins} {s : List UInt8} {L : Nat} {F : Nat → Prop} {fa : Nat} {row : Nat → Option (Nat × List Nat)} {w : World} (h : FR C s L F fa row w) {e n : Nat} (hn : C.length * (s.length + 1) / 64 + 1 = n) {w' : World} (hsz : w'.heap.size = w.heap.size + 1)
  (hold : ∀ b, b < w.heap.size → b ≠ fa → w'.heap[b]? = w.heap[b]?) (hfa : w'.heap[fa]? = some (.cells (((List.range (L + 1)).map fun k => rowV (row k)).toArray.setIfInBounds e (.slice (some ⟨w.heap.size, 0, none⟩) n n)) 223 (0, 0)))
  (hnew : w'.heap[w.heap.size]? = some (.cells (madeCells #[Value.int .u64 0] n) 220 (0, 0))) : FR C s L F fa (fun k => if k = e then some (w.heap.size, List.replicate n 0) else row k) w' where
 head := by
  rw [hfa, ← row_set row L e (some (w.heap.size, List.replicate n 0))]
  unfold rowV
  simp
 out := h.out
 bnd := fun b hb => by have := h.bnd b hb; omega
 words := fun k b vs hr hk => by
  by_cases hke : k = e
  ·subst hke
   simp only [if_true] at hr
   injection hr with hr
   injection hr with h1 h2
   subst h1 h2
   refine ⟨by rw [hnew, made_zero], by rw [List.length_replicate, hn], fun hf => by have := h.bnd _ hf; omega, by have := heap_lt h.head; omega, fun v hv => by rw [List.mem_replicate] at hv; omega, Mt.Sound.zero C s L k n⟩
  ·simp only [hke, if_false] at hr
   obtain ⟨h1, h2, h3, h4, h5⟩ := h.words k b vs hr hk
   exact ⟨(hold b (heap_lt h1) h4).trans h1, h2, h3, h4, h5⟩
 inj := fun k k' b vs vs' hr hr' hk hk' => by
  by_cases hke : k = e
  ·by_cases hke' : k' = e
   ·omega
   ·subst hke
    simp only [if_true] at hr
    simp only [hke', if_false] at hr'
    injection hr with hr
    injection hr with h1 h2
    subst h1
    have := heap_lt (h.words k' _ vs' hr' hk').1
    omega
  ·by_cases hke' : k' = e
   ·subst hke'
    simp only [if_true] at hr'
    simp only [hke, if_false] at hr
    injection hr' with hr'
    injection hr' with h1 h2
    subst h1
    have := heap_lt (h.words k _ vs hr hk).1
    omega
   ·simp only [hke, if_false] at hr
    simp only [hke', if_false] at hr'
    exact h.inj k k' b vs vs' hr hr' hk hk'
theorem words_set (vs : List Nat) (D V : Nat) : (wordsV vs).setIfInBounds D (.int .u64 (V : Int)) = wordsV (vs.set D V) := by
 unfold wordsV
 simp [List.map_set]
theorem FR.or {C : List Mt.Ins} {s : List UInt8} {L : Nat} {F : Nat → Prop} {fa : Nat} {row : Nat → Option (Nat × List Nat)} {w : World} (h : FR C s L F fa row w) {pc at_ e b : Nat} {vs : List Nat} (he : e ≤ L) (hr : row e = some (b, vs)) {V : Nat} (ha : at_ ≤ s.length) (hV : vs[Mt.stI s.length pc at_ / 64]? = some V) (hway : Mt.Way C s L pc at_ e none) {w' : World} (hsz : w'.heap.size = w.heap.size)
  (hold : ∀ k, k ≠ b → w'.heap[k]? = w.heap[k]?) (hb : w'.heap[b]? = some (.cells ((wordsV vs).setIfInBounds (Mt.stI s.length pc at_ / 64) (.int .u64 ((V ||| 2 ^ (Mt.stI s.length pc at_ % 64) : Nat) : Int))) 220 (0, 0))) :
  FR C s L F fa (fun k => if k = e then some (b, vs.set (Mt.stI s.length pc at_ / 64) (V ||| 2 ^ (Mt.stI s.length pc at_ % 64))) else row k) w' := by
 obtain ⟨g1, g2, g3, g4, g5, g6⟩ := h.words e b vs hr he
 refine ⟨?_, h.out, fun k hk => by rw [hsz]; exact h.bnd k hk, fun k b' vs' hr' hk => ?_, fun k k' b' vs1 vs2 hr1 hr2 hk hk' => ?_⟩
 ·rw [hold fa (fun x => g4 x.symm), h.head, ← row_set row L e (some (b, vs.set (Mt.stI s.length pc at_ / 64) (V ||| 2 ^ (Mt.stI s.length pc at_ % 64))))]
  congr 2
  apply Array.ext_getElem?
  intro i
  rw [Array.getElem?_setIfInBounds]
  by_cases hi : e = i
  ·subst hi
   have : e < L + 1 := by omega
   simp [this, hr, rowV]
  ·simp [hi]
 ·by_cases hke : k = e
  ·subst hke
   simp only [if_true] at hr'
   injection hr' with hr'
   injection hr' with h1 h2
   subst h1 h2
   have hlt : V ||| 2 ^ (Mt.stI s.length pc at_ % 64) < 2 ^ 64 := Nat.or_lt_two_pow (g5 V (List.mem_of_getElem? hV)) (Nat.pow_lt_pow_right (by decide) (Nat.mod_lt _ (by decide)))
   refine ⟨by rw [hb, words_set], by rw [List.length_set]; exact g2, g3, g4, fun v hv => ?_, g6.set ha hV hway⟩
   rcases List.mem_or_eq_of_mem_set hv with hv | hv
   ·exact g5 v hv
   ·rw [hv]; exact hlt
  ·simp only [hke, if_false] at hr'
   obtain ⟨h1, h2, h3, h4, h5⟩ := h.words k b' vs' hr' hk
   have hne : b' ≠ b := fun x => by
    subst x
    exact hke (h.inj k e b' vs' vs hr' hr hk he)
   exact ⟨(hold b' hne).trans h1, h2, h3, h4, h5⟩
 ·by_cases hke : k = e
  ·by_cases hke' : k' = e
   ·omega
   ·subst hke
    simp only [if_true] at hr1
    simp only [hke', if_false] at hr2
    injection hr1 with hr1
    injection hr1 with h1 h2
    subst h1
    exact h.inj k k' b vs vs2 hr hr2 hk hk'
  ·by_cases hke' : k' = e
   ·subst hke'
    simp only [if_true] at hr2
    simp only [hke, if_false] at hr1
    injection hr2 with hr2
    injection hr2 with h1 h2
    subst h1
    exact h.inj k k' b vs1 vs hr1 hr hk hk'
   ·simp only [hke, if_false] at hr1
    simp only [hke', if_false] at hr2
    exact h.inj k k' b' vs1 vs2 hr1 hr2 hk hk'
end Go.Proofs.YtmpbjaodgajnfaaGreatDoor

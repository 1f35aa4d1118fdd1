/-
 Joined: NumA, PzE, PzG, PzH.
-/
import Derived.Test.YtmpbjaodgajnfaaGreatDoorEhS
import Derived.Test.YtmpbjaodgajnfaaGreatDoorEhA
import Derived.Outline
import Derived.Lib.QuietBelow
import Derived.Test.YtmpbjaodgajnfaaGreatDoorEhQ
namespace Go.Proofs.YtmpbjaodgajnfaaGreatDoor
open Go.RowKit
theorem val_small {l : List UInt8} {k : Nat} (h : Asc.allD (l.take k) = true) (hk : k ≤ 17) : Asc.val (l.take k) < 100000000000000000 :=
 Nat.lt_of_lt_of_le (Asc.val_lt h) (Nat.le_trans (Nat.pow_le_pow_right (n := 10) (by omega) (show (l.take k).length ≤ 17 by rw [List.length_take]; omega)) (by decide))
theorem ret_nb {a b : Int} {c d : Bool} (h : a = b) (k : c = d) : Ending.returned (.tuple #[.int .i64 a, .bool c]) = .returned (.tuple #[.int .i64 b, .bool d]) := by rw [h, k]
def Asc.sgn (neg : Bool) (n : Nat) : Int := if neg then -(n : Int) else (n : Int)
set_option maxRecDepth 100000 in
set_option maxHeartbeats 1000000 in
theorem number_core (l d : List UInt8) (neg : Bool) (w : World) (hk : Kinds w) (hd : Lib.trimPrefix l [45] = d) (hn : decide (d.length < l.length) = neg) :
  Calls Tryz.prog 173 #[.string ⟨l.toArray⟩] w fun e w' => e = .returned (.tuple #[.int .i64 (Asc.sgn neg (Asc.digN d 18)), .bool (Asc.digB d 18)]) ∧ Below w.heap.size w w' := by
 have HT : Hid (∀ w, Calls Tryz.prog 44 #[.string ⟨l.toArray⟩, .string ⟨#[45]⟩] w fun e w' => e = .returned (.string ⟨d.toArray⟩) ∧ w = w') := by
  show ∀ w, _
  intro w
  rw [← hd]
  exact (Tryz.strings_TrimPrefix ⟨l.toArray⟩ ⟨#[45]⟩ w).mono fun e w' ⟨h1, h2⟩ => ⟨h1, h2.symm⟩
 clear hd
 by_cases h1 : 1 ≤ d.length
 ·have t1 : decide ((d.length : Int) < 1) = false := by simp; omega
  by_cases h2 : d.length ≤ 18
  ·have t2 : decide (18 < (d.length : Int)) = false := by simp; omega
   have HF := Lib.hid (Asc.dig_yes h1 h2)
   have HN := Lib.hid (Asc.dig_no (l := d) (most := 18))
   obtain ⟨cap, w2, nb⟩ := conv_bytes w d
   have hr := nb.run
   have NB := Lib.hid nb
   have HK := Lib.hid (hk.below nb.below)
   clear nb hk
   go_enter Tryz.func173, Tryz.ntmps173
   go_wp2_with (go_at_call 44; refine (HT.out _).mono ?_; rintro e w' ⟨rfl, rfl⟩)
   go_loop [5, 21] (fun t i => ∃ k : Nat, k ≤ d.length ∧ i = .int .i64 k ∧ t = .int .i64 (Asc.val (d.take k) : Nat) ∧ Asc.allD (d.take k) = true) (fun _ i => d.length - (intOf i).toNat)
   case atStart => exact ⟨0, by omega, rfl, rfl, rfl⟩
   case round =>
    obtain ⟨k, hk, rfl, rfl, ha⟩ := hrel
    by_cases hlt : k < d.length
    ·have hcell := NB.out.cells.at k hlt
     rw [Asc.at_of hlt] at hcell
     have hc2 : d[k].toNat < 256 := d[k].toNat_lt
     generalize hc : d[k].toNat = c at *
     have hv := val_small ha (by omega)
     have HA := Lib.hid ha
     have HC := Lib.hid hc
     clear ha hc
     cases hd : Asc.isDigit c
     ·have HB := Lib.hid (Asc.allD_bad k hlt (by rw [HC.out]; exact hd))
      go_wp2_with (go_at_call 170; refine (digit_any c w2 hc2 HK.out).mono ?_; rintro e w' ⟨rfl, rfl⟩)
      go_ret2
      have := HN.out (.inr (.inr HB.out))
      exact ⟨ret_nb (by rw [this.1]; cases neg <;> rfl) this.2.symm, NB.out.below⟩
     ·have hd2 := (Asc.isDigit_iff c).1 hd
      have HV : Hid (Asc.val (d.take (k + 1)) = Asc.val (d.take k) * 10 + (c - 48)) := by
       show Asc.val _ = _
       rw [Asc.snoc_take d k hlt, Asc.val_snoc, HC.out]
      have HB : Hid (Asc.allD (d.take (k + 1)) = true) := by
       show Asc.allD _ = _
       rw [Asc.snoc_take d k hlt, Asc.allD_snoc, HC.out, HA.out, hd]; rfl
      generalize Asc.val (d.take k) = v at *
      go_wp2_with (go_at_call 170; refine (digit_any c w2 hc2 HK.out).mono ?_; rintro e w' ⟨rfl, rfl⟩)
      go_round
      case rel => exact ⟨k + 1, by omega, by go_num, by rw [HV.out]; congr 1; omega, HB.out⟩
      case measure => simp [intOf]; omega
    ·have HA := Lib.hid (show Asc.allD d = true by rw [List.take_of_length_le (by omega)] at ha; exact ha)
     have HV := Lib.hid (show Asc.val (d.take k) = Asc.val d by rw [List.take_of_length_le (by omega)])
     have hv := Asc.val_le18 HA.out h2
     rw [← HV.out] at hv
     clear ha
     generalize Asc.val (d.take k) = v at *
     cases neg
     all_goals
      go_wp2_with fail
      go_ret2
      have := HF.out HA.out
      exact ⟨ret_nb (by rw [this.1, ← HV.out]; rfl) this.2.symm, NB.out.below⟩
  ·have t2 : decide (18 < (d.length : Int)) = true := by simp; omega
   have HN := Lib.hid (Asc.dig_no (l := d) (most := 18) (.inr (.inl (by omega))))
   go_enter Tryz.func173, Tryz.ntmps173
   go_wp2_with (go_at_call 44; refine (HT.out _).mono ?_; rintro e w' ⟨rfl, rfl⟩)
   go_ret2
   exact ⟨ret_nb (by rw [HN.out.1]; cases neg <;> rfl) HN.out.2.symm, Below.refl _ _⟩
 ·have t1 : decide ((d.length : Int) < 1) = true := by simp; omega
  have HN := Lib.hid (Asc.dig_no (l := d) (most := 18) (.inl (by omega)))
  go_enter Tryz.func173, Tryz.ntmps173
  go_wp2_with (go_at_call 44; refine (HT.out _).mono ?_; rintro e w' ⟨rfl, rfl⟩)
  go_ret2
  exact ⟨ret_nb (by rw [HN.out.1]; cases neg <;> rfl) HN.out.2.symm, Below.refl _ _⟩
theorem number_any (l : List UInt8) (w : World) (hk : Kinds w) :
  Calls Tryz.prog 173 #[.string ⟨l.toArray⟩] w fun e w' => e = .returned (.tuple #[.int .i64 (Asc.numN l), .bool (Asc.numB l)]) ∧ Below w.heap.size w w' := by
 by_cases hh : l.head? = some 45
 ·obtain ⟨d, rfl⟩ : ∃ d, l = 45 :: d := by
   cases l with
   | nil => cases hh
   | cons c d => simp at hh; subst hh; exact ⟨d, rfl⟩
  have h := number_core (45 :: d) d true w hk (by simp [Lib.trimPrefix, Lib.hasPrefix]) (by simp)
  rw [(Asc.num_neg d).1, (Asc.num_neg d).2]
  exact h
 ·have h := number_core l l false w hk (by
   cases l with
   | nil => rfl
   | cons c d =>
    have : ¬ c = 45 := fun e => hh (by simp [e])
    simp [Lib.trimPrefix, Lib.hasPrefix]
    intro e; exact absurd e.symm (by simpa using this)) (by simp)
  rw [(Asc.num_pos hh).1, (Asc.num_pos hh).2]
  exact h
end Go.Proofs.YtmpbjaodgajnfaaGreatDoor
namespace Go.Proofs.YtmpbjaodgajnfaaGreatDoor
open Go.RowKit Go.Sort
def BndZ (b : Nat) (l : List UInt8) (r : Out Nat) (w : World) (en : Ending) (w' : World) : Prop := ∃ v j e : Nat, en = .returned (.int .i64 (v : Int)) ∧ ZQ b l j e w w' ∧ v ≤ 99 ∧ fits r v j e
theorem num_one (a : UInt8) (h : Asc.isDigit a.toNat = true) : Asc.numN [a] = ((a.toNat - 48 : Nat) : Int) := by
 have h2 := (Asc.isDigit_iff a.toNat).1 h
 have hd : [a].head? ≠ some 45 := by
  simp only [List.head?_cons, ne_eq, Option.some.injEq]
  intro e
  subst e
  revert h2
  decide
 have hd1 := Asc.dig_yes (l := [a]) (most := 18) (by simp) (by simp) (by simp [Asc.allD, h])
 rw [(Asc.num_pos hd).1, hd1.1]
 simp [Asc.val]
theorem num_two (a c : UInt8) (h : Asc.isDigit a.toNat = true) (k : Asc.isDigit c.toNat = true) : Asc.numN [a, c] = (((a.toNat - 48) * 10 + (c.toNat - 48) : Nat) : Int) := by
 have h2 := (Asc.isDigit_iff a.toNat).1 h
 have hd : [a, c].head? ≠ some 45 := by
  simp only [List.head?_cons, ne_eq, Option.some.injEq]
  intro e
  subst e
  revert h2
  decide
 have hd1 := Asc.dig_yes (l := [a, c]) (most := 18) (by simp) (by simp) (by simp [Asc.allD, h, k])
 rw [(Asc.num_pos hd).1, hd1.1]
 simp [Asc.val]
theorem dig_at {l : List UInt8} {i : Nat} (h : Asc.isDigit (Asc.at_ l i) = true) : i < l.length ∧ Asc.at_ l i ≤ 57 ∧ 48 ≤ Asc.at_ l i := by
 have := (Asc.isDigit_iff _).1 h
 exact ⟨Asc.at_lt (by omega), this.2, this.1⟩
def bEnd (l : List UInt8) (i : Nat) : Nat := if Asc.isDigit (Asc.at_ l i) then (if Asc.isDigit (Asc.at_ l (i + 1)) then i + 2 else i + 1) else i
def bVal (l : List UInt8) (i : Nat) : Nat := if Asc.isDigit (Asc.at_ l (i + 1)) then (Asc.at_ l i - 48) * 10 + (Asc.at_ l (i + 1) - 48) else Asc.at_ l i - 48
theorem boundM_eq (l : List UInt8) (i : Nat) : boundM l i = if Asc.isDigit (Asc.at_ l i) = true then (if 40 < bVal l i then .error (bEnd l i, 2) else .ok (bVal l i, bEnd l i)) else .error (i, 1) := by
 unfold boundM bVal bEnd
 by_cases h : Asc.isDigit (Asc.at_ l i) = true
 ·simp only [if_pos h]
  by_cases k : Asc.isDigit (Asc.at_ l (i + 1)) = true
  ·simp only [if_pos k]
  ·simp only [if_neg k]
   have := (Asc.isDigit_iff _).1 h
   rw [if_neg (by omega)]
 ·rw [if_neg h, if_neg h]
theorem seg_one {l : List UInt8} {i : Nat} (h : i < l.length) : Asc.seg l i (i + 1) = [l[i]] := by
 rw [Asc.seg_snoc l (Nat.le_refl _) h, Asc.seg_same]
 rfl
theorem seg_two {l : List UInt8} {i : Nat} (h : i + 1 < l.length) : Asc.seg l i (i + 2) = [l[i], l[i + 1]] := by
 rw [Asc.seg_snoc l (Nat.le_succ _) h, seg_one (by omega)]
 rfl
theorem num_seg (l : List UInt8) (i : Nat) (h : Asc.isDigit (Asc.at_ l i) = true) : Asc.numN (Asc.seg l i (bEnd l i)) = (bVal l i : Int) ∧ bVal l i ≤ 99 ∧ i < bEnd l i ∧ bEnd l i ≤ i + 2 ∧ bEnd l i ≤ l.length := by
 have h1 := dig_at h
 unfold bEnd bVal
 rw [if_pos h]
 by_cases k : Asc.isDigit (Asc.at_ l (i + 1)) = true
 ·have h2 := dig_at k
  rw [if_pos k, if_pos k, seg_two h2.1]
  have e1 := Asc.at_of h1.1
  have e2 := Asc.at_of h2.1
  rw [e1] at h
  rw [e2] at k
  rw [num_two _ _ h k, ← e1, ← e2]
  exact ⟨rfl, by omega, by omega, by omega, by omega⟩
 ·rw [if_neg k, if_neg k, seg_one h1.1]
  have e1 := Asc.at_of h1.1
  rw [e1] at h
  rw [num_one _ h, ← e1]
  exact ⟨rfl, by omega, by omega, by omega, by omega⟩
def posAt (b : Nat) (w : World) : Nat := match w.cell? ⟨b, 1, none⟩ with
 | some (.int .i64 p) => p.toNat
 | _ => 0
theorem ZS.pos {b : Nat} {l : List UInt8} {i e : Nat} {w : World} (h : ZS b l i e w) : posAt b w = i := by
 unfold posAt
 rw [h.c1]
 simp
theorem ZQ.grown {b : Nat} {l : List UInt8} {i e : Nat} {w w1 : World} (h : ZQ b l i e w w1) (d : Nat) (os : Array Obj) : ZQ b l i e w (grow (redrawn w1 d) os) := h.on (below_regrown w1 d os)
set_option maxHeartbeats 16000000 in
set_option maxRecDepth 1000000 in
theorem bound_any (b : Nat) (l : List UInt8) (i : Nat) (w : World) (h : ZS b l i 0 w) : Calls Tryz.prog 155 #[.pointer (some ⟨b, 0, none⟩)] w (BndZ b l (boundM l i) w) := by
 have hl2 := h.len
 have hle := h.le
 have c1 := h.c1
 have H := Lib.hid h
 have HNX := Lib.hid fun (k v : Nat) (hv : Asc.at_ l k = v) (hv2 : v < 256) W (hW : ZS b l k 0 W) => znext_ok b l k W hW v hv hv2
 have HNE := Lib.hid fun (k : Nat) (hv : Asc.at_ l k = 999) W (hW : ZS b l k 0 W) => znext_no b l k 0 W hW hv
 have HD := Lib.hid fun (k : Nat) (v : Nat) (hv : v < 256) W (hW : ZS b l k 0 W) => digit_any v W hv hW.kd
 have HNM := Lib.hid fun (k : Nat) W (hW : ZS b l k 0 W) => number_any (Asc.seg l i (bEnd l i)) W hW.kd
 have HF := Lib.hid fun (k x : Nat) W (hW : ZS b l k 0 W) => zfail b l k 0 x W hW
 simp only [if_true] at HF
 have HB := Lib.hid (boundM_eq l i)
 have HNS := Lib.hid (num_seg l i)
 have w2 : IntKind.i64.wrap ((i : Int) + 2) = (i : Int) + 2 := IntWalk.i64_in _ (by omega)
 clear h
 go_enter Tryz.func155, Tryz.ntmps155
 go_wp2_with fail
 go_loopw [4, 5] (fun _ _ wr => ∃ (k : Nat), (k = 0 ∨ k = 1 ∧ Asc.isDigit (Asc.at_ l i) = true ∨ k = 2 ∧ Asc.isDigit (Asc.at_ l i) = true ∧ Asc.isDigit (Asc.at_ l (i + 1)) = true) ∧ Hid (ZQ b l (i + k) 0 w wr)) (fun _ _ wr => (i + 3) - posAt b wr)
 case atStart => exact ⟨0, .inl rfl, Lib.hid (ZQ.refl H.out)⟩
 case round =>
  obtain ⟨k, hk, HQ⟩ := hrel
  clear c1
  rcases hk with rfl | ⟨rfl, hd1⟩ | ⟨rfl, hd1, hd2⟩
  ·have HQ : Hid (ZQ b l i 0 w wr) := HQ
   have c1 := HQ.out.ps.c1
   have z1 : decide (((i : Int) : Int) < (i : Int) + 2) = true := decide_eq_true (by omega)
   go_wp2_with fail
   clear c1 z1
   rcases at_two l (i) with h8 | h8
   ·obtain ⟨v, hv⟩ : ∃ v, Asc.at_ l (i) = v := ⟨_, rfl⟩
    have hv8 : v < 256 := by omega
    refine (HNX.out _ v hv hv8 _ HQ.out.ps).mono ?_
    rintro e w1 ⟨rfl, hq⟩
    have HQ1 := Lib.hid (HQ.out.trans hq)
    clear hq
    have HDV := Lib.hid (HD.out _ v hv8 _ HQ1.out.ps)
    have HV := Lib.hid hv
    clear hv h8
    cases hd : Asc.isDigit v with
    | true =>
     rw [hd] at HDV
     have HDY := Lib.hid hd
     clear hd
     have c1 := HQ1.out.ps.c1
     have f1 := HQ1.out.ps.f1
     have HPL := Lib.hid (show i < l.length from (dig_at (by rw [HV.out]; exact HDY.out)).1)
     have hpl := HPL.out
     have wz : IntKind.i64.wrap ((((i) : Nat) : Int) + 1) = (((i) + 1 : Nat) : Int) := by rw [show ((((i) : Nat) : Int) + 1) = (((i) + 1 : Nat) : Int) by omega]; exact IntWalk.i64_in _ (by omega)
     go_wp2_with fail
     refine HDV.out.mono ?_
     rintro e wd ⟨rfl, rfl⟩
     go_wp2_with fail
     have HQ2 := Lib.hid (HQ1.out.trans (HQ1.out.ps.to ((i) + 1) HPL.out))
     exact ⟨⟨1, .inr (.inl ⟨rfl, by rw [HV.out]; exact HDY.out⟩), HQ2⟩, by rw [HQ.out.ps.pos]; exact Nat.lt_of_le_of_lt (Nat.le_of_eq (congrArg (fun x => i + 3 - x) HQ2.out.ps.pos)) (by omega)⟩
    | false =>
     rw [hd] at HDV
     have HZ := Lib.hid (show Asc.isDigit (Asc.at_ l (i)) = false by rw [HV.out]; exact hd)
     clear hd
     go_wp2_with fail
     refine HDV.out.mono ?_
     rintro e wd ⟨rfl, rfl⟩
     have c1 := HQ1.out.ps.c1
     go_wp2_with fail
     refine (HF.out _ 1 _ HQ1.out.ps).mono ?_
     rintro e w2 ⟨rfl, hq⟩
     have HQ2 := Lib.hid (HQ1.out.trans hq)
     clear hq
     go_wp2_with fail
     go_ret
     exact ⟨0, i, 1, rfl, HQ2.out, by omega, by rw [HB.out, if_neg (by rw [HZ.out]; decide)]; exact fits_err (by decide)⟩
   ·refine (HNE.out _ h8 _ HQ.out.ps).mono ?_
    rintro e w1 ⟨rfl, hq⟩
    have HQ1 := Lib.hid (HQ.out.trans hq)
    have HZ := Lib.hid (show Asc.isDigit (Asc.at_ l (i)) = false by rw [h8]; decide)
    clear hq h8
    have c1 := HQ1.out.ps.c1
    go_wp2_with fail
    refine (HF.out _ 1 _ HQ1.out.ps).mono ?_
    rintro e w2 ⟨rfl, hq⟩
    have HQ2 := Lib.hid (HQ1.out.trans hq)
    clear hq
    go_wp2_with fail
    go_ret
    exact ⟨0, i, 1, rfl, HQ2.out, by omega, by rw [HB.out, if_neg (by rw [HZ.out]; decide)]; exact fits_err (by decide)⟩
  ·have HDG := Lib.hid hd1
   clear hd1
   have c1 := HQ.out.ps.c1
   have z1 : decide ((((i + 1 : Nat) : Int) : Int) < (i : Int) + 2) = true := decide_eq_true (by omega)
   go_wp2_with fail
   clear c1 z1
   rcases at_two l (i + 1) with h8 | h8
   ·obtain ⟨v, hv⟩ : ∃ v, Asc.at_ l (i + 1) = v := ⟨_, rfl⟩
    have hv8 : v < 256 := by omega
    refine (HNX.out _ v hv hv8 _ HQ.out.ps).mono ?_
    rintro e w1 ⟨rfl, hq⟩
    have HQ1 := Lib.hid (HQ.out.trans hq)
    clear hq
    have HDV := Lib.hid (HD.out _ v hv8 _ HQ1.out.ps)
    have HV := Lib.hid hv
    clear hv h8
    cases hd : Asc.isDigit v with
    | true =>
     rw [hd] at HDV
     have HDY := Lib.hid hd
     clear hd
     have c1 := HQ1.out.ps.c1
     have f1 := HQ1.out.ps.f1
     have HPL := Lib.hid (show i + 1 < l.length from (dig_at (by rw [HV.out]; exact HDY.out)).1)
     have hpl := HPL.out
     have wz : IntKind.i64.wrap ((((i + 1) : Nat) : Int) + 1) = (((i + 1) + 1 : Nat) : Int) := by rw [show ((((i + 1) : Nat) : Int) + 1) = (((i + 1) + 1 : Nat) : Int) by omega]; exact IntWalk.i64_in _ (by omega)
     go_wp2_with fail
     refine HDV.out.mono ?_
     rintro e wd ⟨rfl, rfl⟩
     go_wp2_with fail
     have HQ2 := Lib.hid (HQ1.out.trans (HQ1.out.ps.to ((i + 1) + 1) HPL.out))
     exact ⟨⟨2, .inr (.inr ⟨rfl, HDG.out, by rw [HV.out]; exact HDY.out⟩), HQ2⟩, by rw [HQ.out.ps.pos]; exact Nat.lt_of_le_of_lt (Nat.le_of_eq (congrArg (fun x => i + 3 - x) HQ2.out.ps.pos)) (by omega)⟩
    | false =>
     rw [hd] at HDV
     have HZ := Lib.hid (show Asc.isDigit (Asc.at_ l (i + 1)) = false by rw [HV.out]; exact hd)
     clear hd
     go_wp2_with fail
     refine HDV.out.mono ?_
     rintro e wd ⟨rfl, rfl⟩
     have HD2 := HZ
     obtain ⟨hn1, hn2, hn3, hn4, hn5⟩ := HNS.out HDG.out
     have HBD := HB
     clear HB HNS
     obtain ⟨V, hV⟩ : ∃ V, bVal l i = V := ⟨_, rfl⟩
     obtain ⟨E, hE⟩ : ∃ E, bEnd l i = E := ⟨_, rfl⟩
     rw [hV] at hn1 hn2 HBD
     rw [hE] at hn1 hn3 hn4 hn5 HBD HNM
     rw [hn1] at HNM
     have HQE : Hid (ZQ b l E 0 w w1) := by
      have := HQ1.out
      rwa [show i + 1 = E by rw [← hE]; unfold bEnd; simp only [HDG.out, HD2.out]; rfl] at this
     clear hV hE HQ1 HQ hn1
     have c0 := HQE.out.ps.c0
     have c1 := HQE.out.ps.c1
     have z0 : ((E : Int) == (i : Int)) = false := by rw [beq_eq_false_iff_ne]; omega
     have i0 : (0 : Int) ≤ (i : Int) := by omega
     have i1 : (i : Int) ≤ (E : Int) := by omega
     have i2 : (E : Int) ≤ (l.length : Int) := by omega
     go_wp2_with fail
     have k0 := cell_regrown c0
     have k1 := cell_regrown c1
     clear c0 c1
     refine wp_region_quiet_below (by kernel_rfl) (by kernel_rfl) ?_
     repeat (first | go_big_quiet_step ((go_at_call 173; simp only [Asc.extract_seg]; exact Calls.regrown_of (HNM.out _ _ (HQE.out.grown _ _).ps))) | quiet_step ((go_at_call 173; simp only [Asc.extract_seg]; exact Calls.regrown_of (HNM.out _ _ (HQE.out.grown _ _).ps))))
     refine wpQuiet_nil ?_
     clear k0 k1
     rintro _ ⟨⟨dq, osq⟩, rfl⟩
     obtain ⟨w3, hw3⟩ : ∃ W, grow (redrawn w1 dq) osq = W := ⟨_, rfl⟩
     have HQ3 : Hid (ZQ b l E 0 w w3) := Lib.hid (hw3 ▸ HQE.out.grown dq osq)
     dsimp only
     rw [hw3]
     clear hw3
     by_cases hv : 40 < V
     ·have z1 : decide ((40 : Int) < (V : Int)) = true := decide_eq_true (by omega)
      have y1 : decide (40 < V) = true := decide_eq_true hv
      go_wp2_with fail
      refine (HF.out _ 2 _ HQ3.out.ps).mono ?_
      rintro e w4 ⟨rfl, hq⟩
      have HQ4 := Lib.hid (HQ3.out.trans hq)
      clear hq
      go_wp2_with fail
      go_ret
      exact ⟨V, E, 2, rfl, HQ4.out, hn2, by rw [HBD.out, if_pos HDG.out, if_pos hv]; exact fits_err (by decide)⟩
     ·have z1 : decide ((40 : Int) < (V : Int)) = false := decide_eq_false (by omega)
      have y1 : decide (40 < V) = false := decide_eq_false hv
      go_wp2_with fail
      go_ret
      exact ⟨V, E, 0, rfl, HQ3.out, hn2, by rw [HBD.out, if_pos HDG.out, if_neg hv]; exact fits_ok⟩
   ·refine (HNE.out _ h8 _ HQ.out.ps).mono ?_
    rintro e w1 ⟨rfl, hq⟩
    have HQ1 := Lib.hid (HQ.out.trans hq)
    have HZ := Lib.hid (show Asc.isDigit (Asc.at_ l (i + 1)) = false by rw [h8]; decide)
    clear hq h8
    have HD2 := HZ
    obtain ⟨hn1, hn2, hn3, hn4, hn5⟩ := HNS.out HDG.out
    have HBD := HB
    clear HB HNS
    obtain ⟨V, hV⟩ : ∃ V, bVal l i = V := ⟨_, rfl⟩
    obtain ⟨E, hE⟩ : ∃ E, bEnd l i = E := ⟨_, rfl⟩
    rw [hV] at hn1 hn2 HBD
    rw [hE] at hn1 hn3 hn4 hn5 HBD HNM
    rw [hn1] at HNM
    have HQE : Hid (ZQ b l E 0 w w1) := by
     have := HQ1.out
     rwa [show i + 1 = E by rw [← hE]; unfold bEnd; simp only [HDG.out, HD2.out]; rfl] at this
    clear hV hE HQ1 HQ hn1
    have c0 := HQE.out.ps.c0
    have c1 := HQE.out.ps.c1
    have z0 : ((E : Int) == (i : Int)) = false := by rw [beq_eq_false_iff_ne]; omega
    have i0 : (0 : Int) ≤ (i : Int) := by omega
    have i1 : (i : Int) ≤ (E : Int) := by omega
    have i2 : (E : Int) ≤ (l.length : Int) := by omega
    go_wp2_with fail
    have k0 := cell_regrown c0
    have k1 := cell_regrown c1
    clear c0 c1
    refine wp_region_quiet_below (by kernel_rfl) (by kernel_rfl) ?_
    repeat (first | go_big_quiet_step ((go_at_call 173; simp only [Asc.extract_seg]; exact Calls.regrown_of (HNM.out _ _ (HQE.out.grown _ _).ps))) | quiet_step ((go_at_call 173; simp only [Asc.extract_seg]; exact Calls.regrown_of (HNM.out _ _ (HQE.out.grown _ _).ps))))
    refine wpQuiet_nil ?_
    clear k0 k1
    rintro _ ⟨⟨dq, osq⟩, rfl⟩
    obtain ⟨w3, hw3⟩ : ∃ W, grow (redrawn w1 dq) osq = W := ⟨_, rfl⟩
    have HQ3 : Hid (ZQ b l E 0 w w3) := Lib.hid (hw3 ▸ HQE.out.grown dq osq)
    dsimp only
    rw [hw3]
    clear hw3
    by_cases hv : 40 < V
    ·have z1 : decide ((40 : Int) < (V : Int)) = true := decide_eq_true (by omega)
     have y1 : decide (40 < V) = true := decide_eq_true hv
     go_wp2_with fail
     refine (HF.out _ 2 _ HQ3.out.ps).mono ?_
     rintro e w4 ⟨rfl, hq⟩
     have HQ4 := Lib.hid (HQ3.out.trans hq)
     clear hq
     go_wp2_with fail
     go_ret
     exact ⟨V, E, 2, rfl, HQ4.out, hn2, by rw [HBD.out, if_pos HDG.out, if_pos hv]; exact fits_err (by decide)⟩
    ·have z1 : decide ((40 : Int) < (V : Int)) = false := decide_eq_false (by omega)
     have y1 : decide (40 < V) = false := decide_eq_false hv
     go_wp2_with fail
     go_ret
     exact ⟨V, E, 0, rfl, HQ3.out, hn2, by rw [HBD.out, if_pos HDG.out, if_neg hv]; exact fits_ok⟩
  ·have HDG := Lib.hid hd1
   have HD2 := Lib.hid hd2
   clear hd1 hd2
   have z1 : decide (((i + 2 : Nat) : Int) < (i : Int) + 2) = false := decide_eq_false (by omega)
   have c1 := HQ.out.ps.c1
   go_wp2_with fail
   clear c1 z1
   have HQ1 := HQ
   obtain ⟨w1, hw1⟩ : ∃ w1, wr = w1 := ⟨_, rfl⟩
   subst hw1
   obtain ⟨hn1, hn2, hn3, hn4, hn5⟩ := HNS.out HDG.out
   have HBD := HB
   clear HB HNS
   obtain ⟨V, hV⟩ : ∃ V, bVal l i = V := ⟨_, rfl⟩
   obtain ⟨E, hE⟩ : ∃ E, bEnd l i = E := ⟨_, rfl⟩
   rw [hV] at hn1 hn2 HBD
   rw [hE] at hn1 hn3 hn4 hn5 HBD HNM
   rw [hn1] at HNM
   have HQE : Hid (ZQ b l E 0 w wr) := by
    have := HQ1.out
    rwa [show i + 2 = E by rw [← hE]; unfold bEnd; simp only [HDG.out, HD2.out]; rfl] at this
   clear hV hE HQ1 HQ hn1
   have c0 := HQE.out.ps.c0
   have c1 := HQE.out.ps.c1
   have z0 : ((E : Int) == (i : Int)) = false := by rw [beq_eq_false_iff_ne]; omega
   have i0 : (0 : Int) ≤ (i : Int) := by omega
   have i1 : (i : Int) ≤ (E : Int) := by omega
   have i2 : (E : Int) ≤ (l.length : Int) := by omega
   go_wp2_with fail
   have k0 := cell_regrown c0
   have k1 := cell_regrown c1
   clear c0 c1
   refine wp_region_quiet_below (by kernel_rfl) (by kernel_rfl) ?_
   repeat (first | go_big_quiet_step ((go_at_call 173; simp only [Asc.extract_seg]; exact Calls.regrown_of (HNM.out _ _ (HQE.out.grown _ _).ps))) | quiet_step ((go_at_call 173; simp only [Asc.extract_seg]; exact Calls.regrown_of (HNM.out _ _ (HQE.out.grown _ _).ps))))
   refine wpQuiet_nil ?_
   clear k0 k1
   rintro _ ⟨⟨dq, osq⟩, rfl⟩
   obtain ⟨w3, hw3⟩ : ∃ W, grow (redrawn wr dq) osq = W := ⟨_, rfl⟩
   have HQ3 : Hid (ZQ b l E 0 w w3) := Lib.hid (hw3 ▸ HQE.out.grown dq osq)
   dsimp only
   rw [hw3]
   clear hw3
   by_cases hv : 40 < V
   ·have z1 : decide ((40 : Int) < (V : Int)) = true := decide_eq_true (by omega)
    have y1 : decide (40 < V) = true := decide_eq_true hv
    go_wp2_with fail
    refine (HF.out _ 2 _ HQ3.out.ps).mono ?_
    rintro e w4 ⟨rfl, hq⟩
    have HQ4 := Lib.hid (HQ3.out.trans hq)
    clear hq
    go_wp2_with fail
    go_ret
    exact ⟨V, E, 2, rfl, HQ4.out, hn2, by rw [HBD.out, if_pos HDG.out, if_pos hv]; exact fits_err (by decide)⟩
   ·have z1 : decide ((40 : Int) < (V : Int)) = false := decide_eq_false (by omega)
    have y1 : decide (40 < V) = false := decide_eq_false hv
    go_wp2_with fail
    go_ret
    exact ⟨V, E, 0, rfl, HQ3.out, hn2, by rw [HBD.out, if_pos HDG.out, if_neg hv]; exact fits_ok⟩
def BdsZ (b : Nat) (l : List UInt8) (r : Out (Int × Int)) (w : World) (en : Ending) (w' : World) : Prop := ∃ (lo hi : Int) (j e : Nat), en = .returned (.tuple #[.int .i64 lo, .int .i64 hi]) ∧ ZQ b l j e w w' ∧ fits r (lo, hi) j e
set_option maxHeartbeats 16000000 in
set_option maxRecDepth 1000000 in
theorem bounds_any (b : Nat) (l : List UInt8) (i : Nat) (w : World) (h : ZS b l i 0 w) : Calls Tryz.prog 130 #[.pointer (some ⟨b, 0, none⟩)] w (BdsZ b l (boundsM l i) w) := by
 have HBD := Lib.hid fun (k : Nat) W (hW : ZS b l k 0 W) => bound_any b l k W hW
 have HTY := Lib.hid fun (k : Nat) (hk : Asc.at_ l k = 44) W (hW : ZS b l k 0 W) => ztakes_yes b l k W hW 44 hk (by decide)
 have HTN := Lib.hid fun (k e : Nat) (hk : nxN l k e ≠ 44) W (hW : ZS b l k e W) => ztakes_no b l k e W hW 44 hk
 have HSY := Lib.hid fun (k : Nat) (hk : Asc.at_ l k = 125) W (hW : ZS b l k 0 W) => zsees_yes b l k W hW 125 hk (by decide)
 have HSN := Lib.hid fun (k e : Nat) (hk : nxN l k e ≠ 125) W (hW : ZS b l k e W) => zsees_no b l k e W hW 125 hk
 have HXY := Lib.hid fun (k : Nat) (hk : Asc.at_ l k = 125) W (hW : ZS b l k 0 W) => zexpect_yes b l k W hW 125 hk (by decide)
 have HXN := Lib.hid fun (k e : Nat) (hk : nxN l k e ≠ 125) W (hW : ZS b l k e W) => zexpect_no b l k e W hW 125 hk
 have HF := Lib.hid fun (k e : Nat) W (hW : ZS b l k e W) => zfail b l k e 2 W hW
 have HM := Lib.hid (show boundsM l i = _ by rw [boundsM])
 have H := Lib.hid h
 clear h
 go_enter Tryz.func130, Tryz.ntmps130
 go_wp2_with fail
 refine (HBD.out _ _ H.out).mono ?_
 rintro e w1 ⟨lo, j, e1, rfl, hq, hlo, hr1⟩
 have HQ1 := Lib.hid hq
 have HR1 := Lib.hid (fits_cases hr1)
 clear hq hr1
 have zlo : decide ((0 : Int) ≤ (lo : Int)) = true := decide_eq_true (by omega)
 have ylo : decide (0 ≤ lo) = true := decide_eq_true (Nat.zero_le _)
 have zll : decide ((lo : Int) < (lo : Int)) = false := decide_eq_false (by omega)
 have yll : decide (lo < lo) = false := decide_eq_false (by omega)
 go_wp2_with fail
 rcases HR1.out with ⟨hm, rfl⟩ | ⟨hm, he⟩
 ·have HM1 := Lib.hid hm
  clear hm HR1
  by_cases h44 : Asc.at_ l j = 44
  ·have H44 := Lib.hid h44
   refine (HTY.out _ H44.out _ HQ1.out.ps).mono ?_
   rintro e w2 ⟨rfl, hq⟩
   have HQ2 := Lib.hid (HQ1.out.trans hq)
   clear hq
   go_wp2_with fail
   by_cases h125 : Asc.at_ l (j + 1) = 125
   ·have H125 := Lib.hid h125
    clear h125 h44
    refine (HSY.out _ H125.out _ HQ2.out.ps).mono ?_
    rintro e w3 ⟨rfl, hq⟩
    have HQ3 := Lib.hid (HQ2.out.trans hq)
    clear hq
    go_wp2_with fail
    refine (HXY.out _ H125.out _ HQ3.out.ps).mono ?_
    rintro e w4 ⟨rfl, hq⟩
    have HQ4 := Lib.hid (HQ3.out.trans hq)
    clear hq
    go_wp2_with fail
    go_ret2
    exact ⟨_, _, _, _, rfl, HQ4.out, by rw [HM.out]; rw [HM1.out]; simp only [if_pos H44.out, if_pos H125.out]; exact fits_ok⟩
   ·have H125 := Lib.hid h125
    clear h125 h44
    refine (HSN.out _ 0 H125.out _ HQ2.out.ps).mono ?_
    rintro e w3 ⟨rfl, hq⟩
    have HQ3 := Lib.hid (HQ2.out.trans hq)
    clear hq
    go_wp2_with fail
    refine (HBD.out _ _ HQ3.out.ps).mono ?_
    rintro e w4 ⟨hi, k, e2, rfl, hq, hhi, hr2⟩
    have HQ4 := Lib.hid (HQ3.out.trans hq)
    have HR2 := Lib.hid (fits_cases hr2)
    clear hq hr2
    have zhi : decide ((0 : Int) ≤ (hi : Int)) = true := decide_eq_true (by omega)
    have yhi : decide (0 ≤ hi) = true := decide_eq_true (Nat.zero_le _)
    by_cases hlt : hi < lo
    ·have z1 : decide ((hi : Int) < (lo : Int)) = true := decide_eq_true (by omega)
     have y1 : decide (hi < lo) = true := decide_eq_true hlt
     go_wp2_with fail
     refine (HF.out _ _ _ HQ4.out.ps).mono ?_
     rintro e w5 ⟨rfl, hq⟩
     have HQ5 := Lib.hid (HQ4.out.trans hq)
     clear hq
     go_wp2_with fail
     rcases HR2.out with ⟨hm, rfl⟩ | ⟨hm, he⟩
     ·have HM2 := Lib.hid hm
      clear hm
      refine (HXN.out _ _ (by rw [nxN_err (by decide)]; decide) _ HQ5.out.ps).mono ?_
      rintro e w6 ⟨rfl, hq⟩
      have HQ6 := Lib.hid (HQ5.out.trans hq)
      clear hq
      go_wp2_with fail
      go_ret2
      exact ⟨_, _, _, _, rfl, HQ6.out, by rw [HM.out]; rw [HM1.out]; simp only [if_pos H44.out, if_neg H125.out]; rw [HM2.out]; simp only [if_pos hlt]; exact fits_err (by decide)⟩
     ·have HM2 := Lib.hid hm
      have HE := Lib.hid he
      rw [if_neg he] at HQ5
      clear hm he
      refine (HXN.out _ _ (by rw [nxN_err HE.out]; decide) _ HQ5.out.ps).mono ?_
      rintro e w6 ⟨rfl, hq⟩
      have HQ6 := Lib.hid (HQ5.out.trans hq)
      clear hq
      go_wp2_with fail
      rw [if_neg HE.out] at HQ6
      go_ret2
      exact ⟨_, _, _, _, rfl, HQ6.out, by rw [HM.out]; rw [HM1.out]; simp only [if_pos H44.out, if_neg H125.out]; rw [HM2.out]; exact fits_err HE.out⟩
    ·have z1 : decide ((hi : Int) < (lo : Int)) = false := decide_eq_false (by omega)
     have y1 : decide (hi < lo) = false := decide_eq_false hlt
     go_wp2_with fail
     rcases HR2.out with ⟨hm, rfl⟩ | ⟨hm, he⟩
     ·have HM2 := Lib.hid hm
      clear hm
      by_cases h7 : Asc.at_ l k = 125
      ·have H7 := Lib.hid h7
       clear h7
       refine (HXY.out _ H7.out _ HQ4.out.ps).mono ?_
       rintro e w5 ⟨rfl, hq⟩
       have HQ5 := Lib.hid (HQ4.out.trans hq)
       clear hq
       go_wp2_with fail
       go_ret2
       exact ⟨_, _, _, _, rfl, HQ5.out, by rw [HM.out]; rw [HM1.out]; simp only [if_pos H44.out, if_neg H125.out]; rw [HM2.out]; simp only [if_neg hlt, if_pos H7.out]; exact fits_ok⟩
      ·have H7 := Lib.hid h7
       clear h7
       refine (HXN.out _ 0 H7.out _ HQ4.out.ps).mono ?_
       rintro e w5 ⟨rfl, hq⟩
       have HQ5 := Lib.hid (HQ4.out.trans hq)
       clear hq
       go_wp2_with fail
       go_ret2
       exact ⟨_, _, _, _, rfl, HQ5.out, by rw [HM.out]; rw [HM1.out]; simp only [if_pos H44.out, if_neg H125.out]; rw [HM2.out]; simp only [if_neg hlt, if_neg H7.out]; exact fits_err (by decide)⟩
     ·have HM2 := Lib.hid hm
      have HE := Lib.hid he
      clear hm he
      refine (HXN.out _ _ (by rw [nxN_err HE.out]; decide) _ HQ4.out.ps).mono ?_
      rintro e w5 ⟨rfl, hq⟩
      have HQ5 := Lib.hid (HQ4.out.trans hq)
      clear hq
      go_wp2_with fail
      rw [if_neg HE.out] at HQ5
      go_ret2
      exact ⟨_, _, _, _, rfl, HQ5.out, by rw [HM.out]; rw [HM1.out]; simp only [if_pos H44.out, if_neg H125.out]; rw [HM2.out]; exact fits_err HE.out⟩
  ·have H44 := Lib.hid h44
   clear h44
   refine (HTN.out _ 0 H44.out _ HQ1.out.ps).mono ?_
   rintro e w2 ⟨rfl, hq⟩
   have HQ2 := Lib.hid (HQ1.out.trans hq)
   clear hq
   go_wp2_with fail
   by_cases h7 : Asc.at_ l j = 125
   ·have H7 := Lib.hid h7
    clear h7
    refine (HXY.out _ H7.out _ HQ2.out.ps).mono ?_
    rintro e w3 ⟨rfl, hq⟩
    have HQ3 := Lib.hid (HQ2.out.trans hq)
    clear hq
    go_wp2_with fail
    go_ret2
    exact ⟨_, _, _, _, rfl, HQ3.out, by rw [HM.out]; rw [HM1.out]; simp only [if_neg H44.out, if_pos H7.out]; exact fits_ok⟩
   ·have H7 := Lib.hid h7
    clear h7
    refine (HXN.out _ 0 H7.out _ HQ2.out.ps).mono ?_
    rintro e w3 ⟨rfl, hq⟩
    have HQ3 := Lib.hid (HQ2.out.trans hq)
    clear hq
    go_wp2_with fail
    go_ret2
    exact ⟨_, _, _, _, rfl, HQ3.out, by rw [HM.out]; rw [HM1.out]; simp only [if_neg H44.out, if_neg H7.out]; exact fits_err (by decide)⟩
 ·have HM1 := Lib.hid hm
  have HE := Lib.hid he
  clear hm he
  refine (HTN.out _ _ (by rw [nxN_err HE.out]; decide) _ HQ1.out.ps).mono ?_
  rintro e w2 ⟨rfl, hq⟩
  have HQ2 := Lib.hid (HQ1.out.trans hq)
  clear hq
  go_wp2_with fail
  refine (HXN.out _ _ (by rw [nxN_err HE.out]; decide) _ HQ2.out.ps).mono ?_
  rintro e w3 ⟨rfl, hq⟩
  have HQ3 := Lib.hid (HQ2.out.trans hq)
  clear hq
  go_wp2_with fail
  rw [if_neg HE.out] at HQ3
  go_ret2
  exact ⟨_, _, _, _, rfl, HQ3.out, by rw [HM.out]; rw [HM1.out]; exact fits_err HE.out⟩
end Go.Proofs.YtmpbjaodgajnfaaGreatDoor
namespace Go.Proofs.YtmpbjaodgajnfaaGreatDoor
open Go.RowKit
def errAt (b : Nat) (w : World) : Nat := match w.cell? ⟨b, 2, none⟩ with
 | some (.int .i64 p) => p.toNat
 | _ => 0
theorem ZS.err {b : Nat} {l : List UInt8} {i e : Nat} {w : World} (h : ZS b l i e w) : errAt b w = e := by
 unfold errAt
 rw [h.c2]
 simp
def leftAt (b : Nat) (w : World) : Nat := if errAt b w = 0 then 1002 - posAt b w else 0
theorem ZS.left {b : Nat} {l : List UInt8} {i e : Nat} {w : World} (h : ZS b l i e w) : leftAt b w = if e = 0 then 1002 - i else 0 := by
 unfold leftAt
 rw [h.err, h.pos]
theorem escM_lt {l : List UInt8} {i : Nat} {x : (Nat → Bool) × Nat × Bool} {j : Nat} (h : escM l i = .ok (x, j)) : j = i + 1 := by
 unfold escM at h
 repeat' split at h
 all_goals first
  | (injection h with h; injection h with _ h; exact h.symm)
  | cases h
theorem itemM_lt {l : List UInt8} {s : Bool} {i : Nat} {x : (Nat → Bool) × Nat × Bool} {j : Nat} (h : itemM l s i = .ok (x, j)) : i < j := by
 unfold itemM at h
 split at h
 ·split at h
  ·cases h
  ·have := escM_lt h
   omega
 ·split at h
  ·injection h with h
   injection h with _ h
   omega
  ·cases h
structure ZB (b : Nat) (l : List UInt8) (i e : Nat) (w : World) (q : Nat) (f : Nat → Bool) (W : World) : Prop where
 pr : ZR b l i e w W
 sb : SB q f W
 hq : w.heap.size < q
section
variable {b i e j e2 q : Nat} {l : List UInt8} {w W W' : World} {f g : Nat → Bool}
theorem ZB.go (h : ZB b l i e w q f W) (k : ZQ b l j e2 W W') : ZB b l j e2 w q f W' := ⟨h.pr.go k, h.sb.go k.ap (by have := h.pr.hb; have := h.hq; omega), h.hq⟩
theorem ZB.on (h : ZB b l i e w q f W) (k : Below W.heap.size W W') : ZB b l i e w q f W' := ⟨h.pr.on k, h.sb.on k h.sb.lt, h.hq⟩
theorem ZB.far (h : ZB b l i e w q f W) (k : Below q W W') (hs : SB q g W') : ZB b l i e w q g W' := ⟨h.pr.far (k.mono h.hq), hs, h.hq⟩
theorem ZB.past (h : ZB b l i e w q f W) {B : Nat} (k : Below B W W') (hB : q < B) : ZB b l i e w q f W' := ⟨h.pr.far (k.mono (by have := h.hq; omega)), h.sb.on k hB, h.hq⟩
theorem ZB.ps (h : ZB b l i e w q f W) : ZS b l i e W := h.pr.ps
end
theorem max8 (a c : UInt8) : ∃ m : UInt8, max (a.toNat : Int) (c.toNat : Int) = (m.toNat : Int) ∧ (¬ c.toNat < a.toNat → m = c) := by
 by_cases h : c.toNat < a.toNat
 ·exact ⟨a, by omega, fun h2 => absurd h h2⟩
 ·exact ⟨c, by omega, fun _ => rfl⟩
def BraI (l : List UInt8) (R : Out (Nat → Bool)) (first : Bool) (k e : Nat) (f : Nat → Bool) : Prop := (e = 0 ∧ ∃ n, l.length < k + n ∧ braL l n first k f = R) ∨ (e ≠ 0 ∧ R = .error (k, e))
theorem BraI.next {l : List UInt8} {R : Out (Nat → Bool)} {first : Bool} {k : Nat} {f : Nat → Bool} (h : BraI l R first k 0 f) (hk : k ≤ l.length) (hc : ¬ (first = false ∧ Asc.at_ l k = 93)) : ∃ n, l.length < k + n + 1 ∧ R = (match itemM l false k with
   | .error x => .error x
   | .ok ((s, lo, one), j) =>
    if one = true ∧ Asc.at_ l j = 45 then
     match itemM l true (j + 1) with
     | .error x => .error x
     | .ok ((_, hi, _), k) => if hi < lo then .error (k, 2) else braL l n false k (fun c => f c || spanF lo (hi + 1) c)
    else braL l n false j (fun c => f c || s c)) := by
 rcases h with ⟨_, n, hn, hr⟩ | ⟨h, _⟩
 ·cases n with
  | zero => omega
  | succ n =>
   rw [braL, if_neg hc] at hr
   exact ⟨n, by omega, hr.symm⟩
 ·exact absurd rfl h
theorem BraI.done {l : List UInt8} {R : Out (Nat → Bool)} {first : Bool} {k : Nat} {f : Nat → Bool} (h : BraI l R first k 0 f) (hk : k ≤ l.length) (hc : first = false ∧ Asc.at_ l k = 93) : R = .ok (f, k) := by
 rcases h with ⟨_, n, hn, hr⟩ | ⟨h, _⟩
 ·cases n with
  | zero => omega
  | succ n =>
   rw [braL, if_pos hc] at hr
   exact hr.symm
 ·exact absurd rfl h
set_option maxHeartbeats 16000000 in
set_option maxRecDepth 1000000 in
theorem bra_any (b : Nat) (l : List UInt8) (i : Nat) : RdZ 148 b l i (braM l i) := by
 intro w h
 have hv := (zero_of_info infoS).1
 obtain ⟨nt, hnt⟩ : ∃ nt : Bool, decide (Asc.at_ l i = 94) = nt := ⟨_, rfl⟩
 obtain ⟨i0, hi0⟩ : ∃ i0, (if Asc.at_ l i = 94 then i + 1 else i) = i0 := ⟨_, rfl⟩
 have HTK : Hid (∀ W, ZS b l i 0 W → Calls Tryz.prog 74 #[.pointer (some ⟨b, 0, none⟩), .int .u8 94] W fun r w' => r = .returned (.bool nt) ∧ ZQ b l i0 0 W w') := Lib.hid (fun W hW => by
  by_cases h9 : Asc.at_ l i = 94
  ·rw [← hnt, ← hi0, if_pos h9, decide_eq_true h9]
   exact ztakes_yes b l i W hW 94 h9 (by decide)
  ·rw [← hnt, ← hi0, if_neg h9, decide_eq_false h9]
   exact ztakes_no b l i 0 W hW 94 h9)
 have HIT := Lib.hid fun (k : Nat) (sg : Bool) W (hW : ZS b l k 0 W) => item_any b l sg k W hW
 have HSY := Lib.hid fun (k : Nat) (hk : Asc.at_ l k = 93) W (hW : ZS b l k 0 W) => zsees_yes b l k W hW 93 hk (by decide)
 have HSN := Lib.hid fun (k e : Nat) (hk : nxN l k e ≠ 93) W (hW : ZS b l k e W) => zsees_no b l k e W hW 93 hk
 have HTY := Lib.hid fun (k : Nat) (hk : Asc.at_ l k = 45) W (hW : ZS b l k 0 W) => ztakes_yes b l k W hW 45 hk (by decide)
 have HTN := Lib.hid fun (k e : Nat) (hk : nxN l k e ≠ 45) W (hW : ZS b l k e W) => ztakes_no b l k e W hW 45 hk
 have HXY := Lib.hid fun (k : Nat) (hk : Asc.at_ l k = 93) W (hW : ZS b l k 0 W) => zexpect_yes b l k W hW 93 hk (by decide)
 have HXN := Lib.hid fun (k e : Nat) (hk : nxN l k e ≠ 93) W (hW : ZS b l k e W) => zexpect_no b l k e W hW 93 hk
 have HF := Lib.hid fun (k e : Nat) W (hW : ZS b l k e W) => zfail b l k e 2 W hW
 have HM : Hid (braM l i = match braL l (l.length + 1) true i0 (fun _ => false) with
   | .error x => .error x
   | .ok (f, j) => .ok (clsT (if nt = true then (fun c => !f c) else f), j + 1)) := Lib.hid (by
  unfold braM
  rw [hi0, ← hnt]
  by_cases h9 : Asc.at_ l i = 94
  ·simp only [if_pos h9, decide_eq_true h9, if_true]
   rfl
  ·simp only [if_neg h9, decide_eq_false h9, Bool.false_eq_true, if_false]
   rfl)
 have HS := Lib.hid (ZR.start h)
 clear h hnt hi0
 obtain ⟨R, hR⟩ : ∃ R, braL l (l.length + 1) true i0 (fun _ => false) = R := ⟨_, rfl⟩
 rw [hR] at HM
 have HR0 := Lib.hid hR
 clear hR
 go_enter Tryz.func148, Tryz.ntmps148
 go_wp2_with fail
 refine (HTK.out _ HS.out.ps).mono ?_
 rintro e w1 ⟨rfl, hq⟩
 have HS1 := Lib.hid (HS.out.go hq)
 clear hq HS
 go_wp2_with fail
 rw [← setA_false]
 obtain ⟨q, hq⟩ : ∃ q, w1.heap.size = q := ⟨_, rfl⟩
 have HB1 : Hid (ZB b l i0 0 w q (fun _ => false) (w1.alloc (.cells (setA (fun _ => false)) 213))) := Lib.hid ⟨HS1.out.on (al_below _ _), hq ▸ SB.new w1 _, hq ▸ HS1.out.sz⟩
 rw [hq]
 clear hq HS1
 go_loopw [5] (fun fv wr => ∃ (first : Bool) (k e : Nat) (f : Nat → Bool), fv = .bool first ∧ Hid (BraI l R first k e f) ∧ Hid (ZB b l k e w q f wr)) (fun _ wr => leftAt b wr)
 case atStart => exact ⟨true, i0, 0, _, rfl, Lib.hid (.inl ⟨rfl, l.length + 1, by omega, HR0.out⟩), HB1⟩
 case round =>
  obtain ⟨first, k, e, f, rfl, HI, HZ⟩ := hrel
  clear HB1 HR0
  by_cases he : e = 0
  ·subst he
   have c2 : wr.cell? ⟨b, 2, none⟩ = some (.int .i64 0) := HZ.out.ps.c2
   have hkl := HZ.out.ps.le
   have hl2 := HZ.out.ps.len
   cases first with
   | true =>
    obtain ⟨n, hn, hrn⟩ := HI.out.next hkl (by simp)
    have HRN := Lib.hid hrn
    have HNN := Lib.hid hn
    clear hrn hn
    go_wp2_with fail
    clear c2
    refine (HIT.out _ false _ HZ.out.ps).mono ?_
    rintro e w3 ⟨s, lo, one, j, e3, rfl, hq, hlo, hr3⟩
    have HZ3 := Lib.hid (HZ.out.go hq)
    have HR3 := Lib.hid (fits_cases hr3)
    clear hq hr3
    have hbq : w3.heap.size ≠ b := by have := HZ3.out.pr.hb; have := HZ3.out.pr.sz; omega
    have hpn := put_new w3 (fun _ => false) s 213
    rw [setA_false] at hpn
    obtain ⟨lo8, rfl⟩ : ∃ c : UInt8, lo = c.toNat := ⟨UInt8.ofNat lo, (ofNat8 hlo).symm⟩
    have HZ4 := Lib.hid (HZ3.out.on (al_below w3 (.cells (setA s) 213)))
    have HSB := Lib.hid (SB.new w3 s)
    cases one with
    | true =>
     by_cases h45 : nxN l j e3 = 45
     ·obtain rfl : e3 = 0 := Decidable.byContradiction fun hne => by rw [nxN_err hne] at h45; cases h45
      have H45 := Lib.hid h45
      have hm3 : itemM l false k = .ok ((s, lo8.toNat, true), j) := by rcases HR3.out with ⟨h, _⟩ | ⟨_, h⟩; (exact h); (exact absurd rfl h)
      have HM3 := Lib.hid hm3
      clear h45 hm3
      go_wp2_with fail
      refine (HTY.out _ H45.out _ HZ4.out.ps).mono ?_
      rintro e w5 ⟨rfl, hq⟩
      have HZ5 := Lib.hid (HZ4.out.go hq)
      have HSB5 := Lib.hid (HSB.out.go hq.ap hbq)
      clear hq
      go_wp2_with fail
      refine (HIT.out _ true _ HZ5.out.ps).mono ?_
      rintro e w6 ⟨s2, hi, one2, k2, e6, rfl, hq, hhi, hr6⟩
      have HZ6 := Lib.hid (HZ5.out.go hq)
      have HSB6 := Lib.hid (HSB5.out.go hq.ap hbq)
      have HR6 := Lib.hid (fits_cases hr6)
      clear hq hr6
      have hpn2 := put_new w6 (fun _ => false) s2 213
      rw [setA_false] at hpn2
      obtain ⟨hi8, rfl⟩ : ∃ c : UInt8, hi = c.toNat := ⟨UInt8.ofNat hi, (ofNat8 hhi).symm⟩
      have HZ7 := Lib.hid (HZ6.out.on (al_below w6 (.cells (setA s2) 213)))
      have HSB7 := Lib.hid (HSB6.out.on (al_below w6 (.cells (setA s2) 213)) HSB6.out.lt)
      by_cases he6 : e6 = 0
      ·subst he6
       have c2 : (w6.alloc (.cells (setA s2) 213)).cell? ⟨b, 2, none⟩ = some (.int .i64 0) := HZ7.out.ps.c2
       have hm6 : itemM l true (j + 1) = .ok ((s2, hi8.toNat, one2), k2) := by rcases HR6.out with ⟨h, _⟩ | ⟨_, h⟩; (exact h); (exact absurd rfl h)
       have HM6 := Lib.hid hm6
       clear hm6
       by_cases hlt : hi8.toNat < lo8.toNat
       ·have z1 : decide ((hi8.toNat : Int) < (lo8.toNat : Int)) = true := decide_eq_true (by omega)
        have y1 : decide (hi8.toNat < lo8.toNat) = true := decide_eq_true hlt
        go_wp2_with fail
        clear c2
        refine (HF.out _ _ _ HZ7.out.ps).mono ?_
        rintro e w8 ⟨rfl, hq⟩
        have HZ8 := Lib.hid (HZ7.out.go hq)
        have HSB8 := Lib.hid (HSB7.out.go hq.ap hbq)
        clear hq
        rw [if_pos rfl] at HZ8
        go_wp2_with fail
        obtain ⟨m8, hm8, hmr⟩ := max8 lo8 hi8
        rw [hm8]
        refine (span_any lo8 m8 _).mono ?_
        rintro e w9 ⟨rfl, hb⟩
        have HZ9 := Lib.hid (HZ8.out.on hb)
        have HSB9 := Lib.hid (HSB8.out.on hb HSB8.out.lt)
        obtain ⟨g, hg⟩ : ∃ g, spanF lo8.toNat (m8.toNat + 1) = g := ⟨_, rfl⟩
        rw [hg]
        have HG := Lib.hid hg
        clear hb hm8 hg
        obtain ⟨w10, e10, h10, hb10, e10'⟩ := put_set2 HSB9.out g
        have HZ10 := Lib.hid (HZ9.out.past hb10 HZ3.out.sb.lt)
        have HSB10 : Hid (SB w3.heap.size g w10) := Lib.hid h10
        clear hb10 h10
        have hld := HZ10.out.sb
        have hsb := HSB10.out
        go_wp2_with (first | (refine wpl_load_set rfl _ rfl q rfl _ hld ?_) | (refine wpl_load_set rfl _ rfl w3.heap.size rfl _ hsb ?_))
        clear hld hsb
        refine (with_any _ _ _).mono ?_
        rintro e w15 ⟨rfl, hb⟩
        have HZ15 := Lib.hid (HZ10.out.on hb)
        clear hb
        obtain ⟨w16, e16, h16, hb16, e16'⟩ := put_set2 HZ15.out.sb (fun c => f c || g c)
        have HZ16 := Lib.hid (HZ15.out.far hb16 h16)
        clear hb16
        go_wp2_with fail
        exact ⟨⟨false, _, _, _, rfl, Lib.hid (by exact .inr ⟨by decide, by have h9 := HRN.out; rw [HM3.out] at h9; rw [h9]; refine (if_pos ⟨rfl, H45.out⟩).trans ?_; rw [HM6.out]; exact if_pos hlt⟩), HZ16⟩, by rw [HZ16.out.ps.left, HZ.out.ps.left, if_pos rfl, if_neg (by decide)]; omega⟩
       ·have z1 : decide ((hi8.toNat : Int) < (lo8.toNat : Int)) = false := decide_eq_false (by omega)
        have y1 : decide (hi8.toNat < lo8.toNat) = false := decide_eq_false hlt
        go_wp2_with fail
        obtain ⟨m8, hm8, hmr⟩ := max8 lo8 hi8
        rw [hm8]
        refine (span_any lo8 m8 _).mono ?_
        rintro e w9 ⟨rfl, hb⟩
        have HZ9 := Lib.hid (HZ7.out.on hb)
        have HSB9 := Lib.hid (HSB7.out.on hb HSB7.out.lt)
        obtain ⟨g, hg⟩ : ∃ g, spanF lo8.toNat (m8.toNat + 1) = g := ⟨_, rfl⟩
        rw [hg]
        have HG := Lib.hid hg
        clear hb hm8 hg
        obtain ⟨w10, e10, h10, hb10, e10'⟩ := put_set2 HSB9.out g
        have HZ10 := Lib.hid (HZ9.out.past hb10 HZ3.out.sb.lt)
        have HSB10 : Hid (SB w3.heap.size g w10) := Lib.hid h10
        clear hb10 h10
        have hld := HZ10.out.sb
        have hsb := HSB10.out
        go_wp2_with (first | (refine wpl_load_set rfl _ rfl q rfl _ hld ?_) | (refine wpl_load_set rfl _ rfl w3.heap.size rfl _ hsb ?_))
        clear hld hsb
        refine (with_any _ _ _).mono ?_
        rintro e w15 ⟨rfl, hb⟩
        have HZ15 := Lib.hid (HZ10.out.on hb)
        clear hb
        obtain ⟨w16, e16, h16, hb16, e16'⟩ := put_set2 HZ15.out.sb (fun c => f c || g c)
        have HZ16 := Lib.hid (HZ15.out.far hb16 h16)
        clear hb16
        go_wp2_with fail
        exact ⟨⟨false, _, _, _, rfl, Lib.hid (by exact .inl ⟨rfl, n, by have := itemM_lt HM3.out; have := itemM_lt HM6.out; have := HNN.out; omega, by have h9 := HRN.out; rw [HM3.out] at h9; rw [h9]; refine Eq.symm ((if_pos ⟨rfl, H45.out⟩).trans ?_); rw [HM6.out]; refine (if_neg hlt).trans ?_; rw [← HG.out, hmr hlt]⟩), HZ16⟩, by rw [HZ16.out.ps.left, HZ.out.ps.left, if_pos rfl, if_pos rfl]; have := itemM_lt HM3.out; have := itemM_lt HM6.out; omega⟩
      ·have HE6 := Lib.hid he6
       have z1 : ((e6 : Int) == 0) = false := by rw [beq_eq_false_iff_ne]; omega
       have c2 := HZ7.out.ps.c2
       go_wp2_with fail
       obtain ⟨m8, hm8, hmr⟩ := max8 lo8 hi8
       rw [hm8]
       refine (span_any lo8 m8 _).mono ?_
       rintro e w9 ⟨rfl, hb⟩
       have HZ9 := Lib.hid (HZ7.out.on hb)
       have HSB9 := Lib.hid (HSB7.out.on hb HSB7.out.lt)
       obtain ⟨g, hg⟩ : ∃ g, spanF lo8.toNat (m8.toNat + 1) = g := ⟨_, rfl⟩
       rw [hg]
       have HG := Lib.hid hg
       clear hb hm8 hg
       obtain ⟨w10, e10, h10, hb10, e10'⟩ := put_set2 HSB9.out g
       have HZ10 := Lib.hid (HZ9.out.past hb10 HZ3.out.sb.lt)
       have HSB10 : Hid (SB w3.heap.size g w10) := Lib.hid h10
       clear hb10 h10
       have hld := HZ10.out.sb
       have hsb := HSB10.out
       go_wp2_with (first | (refine wpl_load_set rfl _ rfl q rfl _ hld ?_) | (refine wpl_load_set rfl _ rfl w3.heap.size rfl _ hsb ?_))
       clear hld hsb
       refine (with_any _ _ _).mono ?_
       rintro e w15 ⟨rfl, hb⟩
       have HZ15 := Lib.hid (HZ10.out.on hb)
       clear hb
       obtain ⟨w16, e16, h16, hb16, e16'⟩ := put_set2 HZ15.out.sb (fun c => f c || g c)
       have HZ16 := Lib.hid (HZ15.out.far hb16 h16)
       clear hb16
       go_wp2_with fail
       exact ⟨⟨false, _, _, _, rfl, Lib.hid (by rcases HR6.out with ⟨_, h⟩ | ⟨hm, _⟩; (exact absurd h HE6.out); (exact .inr ⟨HE6.out, by have h9 := HRN.out; rw [HM3.out] at h9; rw [h9]; refine (if_pos ⟨rfl, H45.out⟩).trans ?_; rw [hm]⟩)), HZ16⟩, by rw [HZ16.out.ps.left, HZ.out.ps.left, if_pos rfl, if_neg HE6.out]; omega⟩
     ·have H45 := Lib.hid h45
      clear h45
      go_wp2_with fail
      refine (HTN.out _ _ H45.out _ HZ4.out.ps).mono ?_
      rintro e w5 ⟨rfl, hq⟩
      have HZ5 := Lib.hid (HZ4.out.go hq)
      have HSB5 := Lib.hid (HSB.out.go hq.ap hbq)
      clear hq
      have hld := HZ5.out.sb
      have hsb := HSB5.out
      go_wp2_with (first | (refine wpl_load_set rfl _ rfl q rfl _ hld ?_) | (refine wpl_load_set rfl _ rfl w3.heap.size rfl _ hsb ?_))
      clear hld hsb
      refine (with_any _ _ _).mono ?_
      rintro e w15 ⟨rfl, hb⟩
      have HZ15 := Lib.hid (HZ5.out.on hb)
      clear hb
      obtain ⟨w16, e16, h16, hb16, e16'⟩ := put_set2 HZ15.out.sb (fun c => f c || s c)
      have HZ16 := Lib.hid (HZ15.out.far hb16 h16)
      clear hb16
      go_wp2_with fail
      exact ⟨⟨false, _, _, _, rfl, Lib.hid (by rcases HR3.out with ⟨hm, rfl⟩ | ⟨hm, he⟩; (exact .inl ⟨rfl, n, by have := itemM_lt hm; have := HNN.out; omega, by have h9 := HRN.out; rw [hm] at h9; rw [h9]; exact (if_neg (fun h => H45.out h.2)).symm⟩); (exact .inr ⟨he, by rw [HRN.out, hm]⟩)), HZ16⟩, by rw [HZ16.out.ps.left, HZ.out.ps.left, if_pos rfl]; rcases HR3.out with ⟨hm, rfl⟩ | ⟨hm, he⟩; (have := itemM_lt hm; rw [if_pos rfl]; omega); (rw [if_neg he]; omega)⟩
    | false =>
     have hld := HZ4.out.sb
     have hsb := HSB.out
     go_wp2_with (first | (refine wpl_load_set rfl _ rfl q rfl _ hld ?_) | (refine wpl_load_set rfl _ rfl w3.heap.size rfl _ hsb ?_))
     clear hld hsb
     refine (with_any _ _ _).mono ?_
     rintro e w15 ⟨rfl, hb⟩
     have HZ15 := Lib.hid (HZ4.out.on hb)
     clear hb
     obtain ⟨w16, e16, h16, hb16, e16'⟩ := put_set2 HZ15.out.sb (fun c => f c || s c)
     have HZ16 := Lib.hid (HZ15.out.far hb16 h16)
     clear hb16
     go_wp2_with fail
     exact ⟨⟨false, _, _, _, rfl, Lib.hid (by rcases HR3.out with ⟨hm, rfl⟩ | ⟨hm, he⟩; (exact .inl ⟨rfl, n, by have := itemM_lt hm; have := HNN.out; omega, by have h9 := HRN.out; rw [hm] at h9; rw [h9]; exact (if_neg (fun h => by cases h.1)).symm⟩); (exact .inr ⟨he, by rw [HRN.out, hm]⟩)), HZ16⟩, by rw [HZ16.out.ps.left, HZ.out.ps.left, if_pos rfl]; rcases HR3.out with ⟨hm, rfl⟩ | ⟨hm, he⟩; (have := itemM_lt hm; rw [if_pos rfl]; omega); (rw [if_neg he]; omega)⟩
   | false =>
    by_cases h93 : Asc.at_ l k = 93
    ·have H93 := Lib.hid h93
     have HRD := Lib.hid (HI.out.done hkl ⟨rfl, h93⟩)
     clear h93
     go_wp2_with fail
     clear c2
     refine (HSY.out _ H93.out _ HZ.out.ps).mono ?_
     rintro e w2 ⟨rfl, hq⟩
     have HZ2 := Lib.hid (HZ.out.go hq)
     clear hq
     go_wp2_with fail
     refine (HXY.out _ H93.out _ HZ2.out.ps).mono ?_
     rintro e w3 ⟨rfl, hq⟩
     have HZ3 := Lib.hid (HZ2.out.go hq)
     clear hq
     cases nt with
     | false =>
      have hld := HZ3.out.sb
      go_wp2_with (refine wpl_load_set rfl _ rfl q rfl _ hld ?_)
      clear hld
      refine (class_any _ _).mono ?_
      rintro e w20 ⟨v, rfl, hT, hb⟩
      have HSz := Lib.hid (HZ3.out.pr.on hb)
      have HTz := Lib.hid (hT.up HZ3.out.pr.sz)
      obtain ⟨op, rs, nm, kids, mn, mx, ra, rc, a, cc, ht, rfl, _⟩ := hT.open
      clear hT hb ht
      obtain ⟨k0, k1, k2, k3, k4, k5, f0, f1, f2, f3, f4, f5⟩ := bk6 HSz.out.bk
      go_wp2_with fail
      rw [nest6 w20]
      exact node_retz (P := 2) rfl HSz.out _ _ rfl (by rfl) HTz.out (by rw [HM.out, HRD.out]; exact fits_ok)
     | true =>
      have hld := HZ3.out.sb
      go_wp2_with (refine wpl_load_set rfl _ rfl q rfl _ hld ?_)
      clear hld
      refine (not_any f _).mono ?_
      rintro e w18 ⟨rfl, hb⟩
      have HZ18 := Lib.hid (HZ3.out.on hb)
      clear hb
      obtain ⟨w19, e19, h19, hb19, e19'⟩ := put_set2 HZ18.out.sb (fun c => !f c)
      have HZ19 := Lib.hid (HZ18.out.far hb19 h19)
      clear hb19
      go_wp2_with (refine wpl_load_set rfl _ rfl q rfl _ h19 ?_)
      refine (class_any _ _).mono ?_
      rintro e w20 ⟨v, rfl, hT, hb⟩
      have HSz := Lib.hid (HZ19.out.pr.on hb)
      have HTz := Lib.hid (hT.up HZ19.out.pr.sz)
      obtain ⟨op, rs, nm, kids, mn, mx, ra, rc, a, cc, ht, rfl, _⟩ := hT.open
      clear hT hb ht
      obtain ⟨k0, k1, k2, k3, k4, k5, f0, f1, f2, f3, f4, f5⟩ := bk6 HSz.out.bk
      go_wp2_with fail
      rw [nest6 w20]
      exact node_retz (P := 2) rfl HSz.out _ _ rfl (by rfl) HTz.out (by rw [HM.out, HRD.out]; exact fits_ok)
    ·have H93 := Lib.hid h93
     obtain ⟨n, hn, hrn⟩ := HI.out.next hkl (by simpa using h93)
     have HRN := Lib.hid hrn
     have HNN := Lib.hid hn
     clear hrn hn h93
     go_wp2_with fail
     clear c2
     refine (HSN.out _ 0 H93.out _ HZ.out.ps).mono ?_
     rintro e w2 ⟨rfl, hq⟩
     have HZ2 := Lib.hid (HZ.out.go hq)
     clear hq
     go_wp2_with fail
     refine (HIT.out _ false _ HZ2.out.ps).mono ?_
     rintro e w3 ⟨s, lo, one, j, e3, rfl, hq, hlo, hr3⟩
     have HZ3 := Lib.hid (HZ2.out.go hq)
     have HR3 := Lib.hid (fits_cases hr3)
     clear hq hr3
     have hbq : w3.heap.size ≠ b := by have := HZ3.out.pr.hb; have := HZ3.out.pr.sz; omega
     have hpn := put_new w3 (fun _ => false) s 213
     rw [setA_false] at hpn
     obtain ⟨lo8, rfl⟩ : ∃ c : UInt8, lo = c.toNat := ⟨UInt8.ofNat lo, (ofNat8 hlo).symm⟩
     have HZ4 := Lib.hid (HZ3.out.on (al_below w3 (.cells (setA s) 213)))
     have HSB := Lib.hid (SB.new w3 s)
     cases one with
     | true =>
      by_cases h45 : nxN l j e3 = 45
      ·obtain rfl : e3 = 0 := Decidable.byContradiction fun hne => by rw [nxN_err hne] at h45; cases h45
       have H45 := Lib.hid h45
       have hm3 : itemM l false k = .ok ((s, lo8.toNat, true), j) := by rcases HR3.out with ⟨h, _⟩ | ⟨_, h⟩; (exact h); (exact absurd rfl h)
       have HM3 := Lib.hid hm3
       clear h45 hm3
       go_wp2_with fail
       refine (HTY.out _ H45.out _ HZ4.out.ps).mono ?_
       rintro e w5 ⟨rfl, hq⟩
       have HZ5 := Lib.hid (HZ4.out.go hq)
       have HSB5 := Lib.hid (HSB.out.go hq.ap hbq)
       clear hq
       go_wp2_with fail
       refine (HIT.out _ true _ HZ5.out.ps).mono ?_
       rintro e w6 ⟨s2, hi, one2, k2, e6, rfl, hq, hhi, hr6⟩
       have HZ6 := Lib.hid (HZ5.out.go hq)
       have HSB6 := Lib.hid (HSB5.out.go hq.ap hbq)
       have HR6 := Lib.hid (fits_cases hr6)
       clear hq hr6
       have hpn2 := put_new w6 (fun _ => false) s2 213
       rw [setA_false] at hpn2
       obtain ⟨hi8, rfl⟩ : ∃ c : UInt8, hi = c.toNat := ⟨UInt8.ofNat hi, (ofNat8 hhi).symm⟩
       have HZ7 := Lib.hid (HZ6.out.on (al_below w6 (.cells (setA s2) 213)))
       have HSB7 := Lib.hid (HSB6.out.on (al_below w6 (.cells (setA s2) 213)) HSB6.out.lt)
       by_cases he6 : e6 = 0
       ·subst he6
        have c2 : (w6.alloc (.cells (setA s2) 213)).cell? ⟨b, 2, none⟩ = some (.int .i64 0) := HZ7.out.ps.c2
        have hm6 : itemM l true (j + 1) = .ok ((s2, hi8.toNat, one2), k2) := by rcases HR6.out with ⟨h, _⟩ | ⟨_, h⟩; (exact h); (exact absurd rfl h)
        have HM6 := Lib.hid hm6
        clear hm6
        by_cases hlt : hi8.toNat < lo8.toNat
        ·have z1 : decide ((hi8.toNat : Int) < (lo8.toNat : Int)) = true := decide_eq_true (by omega)
         have y1 : decide (hi8.toNat < lo8.toNat) = true := decide_eq_true hlt
         go_wp2_with fail
         clear c2
         refine (HF.out _ _ _ HZ7.out.ps).mono ?_
         rintro e w8 ⟨rfl, hq⟩
         have HZ8 := Lib.hid (HZ7.out.go hq)
         have HSB8 := Lib.hid (HSB7.out.go hq.ap hbq)
         clear hq
         rw [if_pos rfl] at HZ8
         go_wp2_with fail
         obtain ⟨m8, hm8, hmr⟩ := max8 lo8 hi8
         rw [hm8]
         refine (span_any lo8 m8 _).mono ?_
         rintro e w9 ⟨rfl, hb⟩
         have HZ9 := Lib.hid (HZ8.out.on hb)
         have HSB9 := Lib.hid (HSB8.out.on hb HSB8.out.lt)
         obtain ⟨g, hg⟩ : ∃ g, spanF lo8.toNat (m8.toNat + 1) = g := ⟨_, rfl⟩
         rw [hg]
         have HG := Lib.hid hg
         clear hb hm8 hg
         obtain ⟨w10, e10, h10, hb10, e10'⟩ := put_set2 HSB9.out g
         have HZ10 := Lib.hid (HZ9.out.past hb10 HZ3.out.sb.lt)
         have HSB10 : Hid (SB w3.heap.size g w10) := Lib.hid h10
         clear hb10 h10
         have hld := HZ10.out.sb
         have hsb := HSB10.out
         go_wp2_with (first | (refine wpl_load_set rfl _ rfl q rfl _ hld ?_) | (refine wpl_load_set rfl _ rfl w3.heap.size rfl _ hsb ?_))
         clear hld hsb
         refine (with_any _ _ _).mono ?_
         rintro e w15 ⟨rfl, hb⟩
         have HZ15 := Lib.hid (HZ10.out.on hb)
         clear hb
         obtain ⟨w16, e16, h16, hb16, e16'⟩ := put_set2 HZ15.out.sb (fun c => f c || g c)
         have HZ16 := Lib.hid (HZ15.out.far hb16 h16)
         clear hb16
         go_wp2_with fail
         exact ⟨⟨false, _, _, _, rfl, Lib.hid (by exact .inr ⟨by decide, by have h9 := HRN.out; rw [HM3.out] at h9; rw [h9]; refine (if_pos ⟨rfl, H45.out⟩).trans ?_; rw [HM6.out]; exact if_pos hlt⟩), HZ16⟩, by rw [HZ16.out.ps.left, HZ.out.ps.left, if_pos rfl, if_neg (by decide)]; omega⟩
        ·have z1 : decide ((hi8.toNat : Int) < (lo8.toNat : Int)) = false := decide_eq_false (by omega)
         have y1 : decide (hi8.toNat < lo8.toNat) = false := decide_eq_false hlt
         go_wp2_with fail
         obtain ⟨m8, hm8, hmr⟩ := max8 lo8 hi8
         rw [hm8]
         refine (span_any lo8 m8 _).mono ?_
         rintro e w9 ⟨rfl, hb⟩
         have HZ9 := Lib.hid (HZ7.out.on hb)
         have HSB9 := Lib.hid (HSB7.out.on hb HSB7.out.lt)
         obtain ⟨g, hg⟩ : ∃ g, spanF lo8.toNat (m8.toNat + 1) = g := ⟨_, rfl⟩
         rw [hg]
         have HG := Lib.hid hg
         clear hb hm8 hg
         obtain ⟨w10, e10, h10, hb10, e10'⟩ := put_set2 HSB9.out g
         have HZ10 := Lib.hid (HZ9.out.past hb10 HZ3.out.sb.lt)
         have HSB10 : Hid (SB w3.heap.size g w10) := Lib.hid h10
         clear hb10 h10
         have hld := HZ10.out.sb
         have hsb := HSB10.out
         go_wp2_with (first | (refine wpl_load_set rfl _ rfl q rfl _ hld ?_) | (refine wpl_load_set rfl _ rfl w3.heap.size rfl _ hsb ?_))
         clear hld hsb
         refine (with_any _ _ _).mono ?_
         rintro e w15 ⟨rfl, hb⟩
         have HZ15 := Lib.hid (HZ10.out.on hb)
         clear hb
         obtain ⟨w16, e16, h16, hb16, e16'⟩ := put_set2 HZ15.out.sb (fun c => f c || g c)
         have HZ16 := Lib.hid (HZ15.out.far hb16 h16)
         clear hb16
         go_wp2_with fail
         exact ⟨⟨false, _, _, _, rfl, Lib.hid (by exact .inl ⟨rfl, n, by have := itemM_lt HM3.out; have := itemM_lt HM6.out; have := HNN.out; omega, by have h9 := HRN.out; rw [HM3.out] at h9; rw [h9]; refine Eq.symm ((if_pos ⟨rfl, H45.out⟩).trans ?_); rw [HM6.out]; refine (if_neg hlt).trans ?_; rw [← HG.out, hmr hlt]⟩), HZ16⟩, by rw [HZ16.out.ps.left, HZ.out.ps.left, if_pos rfl, if_pos rfl]; have := itemM_lt HM3.out; have := itemM_lt HM6.out; omega⟩
       ·have HE6 := Lib.hid he6
        have z1 : ((e6 : Int) == 0) = false := by rw [beq_eq_false_iff_ne]; omega
        have c2 := HZ7.out.ps.c2
        go_wp2_with fail
        obtain ⟨m8, hm8, hmr⟩ := max8 lo8 hi8
        rw [hm8]
        refine (span_any lo8 m8 _).mono ?_
        rintro e w9 ⟨rfl, hb⟩
        have HZ9 := Lib.hid (HZ7.out.on hb)
        have HSB9 := Lib.hid (HSB7.out.on hb HSB7.out.lt)
        obtain ⟨g, hg⟩ : ∃ g, spanF lo8.toNat (m8.toNat + 1) = g := ⟨_, rfl⟩
        rw [hg]
        have HG := Lib.hid hg
        clear hb hm8 hg
        obtain ⟨w10, e10, h10, hb10, e10'⟩ := put_set2 HSB9.out g
        have HZ10 := Lib.hid (HZ9.out.past hb10 HZ3.out.sb.lt)
        have HSB10 : Hid (SB w3.heap.size g w10) := Lib.hid h10
        clear hb10 h10
        have hld := HZ10.out.sb
        have hsb := HSB10.out
        go_wp2_with (first | (refine wpl_load_set rfl _ rfl q rfl _ hld ?_) | (refine wpl_load_set rfl _ rfl w3.heap.size rfl _ hsb ?_))
        clear hld hsb
        refine (with_any _ _ _).mono ?_
        rintro e w15 ⟨rfl, hb⟩
        have HZ15 := Lib.hid (HZ10.out.on hb)
        clear hb
        obtain ⟨w16, e16, h16, hb16, e16'⟩ := put_set2 HZ15.out.sb (fun c => f c || g c)
        have HZ16 := Lib.hid (HZ15.out.far hb16 h16)
        clear hb16
        go_wp2_with fail
        exact ⟨⟨false, _, _, _, rfl, Lib.hid (by rcases HR6.out with ⟨_, h⟩ | ⟨hm, _⟩; (exact absurd h HE6.out); (exact .inr ⟨HE6.out, by have h9 := HRN.out; rw [HM3.out] at h9; rw [h9]; refine (if_pos ⟨rfl, H45.out⟩).trans ?_; rw [hm]⟩)), HZ16⟩, by rw [HZ16.out.ps.left, HZ.out.ps.left, if_pos rfl, if_neg HE6.out]; omega⟩
      ·have H45 := Lib.hid h45
       clear h45
       go_wp2_with fail
       refine (HTN.out _ _ H45.out _ HZ4.out.ps).mono ?_
       rintro e w5 ⟨rfl, hq⟩
       have HZ5 := Lib.hid (HZ4.out.go hq)
       have HSB5 := Lib.hid (HSB.out.go hq.ap hbq)
       clear hq
       have hld := HZ5.out.sb
       have hsb := HSB5.out
       go_wp2_with (first | (refine wpl_load_set rfl _ rfl q rfl _ hld ?_) | (refine wpl_load_set rfl _ rfl w3.heap.size rfl _ hsb ?_))
       clear hld hsb
       refine (with_any _ _ _).mono ?_
       rintro e w15 ⟨rfl, hb⟩
       have HZ15 := Lib.hid (HZ5.out.on hb)
       clear hb
       obtain ⟨w16, e16, h16, hb16, e16'⟩ := put_set2 HZ15.out.sb (fun c => f c || s c)
       have HZ16 := Lib.hid (HZ15.out.far hb16 h16)
       clear hb16
       go_wp2_with fail
       exact ⟨⟨false, _, _, _, rfl, Lib.hid (by rcases HR3.out with ⟨hm, rfl⟩ | ⟨hm, he⟩; (exact .inl ⟨rfl, n, by have := itemM_lt hm; have := HNN.out; omega, by have h9 := HRN.out; rw [hm] at h9; rw [h9]; exact (if_neg (fun h => H45.out h.2)).symm⟩); (exact .inr ⟨he, by rw [HRN.out, hm]⟩)), HZ16⟩, by rw [HZ16.out.ps.left, HZ.out.ps.left, if_pos rfl]; rcases HR3.out with ⟨hm, rfl⟩ | ⟨hm, he⟩; (have := itemM_lt hm; rw [if_pos rfl]; omega); (rw [if_neg he]; omega)⟩
     | false =>
      have hld := HZ4.out.sb
      have hsb := HSB.out
      go_wp2_with (first | (refine wpl_load_set rfl _ rfl q rfl _ hld ?_) | (refine wpl_load_set rfl _ rfl w3.heap.size rfl _ hsb ?_))
      clear hld hsb
      refine (with_any _ _ _).mono ?_
      rintro e w15 ⟨rfl, hb⟩
      have HZ15 := Lib.hid (HZ4.out.on hb)
      clear hb
      obtain ⟨w16, e16, h16, hb16, e16'⟩ := put_set2 HZ15.out.sb (fun c => f c || s c)
      have HZ16 := Lib.hid (HZ15.out.far hb16 h16)
      clear hb16
      go_wp2_with fail
      exact ⟨⟨false, _, _, _, rfl, Lib.hid (by rcases HR3.out with ⟨hm, rfl⟩ | ⟨hm, he⟩; (exact .inl ⟨rfl, n, by have := itemM_lt hm; have := HNN.out; omega, by have h9 := HRN.out; rw [hm] at h9; rw [h9]; exact (if_neg (fun h => by cases h.1)).symm⟩); (exact .inr ⟨he, by rw [HRN.out, hm]⟩)), HZ16⟩, by rw [HZ16.out.ps.left, HZ.out.ps.left, if_pos rfl]; rcases HR3.out with ⟨hm, rfl⟩ | ⟨hm, he⟩; (have := itemM_lt hm; rw [if_pos rfl]; omega); (rw [if_neg he]; omega)⟩
  ·have HE := Lib.hid he
   have HRE : Hid (R = .error (k, e)) := Lib.hid (by rcases HI.out with ⟨h, _⟩ | ⟨_, h⟩; (exact absurd h he); (exact h))
   have c2 := HZ.out.ps.c2
   have z1 : ((e : Int) == 0) = false := by rw [beq_eq_false_iff_ne]; omega
   clear he
   go_wp2_with fail
   clear c2 z1
   refine (HXN.out _ _ (by rw [nxN_err HE.out]; decide) _ HZ.out.ps).mono ?_
   rintro e w3 ⟨rfl, hq⟩
   have HZ3 := Lib.hid (HZ.out.go hq)
   clear hq
   rw [if_neg HE.out] at HZ3
   cases nt with
   | false =>
    have hld := HZ3.out.sb
    go_wp2_with (refine wpl_load_set rfl _ rfl q rfl _ hld ?_)
    clear hld
    refine (class_any _ _).mono ?_
    rintro e w20 ⟨v, rfl, hT, hb⟩
    have HSz := Lib.hid (HZ3.out.pr.on hb)
    have HTz := Lib.hid (hT.up HZ3.out.pr.sz)
    obtain ⟨op, rs, nm, kids, mn, mx, ra, rc, a, cc, ht, rfl, _⟩ := hT.open
    clear hT hb ht
    obtain ⟨k0, k1, k2, k3, k4, k5, f0, f1, f2, f3, f4, f5⟩ := bk6 HSz.out.bk
    go_wp2_with fail
    rw [nest6 w20]
    exact node_retz (P := 2) rfl HSz.out _ _ rfl (by rfl) HTz.out (by rw [HM.out, HRE.out]; exact fits_err HE.out)
   | true =>
    have hld := HZ3.out.sb
    go_wp2_with (refine wpl_load_set rfl _ rfl q rfl _ hld ?_)
    clear hld
    refine (not_any f _).mono ?_
    rintro e w18 ⟨rfl, hb⟩
    have HZ18 := Lib.hid (HZ3.out.on hb)
    clear hb
    obtain ⟨w19, e19, h19, hb19, e19'⟩ := put_set2 HZ18.out.sb (fun c => !f c)
    have HZ19 := Lib.hid (HZ18.out.far hb19 h19)
    clear hb19
    go_wp2_with (refine wpl_load_set rfl _ rfl q rfl _ h19 ?_)
    refine (class_any _ _).mono ?_
    rintro e w20 ⟨v, rfl, hT, hb⟩
    have HSz := Lib.hid (HZ19.out.pr.on hb)
    have HTz := Lib.hid (hT.up HZ19.out.pr.sz)
    obtain ⟨op, rs, nm, kids, mn, mx, ra, rc, a, cc, ht, rfl, _⟩ := hT.open
    clear hT hb ht
    obtain ⟨k0, k1, k2, k3, k4, k5, f0, f1, f2, f3, f4, f5⟩ := bk6 HSz.out.bk
    go_wp2_with fail
    rw [nest6 w20]
    exact node_retz (P := 2) rfl HSz.out _ _ rfl (by rfl) HTz.out (by rw [HM.out, HRE.out]; exact fits_err HE.out)
end Go.Proofs.YtmpbjaodgajnfaaGreatDoor
namespace Go.Proofs.YtmpbjaodgajnfaaGreatDoor
open Go.RowKit
set_option maxHeartbeats 4000000 in
set_option maxRecDepth 1000000 in
theorem atomz_group (b : Nat) (l : List UInt8) (i : Nat) (r : Out NT) (hc : Asc.at_ l i = 40) (hg : RdZ 147 b l (i + 1) r) : RdZ 129 b l i r := by
 intro w h
 have HT : Hid (∀ d : Nat, d < 256 → Asc.at_ l i ≠ d → ∀ W, ZS b l i 0 W → Calls Tryz.prog 74 #[.pointer (some ⟨b, 0, none⟩), .int .u8 (d : Int)] W fun r w' => r = .returned (.bool false) ∧ ZQ b l i 0 W w') := Lib.hid (fun d _ hd W hW => ztakes_no b l i 0 W hW d hd)
 have HS := Lib.hid (ZR.start h)
 have HC := Lib.hid hc
 have HY := Lib.hid fun W (hW : ZS b l i 0 W) => ztakes_yes b l i W hW 40 hc (by decide)
 have HN := Lib.hid fun W (hW : ZS b l i 0 W) => znext_ok b l i W hW 40 hc (by decide)
 clear hc
 have HG := Lib.hid hg
 clear hg
 clear h
 go_enter Tryz.func129, Tryz.ntmps129
 go_wp2_with fail
 refine (HN.out _ HS.out.ps).mono ?_
 rintro e w1 ⟨rfl, hq⟩
 have HS1 := Lib.hid (HS.out.go hq)
 clear hq HS
 go_wp2_with fail
 refine (HY.out _ HS1.out.ps).mono ?_
 rintro e wy ⟨rfl, hq⟩
 have HSy := Lib.hid (HS1.out.go hq)
 clear hq HS1
 go_wp2_with fail
 refine (HG.out _ HSy.out.ps).mono ?_
 rintro e wz ⟨v, t, j, e2, rfl, hT, hb, hr⟩
 have HSz := Lib.hid (HSy.out.go hb)
 have HTz := Lib.hid (hT.up HSy.out.sz)
 have HR := Lib.hid hr
 obtain ⟨op, rs, nm, kids, mn, mx, ra, rc, a, cc, ht, rfl, _⟩ := hT.open
 clear hT hb ht hr
 obtain ⟨k0, k1, k2, k3, k4, k5, f0, f1, f2, f3, f4, f5⟩ := bk6 HSz.out.bk
 go_wp2_with fail
 rw [nest6 wz]
 exact node_retz (P := 2) rfl HSz.out _ _ rfl (by rfl) HTz.out HR.out
set_option maxHeartbeats 4000000 in
set_option maxRecDepth 1000000 in
theorem atomz_bra (b : Nat) (l : List UInt8) (i : Nat) (r : Out NT) (hc : Asc.at_ l i = 91) (hg : RdZ 148 b l (i + 1) r) : RdZ 129 b l i r := by
 intro w h
 have HT : Hid (∀ d : Nat, d < 256 → Asc.at_ l i ≠ d → ∀ W, ZS b l i 0 W → Calls Tryz.prog 74 #[.pointer (some ⟨b, 0, none⟩), .int .u8 (d : Int)] W fun r w' => r = .returned (.bool false) ∧ ZQ b l i 0 W w') := Lib.hid (fun d _ hd W hW => ztakes_no b l i 0 W hW d hd)
 have HS := Lib.hid (ZR.start h)
 have HC := Lib.hid hc
 have HY := Lib.hid fun W (hW : ZS b l i 0 W) => ztakes_yes b l i W hW 91 hc (by decide)
 have HN := Lib.hid fun W (hW : ZS b l i 0 W) => znext_ok b l i W hW 91 hc (by decide)
 clear hc
 have HG := Lib.hid hg
 clear hg
 clear h
 go_enter Tryz.func129, Tryz.ntmps129
 go_wp2_with fail
 refine (HN.out _ HS.out.ps).mono ?_
 rintro e w1 ⟨rfl, hq⟩
 have HS1 := Lib.hid (HS.out.go hq)
 clear hq HS
 go_wp2_with fail
 refine (HT.out 40 (by decide) (by rw [HC.out]; decide) _ HS1.out.ps).mono ?_
 rintro e w2 ⟨rfl, hq⟩
 have HS2 := Lib.hid (HS1.out.go hq)
 clear hq HS1
 go_wp2_with fail
 refine (HY.out _ HS2.out.ps).mono ?_
 rintro e wy ⟨rfl, hq⟩
 have HSy := Lib.hid (HS2.out.go hq)
 clear hq HS2
 go_wp2_with fail
 refine (HG.out _ HSy.out.ps).mono ?_
 rintro e wz ⟨v, t, j, e2, rfl, hT, hb, hr⟩
 have HSz := Lib.hid (HSy.out.go hb)
 have HTz := Lib.hid (hT.up HSy.out.sz)
 have HR := Lib.hid hr
 obtain ⟨op, rs, nm, kids, mn, mx, ra, rc, a, cc, ht, rfl, _⟩ := hT.open
 clear hT hb ht hr
 obtain ⟨k0, k1, k2, k3, k4, k5, f0, f1, f2, f3, f4, f5⟩ := bk6 HSz.out.bk
 go_wp2_with fail
 rw [nest6 wz]
 exact node_retz (P := 2) rfl HSz.out _ _ rfl (by rfl) HTz.out HR.out
set_option maxHeartbeats 4000000 in
set_option maxRecDepth 1000000 in
theorem atomz_dot (b : Nat) (l : List UInt8) (i : Nat) (hc : Asc.at_ l i = 46) : RdZ 129 b l i (.ok (clsT (fun c => !spanF 10 11 c), i + 1)) := by
 intro w h
 have HT : Hid (∀ d : Nat, d < 256 → Asc.at_ l i ≠ d → ∀ W, ZS b l i 0 W → Calls Tryz.prog 74 #[.pointer (some ⟨b, 0, none⟩), .int .u8 (d : Int)] W fun r w' => r = .returned (.bool false) ∧ ZQ b l i 0 W w') := Lib.hid (fun d _ hd W hW => ztakes_no b l i 0 W hW d hd)
 have HS := Lib.hid (ZR.start h)
 have HC := Lib.hid hc
 have HY := Lib.hid fun W (hW : ZS b l i 0 W) => ztakes_yes b l i W hW 46 hc (by decide)
 have HN := Lib.hid fun W (hW : ZS b l i 0 W) => znext_ok b l i W hW 46 hc (by decide)
 clear hc
 have HSN := Lib.hid (fun W => (show Calls Tryz.prog 149 #[.int .u8 10, .int .u8 10] W (fun e w' => e = .returned (.agg (setA (spanF 10 11))) ∧ Below W.heap.size W w') from span_any 10 10 W))
 clear h
 go_enter Tryz.func129, Tryz.ntmps129
 go_wp2_with fail
 refine (HN.out _ HS.out.ps).mono ?_
 rintro e w1 ⟨rfl, hq⟩
 have HS1 := Lib.hid (HS.out.go hq)
 clear hq HS
 go_wp2_with fail
 refine (HT.out 40 (by decide) (by rw [HC.out]; decide) _ HS1.out.ps).mono ?_
 rintro e w2 ⟨rfl, hq⟩
 have HS2 := Lib.hid (HS1.out.go hq)
 clear hq HS1
 go_wp2_with fail
 refine (HT.out 91 (by decide) (by rw [HC.out]; decide) _ HS2.out.ps).mono ?_
 rintro e w3 ⟨rfl, hq⟩
 have HS3 := Lib.hid (HS2.out.go hq)
 clear hq HS2
 go_wp2_with fail
 refine (HY.out _ HS3.out.ps).mono ?_
 rintro e wy ⟨rfl, hq⟩
 have HSy := Lib.hid (HS3.out.go hq)
 clear hq HS3
 go_wp2_with fail
 refine (HSN.out _).mono ?_
 rintro e wa ⟨rfl, hb⟩
 have HSa := Lib.hid (HSy.out.on hb)
 clear hb HSy
 go_wp2_with fail
 refine (not_any _ _).mono ?_
 rintro e wb ⟨rfl, hb⟩
 have HSx := Lib.hid (HSa.out.on hb)
 clear hb HSa
 go_wp2_with fail
 refine (class_any _ _).mono ?_
 rintro e wz ⟨v, rfl, hT, hb⟩
 have HSz := Lib.hid (HSx.out.on hb)
 have HTz := Lib.hid (hT.up HSx.out.sz)
 obtain ⟨op, rs, nm, kids, mn, mx, ra, rc, a, cc, ht, rfl, _⟩ := hT.open
 clear hT hb ht
 obtain ⟨k0, k1, k2, k3, k4, k5, f0, f1, f2, f3, f4, f5⟩ := bk6 HSz.out.bk
 go_wp2_with fail
 rw [nest6 wz]
 exact node_retz (P := 2) rfl HSz.out _ _ rfl (by rfl) HTz.out fits_ok
set_option maxHeartbeats 4000000 in
set_option maxRecDepth 1000000 in
theorem atomz_beg (b : Nat) (l : List UInt8) (i : Nat) (hc : Asc.at_ l i = 94) : RdZ 129 b l i (.ok (.node 6 [] [] [] 0 0, i + 1)) := by
 intro w h
 have HT : Hid (∀ d : Nat, d < 256 → Asc.at_ l i ≠ d → ∀ W, ZS b l i 0 W → Calls Tryz.prog 74 #[.pointer (some ⟨b, 0, none⟩), .int .u8 (d : Int)] W fun r w' => r = .returned (.bool false) ∧ ZQ b l i 0 W w') := Lib.hid (fun d _ hd W hW => ztakes_no b l i 0 W hW d hd)
 have HS := Lib.hid (ZR.start h)
 have HC := Lib.hid hc
 have HY := Lib.hid fun W (hW : ZS b l i 0 W) => ztakes_yes b l i W hW 94 hc (by decide)
 have HN := Lib.hid fun W (hW : ZS b l i 0 W) => znext_ok b l i W hW 94 hc (by decide)
 clear hc
 clear h
 go_enter Tryz.func129, Tryz.ntmps129
 go_wp2_with fail
 refine (HN.out _ HS.out.ps).mono ?_
 rintro e w1 ⟨rfl, hq⟩
 have HS1 := Lib.hid (HS.out.go hq)
 clear hq HS
 go_wp2_with fail
 refine (HT.out 40 (by decide) (by rw [HC.out]; decide) _ HS1.out.ps).mono ?_
 rintro e w2 ⟨rfl, hq⟩
 have HS2 := Lib.hid (HS1.out.go hq)
 clear hq HS1
 go_wp2_with fail
 refine (HT.out 91 (by decide) (by rw [HC.out]; decide) _ HS2.out.ps).mono ?_
 rintro e w3 ⟨rfl, hq⟩
 have HS3 := Lib.hid (HS2.out.go hq)
 clear hq HS2
 go_wp2_with fail
 refine (HT.out 46 (by decide) (by rw [HC.out]; decide) _ HS3.out.ps).mono ?_
 rintro e w4 ⟨rfl, hq⟩
 have HS4 := Lib.hid (HS3.out.go hq)
 clear hq HS3
 go_wp2_with fail
 refine (HY.out _ HS4.out.ps).mono ?_
 rintro e wy ⟨rfl, hq⟩
 have HSy := Lib.hid (HS4.out.go hq)
 clear hq HS4
 obtain ⟨k0, k1, k2, k3, k4, k5, f0, f1, f2, f3, f4, f5⟩ := bk6 HSy.out.bk
 go_wp2_with fail
 rw [nest6]
 exact node_retz (P := 2) rfl HSy.out _ _ rfl (by rfl) (NG.node (rs := []) (kids := []) RW.nil RW.nil 6 [] 0 0 (by simp)) fits_ok
set_option maxHeartbeats 4000000 in
set_option maxRecDepth 1000000 in
theorem atomz_end (b : Nat) (l : List UInt8) (i : Nat) (hc : Asc.at_ l i = 36) : RdZ 129 b l i (.ok (.node 7 [] [] [] 0 0, i + 1)) := by
 intro w h
 have HT : Hid (∀ d : Nat, d < 256 → Asc.at_ l i ≠ d → ∀ W, ZS b l i 0 W → Calls Tryz.prog 74 #[.pointer (some ⟨b, 0, none⟩), .int .u8 (d : Int)] W fun r w' => r = .returned (.bool false) ∧ ZQ b l i 0 W w') := Lib.hid (fun d _ hd W hW => ztakes_no b l i 0 W hW d hd)
 have HS := Lib.hid (ZR.start h)
 have HC := Lib.hid hc
 have HY := Lib.hid fun W (hW : ZS b l i 0 W) => ztakes_yes b l i W hW 36 hc (by decide)
 have HN := Lib.hid fun W (hW : ZS b l i 0 W) => znext_ok b l i W hW 36 hc (by decide)
 clear hc
 clear h
 go_enter Tryz.func129, Tryz.ntmps129
 go_wp2_with fail
 refine (HN.out _ HS.out.ps).mono ?_
 rintro e w1 ⟨rfl, hq⟩
 have HS1 := Lib.hid (HS.out.go hq)
 clear hq HS
 go_wp2_with fail
 refine (HT.out 40 (by decide) (by rw [HC.out]; decide) _ HS1.out.ps).mono ?_
 rintro e w2 ⟨rfl, hq⟩
 have HS2 := Lib.hid (HS1.out.go hq)
 clear hq HS1
 go_wp2_with fail
 refine (HT.out 91 (by decide) (by rw [HC.out]; decide) _ HS2.out.ps).mono ?_
 rintro e w3 ⟨rfl, hq⟩
 have HS3 := Lib.hid (HS2.out.go hq)
 clear hq HS2
 go_wp2_with fail
 refine (HT.out 46 (by decide) (by rw [HC.out]; decide) _ HS3.out.ps).mono ?_
 rintro e w4 ⟨rfl, hq⟩
 have HS4 := Lib.hid (HS3.out.go hq)
 clear hq HS3
 go_wp2_with fail
 refine (HT.out 94 (by decide) (by rw [HC.out]; decide) _ HS4.out.ps).mono ?_
 rintro e w5 ⟨rfl, hq⟩
 have HS5 := Lib.hid (HS4.out.go hq)
 clear hq HS4
 go_wp2_with fail
 refine (HY.out _ HS5.out.ps).mono ?_
 rintro e wy ⟨rfl, hq⟩
 have HSy := Lib.hid (HS5.out.go hq)
 clear hq HS5
 obtain ⟨k0, k1, k2, k3, k4, k5, f0, f1, f2, f3, f4, f5⟩ := bk6 HSy.out.bk
 go_wp2_with fail
 rw [nest6]
 exact node_retz (P := 2) rfl HSy.out _ _ rfl (by rfl) (NG.node (rs := []) (kids := []) RW.nil RW.nil 7 [] 0 0 (by simp)) fits_ok
set_option maxHeartbeats 4000000 in
set_option maxRecDepth 1000000 in
theorem atomz_esc (b : Nat) (l : List UInt8) (i : Nat) (r : Out NT) (hres : ∀ s c one j e, fits (escM l (i + 1)) (s, c, one) j e → fits r (clsT s) j e) (hc : Asc.at_ l i = 92) : RdZ 129 b l i r := by
 intro w h
 have HT : Hid (∀ d : Nat, d < 256 → Asc.at_ l i ≠ d → ∀ W, ZS b l i 0 W → Calls Tryz.prog 74 #[.pointer (some ⟨b, 0, none⟩), .int .u8 (d : Int)] W fun r w' => r = .returned (.bool false) ∧ ZQ b l i 0 W w') := Lib.hid (fun d _ hd W hW => ztakes_no b l i 0 W hW d hd)
 have HS := Lib.hid (ZR.start h)
 have HC := Lib.hid hc
 have HY := Lib.hid fun W (hW : ZS b l i 0 W) => ztakes_yes b l i W hW 92 hc (by decide)
 have HN := Lib.hid fun W (hW : ZS b l i 0 W) => znext_ok b l i W hW 92 hc (by decide)
 clear hc
 have HRES := Lib.hid hres
 clear hres
 have HE := Lib.hid fun W (hW : ZS b l (i + 1) 0 W) => esc_any b l (i + 1) W hW
 have hv := (zero_of_info infoS).1
 clear h
 go_enter Tryz.func129, Tryz.ntmps129
 go_wp2_with fail
 refine (HN.out _ HS.out.ps).mono ?_
 rintro e w1 ⟨rfl, hq⟩
 have HS1 := Lib.hid (HS.out.go hq)
 clear hq HS
 go_wp2_with fail
 refine (HT.out 40 (by decide) (by rw [HC.out]; decide) _ HS1.out.ps).mono ?_
 rintro e w2 ⟨rfl, hq⟩
 have HS2 := Lib.hid (HS1.out.go hq)
 clear hq HS1
 go_wp2_with fail
 refine (HT.out 91 (by decide) (by rw [HC.out]; decide) _ HS2.out.ps).mono ?_
 rintro e w3 ⟨rfl, hq⟩
 have HS3 := Lib.hid (HS2.out.go hq)
 clear hq HS2
 go_wp2_with fail
 refine (HT.out 46 (by decide) (by rw [HC.out]; decide) _ HS3.out.ps).mono ?_
 rintro e w4 ⟨rfl, hq⟩
 have HS4 := Lib.hid (HS3.out.go hq)
 clear hq HS3
 go_wp2_with fail
 refine (HT.out 94 (by decide) (by rw [HC.out]; decide) _ HS4.out.ps).mono ?_
 rintro e w5 ⟨rfl, hq⟩
 have HS5 := Lib.hid (HS4.out.go hq)
 clear hq HS4
 go_wp2_with fail
 refine (HT.out 36 (by decide) (by rw [HC.out]; decide) _ HS5.out.ps).mono ?_
 rintro e w6 ⟨rfl, hq⟩
 have HS6 := Lib.hid (HS5.out.go hq)
 clear hq HS5
 go_wp2_with fail
 refine (HY.out _ HS6.out.ps).mono ?_
 rintro e wy ⟨rfl, hq⟩
 have HSy := Lib.hid (HS6.out.go hq)
 clear hq HS6
 go_wp2_with fail
 refine (HE.out _ HSy.out.ps).mono ?_
 rintro e we ⟨s, c, one, j, e2, rfl, hq, hc8, hr⟩
 have HSe := Lib.hid (HSy.out.go hq)
 have HR := Lib.hid (HRES.out _ _ _ _ _ hr)
 clear hq HSy hr hc8
 have hpn := put_new we (fun _ => false) s 213
 rw [setA_false] at hpn
 have HSx := Lib.hid (HSe.out.on (al_below we (.cells (setA s) 213)))
 have hsb := SB.new we s
 go_wp2_with (refine wpl_load_set rfl _ rfl we.heap.size rfl _ hsb ?_)
 clear hsb hpn
 refine (class_any _ _).mono ?_
 rintro e wz ⟨v, rfl, hT, hb⟩
 have HSz := Lib.hid (HSx.out.on hb)
 have HTz := Lib.hid (hT.up HSx.out.sz)
 obtain ⟨op, rs, nm, kids, mn, mx, ra, rc, a, cc, ht, rfl, _⟩ := hT.open
 clear hT hb ht
 obtain ⟨k0, k1, k2, k3, k4, k5, f0, f1, f2, f3, f4, f5⟩ := bk6 HSz.out.bk
 go_wp2_with fail
 rw [nest6 wz]
 exact node_retz (P := 2) rfl HSz.out _ _ rfl (by rfl) HTz.out HR.out
set_option maxHeartbeats 4000000 in
set_option maxRecDepth 1000000 in
theorem atomz_plain (b : Nat) (l : List UInt8) (i : Nat) (c : UInt8) (hc : Asc.at_ l i = c.toNat) (hnn : ∀ d : UInt8, d ∈ [40, 91, 46, 94, 36, 92] → d ≠ c) (hs : c ∉ spec) (h1 : 32 ≤ c.toNat) (h2 : c.toNat ≤ 126) : RdZ 129 b l i (.ok (clsT (spanF c.toNat (c.toNat + 1)), i + 1)) := by
 intro w h
 have HT : Hid (∀ d : Nat, d < 256 → Asc.at_ l i ≠ d → ∀ W, ZS b l i 0 W → Calls Tryz.prog 74 #[.pointer (some ⟨b, 0, none⟩), .int .u8 (d : Int)] W fun r w' => r = .returned (.bool false) ∧ ZQ b l i 0 W w') := Lib.hid (fun d _ hd W hW => ztakes_no b l i 0 W hW d hd)
 have HS := Lib.hid (ZR.start h)
 have hc8 : c.toNat < 256 := UInt8.toNat_lt c
 have HN := Lib.hid fun W (hW : ZS b l i 0 W) => znext_ok b l i W hW c.toNat hc hc8
 have HNE : Hid (∀ d : UInt8, d ∈ [40, 91, 46, 94, 36, 92] → Asc.at_ l i ≠ d.toNat) := Lib.hid (fun d hd e => hnn d hd (UInt8.toNat_inj.1 (e.symm.trans hc)))
 have hl : i < l.length := Asc.at_lt (by omega)
 have hl2 := h.len
 have hw : IntKind.i64.wrap ((i : Int) + 1) = (i : Int) + 1 := IntWalk.i64_in _ (by omega)
 have HL := Lib.hid hl
 have HPR := Lib.hid fun W => printable_yes c.toNat W h1 h2
 have HSP := Lib.hid fun W => special_no c W hs
 have HSN := Lib.hid fun W => span_any c c W
 obtain ⟨f, hf⟩ : ∃ f, spanF c.toNat (c.toNat + 1) = f := ⟨_, rfl⟩
 rw [hf] at HSN ⊢
 clear hc hnn hs h1 h2 hl hf hc8
 clear h
 go_enter Tryz.func129, Tryz.ntmps129
 go_wp2_with fail
 refine (HN.out _ HS.out.ps).mono ?_
 rintro e w1 ⟨rfl, hq⟩
 have HS1 := Lib.hid (HS.out.go hq)
 clear hq HS
 go_wp2_with fail
 refine (HT.out 40 (by decide) (by exact HNE.out 40 (by decide)) _ HS1.out.ps).mono ?_
 rintro e w2 ⟨rfl, hq⟩
 have HS2 := Lib.hid (HS1.out.go hq)
 clear hq HS1
 go_wp2_with fail
 refine (HT.out 91 (by decide) (by exact HNE.out 91 (by decide)) _ HS2.out.ps).mono ?_
 rintro e w3 ⟨rfl, hq⟩
 have HS3 := Lib.hid (HS2.out.go hq)
 clear hq HS2
 go_wp2_with fail
 refine (HT.out 46 (by decide) (by exact HNE.out 46 (by decide)) _ HS3.out.ps).mono ?_
 rintro e w4 ⟨rfl, hq⟩
 have HS4 := Lib.hid (HS3.out.go hq)
 clear hq HS3
 go_wp2_with fail
 refine (HT.out 94 (by decide) (by exact HNE.out 94 (by decide)) _ HS4.out.ps).mono ?_
 rintro e w5 ⟨rfl, hq⟩
 have HS5 := Lib.hid (HS4.out.go hq)
 clear hq HS4
 go_wp2_with fail
 refine (HT.out 36 (by decide) (by exact HNE.out 36 (by decide)) _ HS5.out.ps).mono ?_
 rintro e w6 ⟨rfl, hq⟩
 have HS6 := Lib.hid (HS5.out.go hq)
 clear hq HS5
 go_wp2_with fail
 refine (HT.out 92 (by decide) (by exact HNE.out 92 (by decide)) _ HS6.out.ps).mono ?_
 rintro e w7 ⟨rfl, hq⟩
 have HS7 := Lib.hid (HS6.out.go hq)
 clear hq HS6
 have c1 := HS7.out.ps.c1
 have f1 := HS7.out.ps.f1
 go_wp2_with fail
 refine (HPR.out _).mono ?_
 rintro e wp ⟨rfl, rfl⟩
 go_wp2_with fail
 refine (HSP.out _).mono ?_
 rintro e wp ⟨rfl, rfl⟩
 go_wp2_with fail
 have HS8 := Lib.hid (HS7.out.go (HS7.out.ps.to (i + 1) HL.out))
 refine (HSN.out _).mono ?_
 rintro e w9 ⟨rfl, hb⟩
 have HSx := Lib.hid (HS8.out.on hb)
 clear hb HS8
 clear HS7 c1 f1
 go_wp2_with fail
 refine (class_any _ _).mono ?_
 rintro e wz ⟨v, rfl, hT, hb⟩
 have HSz := Lib.hid (HSx.out.on hb)
 have HTz := Lib.hid (hT.up HSx.out.sz)
 obtain ⟨op, rs, nm, kids, mn, mx, ra, rc, a, cc, ht, rfl, _⟩ := hT.open
 clear hT hb ht
 obtain ⟨k0, k1, k2, k3, k4, k5, f0, f1, f2, f3, f4, f5⟩ := bk6 HSz.out.bk
 go_wp2_with fail
 rw [nest6 wz]
 exact node_retz (P := 2) rfl HSz.out _ _ rfl (by rfl) HTz.out fits_ok
set_option maxHeartbeats 4000000 in
set_option maxRecDepth 1000000 in
theorem atomz_none (b : Nat) (l : List UInt8) (i : Nat) (hc : Asc.at_ l i = 999) : RdZ 129 b l i (.error (i, 1)) := by
 intro w h
 have HT : Hid (∀ d : Nat, d < 256 → Asc.at_ l i ≠ d → ∀ W, ZS b l i 0 W → Calls Tryz.prog 74 #[.pointer (some ⟨b, 0, none⟩), .int .u8 (d : Int)] W fun r w' => r = .returned (.bool false) ∧ ZQ b l i 0 W w') := Lib.hid (fun d _ hd W hW => ztakes_no b l i 0 W hW d hd)
 have HS := Lib.hid (ZR.start h)
 have HC := Lib.hid hc
 have HN := Lib.hid fun W (hW : ZS b l i 0 W) => znext_no b l i 0 W hW hc
 have HPR := Lib.hid fun W => (show Calls Tryz.prog 153 #[.int .u8 0] W _ from printable_no 0 W (.inl (by decide)))
 clear hc
 have HF := Lib.hid fun W (hW : ZS b l i 0 W) => zfail b l i 0 1 W hW
 simp only [if_true] at HF
 clear h
 go_enter Tryz.func129, Tryz.ntmps129
 go_wp2_with fail
 refine (HN.out _ HS.out.ps).mono ?_
 rintro e w1 ⟨rfl, hq⟩
 have HS1 := Lib.hid (HS.out.go hq)
 clear hq HS
 go_wp2_with fail
 refine (HT.out 40 (by decide) (by rw [HC.out]; decide) _ HS1.out.ps).mono ?_
 rintro e w2 ⟨rfl, hq⟩
 have HS2 := Lib.hid (HS1.out.go hq)
 clear hq HS1
 go_wp2_with fail
 refine (HT.out 91 (by decide) (by rw [HC.out]; decide) _ HS2.out.ps).mono ?_
 rintro e w3 ⟨rfl, hq⟩
 have HS3 := Lib.hid (HS2.out.go hq)
 clear hq HS2
 go_wp2_with fail
 refine (HT.out 46 (by decide) (by rw [HC.out]; decide) _ HS3.out.ps).mono ?_
 rintro e w4 ⟨rfl, hq⟩
 have HS4 := Lib.hid (HS3.out.go hq)
 clear hq HS3
 go_wp2_with fail
 refine (HT.out 94 (by decide) (by rw [HC.out]; decide) _ HS4.out.ps).mono ?_
 rintro e w5 ⟨rfl, hq⟩
 have HS5 := Lib.hid (HS4.out.go hq)
 clear hq HS4
 go_wp2_with fail
 refine (HT.out 36 (by decide) (by rw [HC.out]; decide) _ HS5.out.ps).mono ?_
 rintro e w6 ⟨rfl, hq⟩
 have HS6 := Lib.hid (HS5.out.go hq)
 clear hq HS5
 go_wp2_with fail
 refine (HT.out 92 (by decide) (by rw [HC.out]; decide) _ HS6.out.ps).mono ?_
 rintro e w7 ⟨rfl, hq⟩
 have HS7 := Lib.hid (HS6.out.go hq)
 clear hq HS6
 go_wp2_with fail
 refine (HPR.out _).mono ?_
 rintro e wp ⟨rfl, rfl⟩
 go_wp2_with fail
 refine (HF.out _ HS7.out.ps).mono ?_
 rintro e w8 ⟨rfl, hq⟩
 have HS8 := Lib.hid (HS7.out.go hq)
 clear hq HS7
 obtain ⟨k0, k1, k2, k3, k4, k5, f0, f1, f2, f3, f4, f5⟩ := bk6 HS8.out.bk
 go_wp2_with fail
 rw [nest6]
 exact zero_retz (P := 2) rfl HS8.out _ _ rfl (by rfl) (by decide) rfl
set_option maxHeartbeats 4000000 in
set_option maxRecDepth 1000000 in
theorem atomz_odd (b : Nat) (l : List UInt8) (i : Nat) (c : UInt8) (hc : Asc.at_ l i = c.toNat) (hnn : ∀ d : UInt8, d ∈ [40, 91, 46, 94, 36, 92] → d ≠ c) (h1 : c.toNat < 32 ∨ 126 < c.toNat) : RdZ 129 b l i (.error (i, 1)) := by
 intro w h
 have HT : Hid (∀ d : Nat, d < 256 → Asc.at_ l i ≠ d → ∀ W, ZS b l i 0 W → Calls Tryz.prog 74 #[.pointer (some ⟨b, 0, none⟩), .int .u8 (d : Int)] W fun r w' => r = .returned (.bool false) ∧ ZQ b l i 0 W w') := Lib.hid (fun d _ hd W hW => ztakes_no b l i 0 W hW d hd)
 have HS := Lib.hid (ZR.start h)
 have hc8 : c.toNat < 256 := UInt8.toNat_lt c
 have HN := Lib.hid fun W (hW : ZS b l i 0 W) => znext_ok b l i W hW c.toNat hc hc8
 have HNE : Hid (∀ d : UInt8, d ∈ [40, 91, 46, 94, 36, 92] → Asc.at_ l i ≠ d.toNat) := Lib.hid (fun d hd e => hnn d hd (UInt8.toNat_inj.1 (e.symm.trans hc)))
 have HPR := Lib.hid fun W => printable_no c.toNat W h1
 clear hc hnn h1 hc8
 have HF := Lib.hid fun W (hW : ZS b l i 0 W) => zfail b l i 0 1 W hW
 simp only [if_true] at HF
 clear h
 go_enter Tryz.func129, Tryz.ntmps129
 go_wp2_with fail
 refine (HN.out _ HS.out.ps).mono ?_
 rintro e w1 ⟨rfl, hq⟩
 have HS1 := Lib.hid (HS.out.go hq)
 clear hq HS
 go_wp2_with fail
 refine (HT.out 40 (by decide) (by exact HNE.out 40 (by decide)) _ HS1.out.ps).mono ?_
 rintro e w2 ⟨rfl, hq⟩
 have HS2 := Lib.hid (HS1.out.go hq)
 clear hq HS1
 go_wp2_with fail
 refine (HT.out 91 (by decide) (by exact HNE.out 91 (by decide)) _ HS2.out.ps).mono ?_
 rintro e w3 ⟨rfl, hq⟩
 have HS3 := Lib.hid (HS2.out.go hq)
 clear hq HS2
 go_wp2_with fail
 refine (HT.out 46 (by decide) (by exact HNE.out 46 (by decide)) _ HS3.out.ps).mono ?_
 rintro e w4 ⟨rfl, hq⟩
 have HS4 := Lib.hid (HS3.out.go hq)
 clear hq HS3
 go_wp2_with fail
 refine (HT.out 94 (by decide) (by exact HNE.out 94 (by decide)) _ HS4.out.ps).mono ?_
 rintro e w5 ⟨rfl, hq⟩
 have HS5 := Lib.hid (HS4.out.go hq)
 clear hq HS4
 go_wp2_with fail
 refine (HT.out 36 (by decide) (by exact HNE.out 36 (by decide)) _ HS5.out.ps).mono ?_
 rintro e w6 ⟨rfl, hq⟩
 have HS6 := Lib.hid (HS5.out.go hq)
 clear hq HS5
 go_wp2_with fail
 refine (HT.out 92 (by decide) (by exact HNE.out 92 (by decide)) _ HS6.out.ps).mono ?_
 rintro e w7 ⟨rfl, hq⟩
 have HS7 := Lib.hid (HS6.out.go hq)
 clear hq HS6
 go_wp2_with fail
 refine (HPR.out _).mono ?_
 rintro e wp ⟨rfl, rfl⟩
 go_wp2_with fail
 refine (HF.out _ HS7.out.ps).mono ?_
 rintro e w8 ⟨rfl, hq⟩
 have HS8 := Lib.hid (HS7.out.go hq)
 clear hq HS7
 obtain ⟨k0, k1, k2, k3, k4, k5, f0, f1, f2, f3, f4, f5⟩ := bk6 HS8.out.bk
 go_wp2_with fail
 rw [nest6]
 exact zero_retz (P := 2) rfl HS8.out _ _ rfl (by rfl) (by decide) rfl
set_option maxHeartbeats 4000000 in
set_option maxRecDepth 1000000 in
theorem atomz_sign (b : Nat) (l : List UInt8) (i : Nat) (c : UInt8) (hc : Asc.at_ l i = c.toNat) (hnn : ∀ d : UInt8, d ∈ [40, 91, 46, 94, 36, 92] → d ≠ c) (h1 : 32 ≤ c.toNat) (h2 : c.toNat ≤ 126) (hs : c ∈ spec) : RdZ 129 b l i (.error (i, 1)) := by
 intro w h
 have HT : Hid (∀ d : Nat, d < 256 → Asc.at_ l i ≠ d → ∀ W, ZS b l i 0 W → Calls Tryz.prog 74 #[.pointer (some ⟨b, 0, none⟩), .int .u8 (d : Int)] W fun r w' => r = .returned (.bool false) ∧ ZQ b l i 0 W w') := Lib.hid (fun d _ hd W hW => ztakes_no b l i 0 W hW d hd)
 have HS := Lib.hid (ZR.start h)
 have hc8 : c.toNat < 256 := UInt8.toNat_lt c
 have HN := Lib.hid fun W (hW : ZS b l i 0 W) => znext_ok b l i W hW c.toNat hc hc8
 have HNE : Hid (∀ d : UInt8, d ∈ [40, 91, 46, 94, 36, 92] → Asc.at_ l i ≠ d.toNat) := Lib.hid (fun d hd e => hnn d hd (UInt8.toNat_inj.1 (e.symm.trans hc)))
 have HPR := Lib.hid fun W => printable_yes c.toNat W h1 h2
 have HI := Lib.hid fun W => (show Calls Tryz.prog 154 #[.string ⟨#[40, 41, 91, 93, 123, 125, 42, 43, 63, 124, 46, 94, 36, 92]⟩, .int .u8 (c.toNat : Int)] W _ from ib_yes spec c W hs)
 obtain ⟨K, hK⟩ : ∃ K, Asc.pos spec c = K := ⟨_, rfl⟩
 rw [hK] at HI
 have z0 : decide ((0 : Int) ≤ (K : Int)) = true := decide_eq_true (by omega)
 clear hc hnn h1 h2 hs hc8 hK
 have HF := Lib.hid fun W (hW : ZS b l i 0 W) => zfail b l i 0 1 W hW
 simp only [if_true] at HF
 clear h
 go_enter Tryz.func129, Tryz.ntmps129
 go_wp2_with fail
 refine (HN.out _ HS.out.ps).mono ?_
 rintro e w1 ⟨rfl, hq⟩
 have HS1 := Lib.hid (HS.out.go hq)
 clear hq HS
 go_wp2_with fail
 refine (HT.out 40 (by decide) (by exact HNE.out 40 (by decide)) _ HS1.out.ps).mono ?_
 rintro e w2 ⟨rfl, hq⟩
 have HS2 := Lib.hid (HS1.out.go hq)
 clear hq HS1
 go_wp2_with fail
 refine (HT.out 91 (by decide) (by exact HNE.out 91 (by decide)) _ HS2.out.ps).mono ?_
 rintro e w3 ⟨rfl, hq⟩
 have HS3 := Lib.hid (HS2.out.go hq)
 clear hq HS2
 go_wp2_with fail
 refine (HT.out 46 (by decide) (by exact HNE.out 46 (by decide)) _ HS3.out.ps).mono ?_
 rintro e w4 ⟨rfl, hq⟩
 have HS4 := Lib.hid (HS3.out.go hq)
 clear hq HS3
 go_wp2_with fail
 refine (HT.out 94 (by decide) (by exact HNE.out 94 (by decide)) _ HS4.out.ps).mono ?_
 rintro e w5 ⟨rfl, hq⟩
 have HS5 := Lib.hid (HS4.out.go hq)
 clear hq HS4
 go_wp2_with fail
 refine (HT.out 36 (by decide) (by exact HNE.out 36 (by decide)) _ HS5.out.ps).mono ?_
 rintro e w6 ⟨rfl, hq⟩
 have HS6 := Lib.hid (HS5.out.go hq)
 clear hq HS5
 go_wp2_with fail
 refine (HT.out 92 (by decide) (by exact HNE.out 92 (by decide)) _ HS6.out.ps).mono ?_
 rintro e w7 ⟨rfl, hq⟩
 have HS7 := Lib.hid (HS6.out.go hq)
 clear hq HS6
 go_wp2_with fail
 refine (HPR.out _).mono ?_
 rintro e wp ⟨rfl, rfl⟩
 go_wp2_with fail
 refine (HI.out _).mono ?_
 rintro e wp ⟨rfl, rfl⟩
 go_wp2_with fail
 refine (HF.out _ HS7.out.ps).mono ?_
 rintro e w8 ⟨rfl, hq⟩
 have HS8 := Lib.hid (HS7.out.go hq)
 clear hq HS7
 obtain ⟨k0, k1, k2, k3, k4, k5, f0, f1, f2, f3, f4, f5⟩ := bk6 HS8.out.bk
 go_wp2_with fail
 rw [nest6]
 exact zero_retz (P := 2) rfl HS8.out _ _ rfl (by rfl) (by decide) rfl
theorem spec_nat {c : UInt8} (h : c ∈ spec) : (spec.map UInt8.toNat).contains c.toNat = true := by
 rw [List.contains_iff_mem]
 exact List.mem_map_of_mem h
theorem spec_u8 {c : UInt8} (h : (spec.map UInt8.toNat).contains c.toNat = true) : c ∈ spec := by
 rw [List.contains_iff_mem] at h
 obtain ⟨d, hd, e⟩ := List.mem_map.1 h
 rwa [← UInt8.toNat_inj.1 e]
theorem atom_any (b : Nat) (l : List UInt8) (ch : Nat → Out NT) (i : Nat) (hg : Asc.at_ l i = 40 → RdZ 147 b l (i + 1) (grpM ch l (i + 1))) : RdZ 129 b l i (atomM ch l i) := by
 unfold atomM
 by_cases h1 : Asc.at_ l i = 40
 ·rw [if_pos h1]
  exact atomz_group b l i _ h1 (hg h1)
 rw [if_neg h1]
 by_cases h2 : Asc.at_ l i = 91
 ·rw [if_pos h2]
  exact atomz_bra b l i _ h2 (bra_any b l (i + 1))
 rw [if_neg h2]
 by_cases h3 : Asc.at_ l i = 46
 ·rw [if_pos h3]
  exact atomz_dot b l i h3
 rw [if_neg h3]
 by_cases h4 : Asc.at_ l i = 94
 ·rw [if_pos h4]
  exact atomz_beg b l i h4
 rw [if_neg h4]
 by_cases h5 : Asc.at_ l i = 36
 ·rw [if_pos h5]
  exact atomz_end b l i h5
 rw [if_neg h5]
 by_cases h6 : Asc.at_ l i = 92
 ·rw [if_pos h6]
  refine atomz_esc b l i _ (fun s c one j e hf => ?_) h6
  rcases fits_cases hf with ⟨hm, rfl⟩ | ⟨hm, he⟩
  ·rw [hm]
   exact fits_ok
  ·rw [hm]
   exact fits_err he
 rw [if_neg h6]
 rcases at_two l i with h9 | h9
 ·obtain ⟨c, hc⟩ := at_u8 h9
  rw [hc] at h1 h2 h3 h4 h5 h6 ⊢
  have hnn : ∀ d : UInt8, d ∈ [40, 91, 46, 94, 36, 92] → d ≠ c := by
   intro d hd e
   subst e
   simp only [List.mem_cons, List.not_mem_nil, or_false] at hd
   rcases hd with rfl | rfl | rfl | rfl | rfl | rfl
   ·exact h1 (by decide)
   ·exact h2 (by decide)
   ·exact h3 (by decide)
   ·exact h4 (by decide)
   ·exact h5 (by decide)
   ·exact h6 (by decide)
  by_cases ha : c.toNat < 32 ∨ 126 < c.toNat
  ·rw [if_neg (by simp only [selfA, Bool.and_eq_true, decide_eq_true_eq]; omega)]
   exact atomz_odd b l i c hc (fun d hd e => hnn d hd e.symm.symm) ha
  ·by_cases hs : c ∈ spec
   ·rw [if_neg (by simp only [selfA, spec_nat hs]; simp)]
    exact atomz_sign b l i c hc hnn (by omega) (by omega) hs
   ·have hself : selfA c.toNat = true := by
     unfold selfA
     rw [decide_eq_true (show 32 ≤ c.toNat by omega), decide_eq_true (show c.toNat ≤ 126 by omega)]
     cases hh : (spec.map UInt8.toNat).contains c.toNat with
     | true => exact absurd (spec_u8 hh) hs
     | false => rfl
    rw [if_pos hself]
    exact atomz_plain b l i c hc hnn hs (by omega) (by omega)
 ·rw [h9, if_neg (by decide)]
  exact atomz_none b l i h9
end Go.Proofs.YtmpbjaodgajnfaaGreatDoor

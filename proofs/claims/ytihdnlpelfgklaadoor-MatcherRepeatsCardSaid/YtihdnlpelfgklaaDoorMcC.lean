/-
 Joined: PatC, Kinds, PatD, PatE, PatG, PatEa, PatEb, PatEc, PatF.
-/
import Derived.Test.YtihdnlpelfgklaaDoorMcB
import Derived.BigQuiet
import Derived.IntWalk
import Derived.Test.YtihdnlpelfgklaaDoorMcA
namespace Go.Proofs.YtihdnlpelfgklaaDoor
open Go.RowKit
def okR (rs : List (UInt8 × UInt8)) (i : Nat) (h : i < rs.length) : Prop := rs[i].1.toNat ≤ rs[i].2.toNat ∧ (0 < i → rs[i - 1].2.toNat + 1 < rs[i].1.toNat)
noncomputable def srtB (rs : List (UInt8 × UInt8)) : Bool := @decide (0 < rs.length ∧ ∀ i (h : i < rs.length), okR rs i h) (Classical.propDecidable _)
theorem srtB_yes {rs : List (UInt8 × UInt8)} (h : 0 < rs.length ∧ ∀ i (h : i < rs.length), okR rs i h) : srtB rs = true := by unfold srtB; exact @decide_eq_true _ (Classical.propDecidable _) h
theorem srtB_no {rs : List (UInt8 × UInt8)} (h : ¬ (0 < rs.length ∧ ∀ i (h : i < rs.length), okR rs i h)) : srtB rs = false := by unfold srtB; exact @decide_eq_false _ (Classical.propDecidable _) h
set_option maxRecDepth 100000 in
set_option maxHeartbeats 2000000 in
theorem right_any (rs : List (UInt8 × UInt8)) (v : Value) (w : World) (h : RgAt w rs v) :
  Calls Tryd.prog 71 #[v] w fun e w' => e = .returned (.bool (srtB rs)) ∧ Below w.heap.size w w' := by
 obtain ⟨a, c, rfl, hm, hk⟩ := h
 have HK := Lib.hid hk
 obtain ⟨B, hB⟩ : ∃ B, srtB rs = B := ⟨_, rfl⟩
 have HY := Lib.hid fun (h : 0 < rs.length ∧ ∀ i (h : i < rs.length), okR rs i h) => show true = B by rw [← hB, srtB_yes h]
 have HN := Lib.hid fun (h : ¬ (0 < rs.length ∧ ∀ i (h : i < rs.length), okR rs i h)) => show false = B by rw [← hB, srtB_no h]
 rw [hB]
 clear hk hB
 go_enter Tryd.func71, Tryd.ntmps71
 go_wp2_with fail
 go_loopw [7] (fun i wr => ∃ k : Nat, i = .int .i64 k ∧ k ≤ rs.length ∧ Hid (∀ i (h : i < rs.length), i < k → okR rs i h) ∧ Below w.heap.size w wr) (fun i _ => rs.length - (intOf i).toNat)
 case atStart => exact ⟨0, rfl, by omega, Lib.hid (fun _ _ h => by omega), Below.refl _ _⟩
 case round =>
  obtain ⟨k, rfl, hkl, hok, hb⟩ := hrel
  have HB := Lib.hid hb
  by_cases hlt : k < rs.length
  ·obtain ⟨blk, off, rfl, hl, c0, c1⟩ := HK.out k hlt
   have e0 := (hb.cell (p := ⟨blk, off + k * 2, none⟩) hl).trans c0
   have e1 := (hb.cell (p := ⟨blk, off + k * 2 + 1, none⟩) hl).trans c1
   have i1 : (k : Int) < (rs.length : Int) := by omega
   have i2 : (0 : Int) ≤ (k : Int) := by omega
   have hlw : blk < wr.heap.size := Nat.lt_of_lt_of_le hl hb.size
   have HOK := Lib.hid (show okR rs k hlt ↔ (rs[k].1.toNat ≤ rs[k].2.toNat ∧ (0 < k → rs[k - 1].2.toNat + 1 < rs[k].1.toNat)) from Iff.rfl)
   have hlo := rs[k].1.toNat_lt
   have hhi := rs[k].2.toNat_lt
   have HPV : Hid (0 < k → ∃ p : Nat, rs[k - 1].2.toNat = p ∧ p < 256 ∧ wr.cell? ⟨blk, off + (k - 1) * 2 + 1, none⟩ = some (.int .u8 (p : Int))) := Lib.hid (fun h0 => by
    obtain ⟨blk', off', e, _, _, c1'⟩ := HK.out (k - 1) (by omega)
    simp only [Option.some.injEq, Addr.mk.injEq, and_true] at e
    obtain ⟨rfl, rfl⟩ := e
    exact ⟨_, rfl, rs[k - 1].2.toNat_lt, (hb.cell (p := ⟨blk, off + (k - 1) * 2 + 1, none⟩) hl).trans c1'⟩)
   obtain ⟨lo, hlo1⟩ : ∃ lo, rs[k].1.toNat = lo := ⟨_, rfl⟩
   obtain ⟨hi, hhi1⟩ : ∃ hi, rs[k].2.toNat = hi := ⟨_, rfl⟩
   rw [hlo1] at e0 hlo HOK
   rw [hhi1] at e1 hhi HOK
   have HBA := Lib.hid (hb.alloc hb.size (.cells #[.int .u8 lo, .int .u8 hi] 47))
   clear c0 c1 hlo1 hhi1 hb
   by_cases h1 : lo ≤ hi
   ·have z1 : decide ((hi : Int) < (lo : Int)) = false := decide_eq_false (by omega)
    by_cases h2 : 0 < k
    ·obtain ⟨p, hp1, hp2, hp3⟩ := HPV.out h2
     have z2 : decide ((0 : Int) < (k : Int)) = true := decide_eq_true (by omega)
     have j1 : ((k : Int) - 1) < (rs.length : Int) := by omega
     have j4 : (1 : Int) ≤ (k : Int) := by omega
     have j5 : (k : Int) ≤ (rs.length : Int) := by omega
     have j6 : 1 ≤ k := h2
     have j2 : (0 : Int) ≤ (k : Int) - 1 := by omega
     have j3 : ((k : Int) - 1).toNat = k - 1 := by omega
     rw [hp1] at HOK
     clear hp1 HPV
     by_cases h3 : p + 1 < lo
     ·have z3 : decide ((lo : Int) ≤ (p : Int) + 1) = false := decide_eq_false (by omega)
      have HO : Hid (∀ i (h : i < rs.length), i < k + 1 → okR rs i h) := Lib.hid (fun i h hi' => by
       by_cases e : i = k
       ·subst e; exact HOK.out.2 ⟨h1, fun _ => h3⟩
       ·exact hok.out i h (by omega))
      have z4 : decide (hi < lo) = false := decide_eq_false (by omega)
      have s3 : IntKind.i64.wrap (lo : Int) = (lo : Int) := IntWalk.i64_in _ (by omega)
      have s4 : IntKind.i64.wrap (p : Int) = (p : Int) := IntWalk.i64_in _ (by omega)
      have s1 : IntKind.i64.wrap ((k : Int) - 1) = (k : Int) - 1 := IntWalk.i64_in _ (by omega)
      have s2 : IntKind.i64.wrap ((p : Int) + 1) = (p : Int) + 1 := IntWalk.i64_in _ (by omega)
      go_wp2_with fail
      go_quiet (fail)
      clear s1 s2 s3 s4
      go_wp2_with fail
      go_roundw
      case rel => exact ⟨k + 1, by go_num, by omega, HO, below_drewN HBA.out _⟩
      case measure => simp [intOf]; omega
     ·have z3 : decide ((lo : Int) ≤ (p : Int) + 1) = true := decide_eq_true (by omega)
      have HX : Hid (false = B) := Lib.hid (HN.out fun h => h3 ((HOK.out.1 (h.2 k hlt)).2 h2))
      have z4 : decide (hi < lo) = false := decide_eq_false (by omega)
      have s3 : IntKind.i64.wrap (lo : Int) = (lo : Int) := IntWalk.i64_in _ (by omega)
      have s4 : IntKind.i64.wrap (p : Int) = (p : Int) := IntWalk.i64_in _ (by omega)
      have s1 : IntKind.i64.wrap ((k : Int) - 1) = (k : Int) - 1 := IntWalk.i64_in _ (by omega)
      have s2 : IntKind.i64.wrap ((p : Int) + 1) = (p : Int) + 1 := IntWalk.i64_in _ (by omega)
      go_wp2_with fail
      go_quiet (fail)
      clear s1 s2 s3 s4
      go_wp2_with fail
      go_ret
      exact ⟨ret_bool HX.out, below_drewN HBA.out _⟩
    ·have z2 : decide ((0 : Int) < (k : Int)) = false := decide_eq_false (by omega)
     have HO : Hid (∀ i (h : i < rs.length), i < k + 1 → okR rs i h) := Lib.hid (fun i h hi' => by
      by_cases e : i = k
      ·subst e; exact HOK.out.2 ⟨h1, fun h => absurd h h2⟩
      ·exact hok.out i h (by omega))
     have z4 : decide (hi < lo) = false := decide_eq_false (by omega)
     go_wp2_with fail
     go_quiet (fail)
     clear z4
     go_wp2_with fail
     go_roundw
     case rel => exact ⟨k + 1, by go_num, by omega, HO, below_drewN HBA.out _⟩
     case measure => simp [intOf]; omega
   ·have z1 : decide ((hi : Int) < (lo : Int)) = true := decide_eq_true (by omega)
    have z4 : decide (hi < lo) = true := decide_eq_true (by omega)
    have HX : Hid (false = B) := Lib.hid (HN.out fun h => h1 (HOK.out.1 (h.2 k hlt)).1)
    go_wp2_with fail
    go_quiet (fail)
    clear z4
    go_wp2_with fail
    go_ret
    exact ⟨ret_bool HX.out, below_drewN HBA.out _⟩
  ·obtain rfl : k = rs.length := by omega
   by_cases h0 : 0 < rs.length
   ·have HX : Hid (true = B) := Lib.hid (HY.out ⟨h0, fun i h => hok.out i h h⟩)
    have z0 : decide ((0 : Int) < (rs.length : Int)) = true := decide_eq_true (by omega)
    go_wp2_with fail
    go_ret
    exact ⟨ret_bool HX.out, HB.out⟩
   ·have HX : Hid (false = B) := Lib.hid (HN.out fun h => h0 h.1)
    have z0 : decide ((0 : Int) < (rs.length : Int)) = false := decide_eq_false (by omega)
    go_wp2_with fail
    go_ret
    exact ⟨ret_bool HX.out, HB.out⟩
set_option maxRecDepth 100000 in
set_option maxHeartbeats 2000000 in
theorem sorted_any (rs : List (UInt8 × UInt8)) (v : Value) (w : World) (h : RgAt w rs v) :
  Calls Tryd.prog 42 #[v] w fun e w' => e = .returned (.bool (srtB rs)) ∧ Below w.heap.size w w' := by
 obtain ⟨a, c, rfl, hm, hk⟩ := h
 have HK := Lib.hid hk
 obtain ⟨B, hB⟩ : ∃ B, srtB rs = B := ⟨_, rfl⟩
 have HY := Lib.hid fun (h : 0 < rs.length ∧ ∀ i (h : i < rs.length), okR rs i h) => show true = B by rw [← hB, srtB_yes h]
 have HN := Lib.hid fun (h : ¬ (0 < rs.length ∧ ∀ i (h : i < rs.length), okR rs i h)) => show false = B by rw [← hB, srtB_no h]
 rw [hB]
 clear hk hB
 go_enter Tryd.func42, Tryd.ntmps42
 go_wp2_with fail
 go_loopw [3] (fun i wr => ∃ k : Nat, i = .int .i64 k ∧ k ≤ rs.length ∧ Hid (∀ i (h : i < rs.length), i < k → okR rs i h) ∧ Below w.heap.size w wr) (fun i _ => rs.length - (intOf i).toNat)
 case atStart => exact ⟨0, rfl, by omega, Lib.hid (fun _ _ h => by omega), Below.refl _ _⟩
 case round =>
  obtain ⟨k, rfl, hkl, hok, hb⟩ := hrel
  have HB := Lib.hid hb
  by_cases hlt : k < rs.length
  ·obtain ⟨blk, off, rfl, hl, c0, c1⟩ := HK.out k hlt
   have e0 := (hb.cell (p := ⟨blk, off + k * 2, none⟩) hl).trans c0
   have e1 := (hb.cell (p := ⟨blk, off + k * 2 + 1, none⟩) hl).trans c1
   have i1 : (k : Int) < (rs.length : Int) := by omega
   have i2 : (0 : Int) ≤ (k : Int) := by omega
   have hlw : blk < wr.heap.size := Nat.lt_of_lt_of_le hl hb.size
   have HOK := Lib.hid (show okR rs k hlt ↔ (rs[k].1.toNat ≤ rs[k].2.toNat ∧ (0 < k → rs[k - 1].2.toNat + 1 < rs[k].1.toNat)) from Iff.rfl)
   have hlo := rs[k].1.toNat_lt
   have hhi := rs[k].2.toNat_lt
   have HPV : Hid (0 < k → ∃ p : Nat, rs[k - 1].2.toNat = p ∧ p < 256 ∧ wr.cell? ⟨blk, off + (k - 1) * 2 + 1, none⟩ = some (.int .u8 (p : Int))) := Lib.hid (fun h0 => by
    obtain ⟨blk', off', e, _, _, c1'⟩ := HK.out (k - 1) (by omega)
    simp only [Option.some.injEq, Addr.mk.injEq, and_true] at e
    obtain ⟨rfl, rfl⟩ := e
    exact ⟨_, rfl, rs[k - 1].2.toNat_lt, (hb.cell (p := ⟨blk, off + (k - 1) * 2 + 1, none⟩) hl).trans c1'⟩)
   obtain ⟨lo, hlo1⟩ : ∃ lo, rs[k].1.toNat = lo := ⟨_, rfl⟩
   obtain ⟨hi, hhi1⟩ : ∃ hi, rs[k].2.toNat = hi := ⟨_, rfl⟩
   rw [hlo1] at e0 hlo HOK
   rw [hhi1] at e1 hhi HOK
   have HBA := Lib.hid hb
   clear c0 c1 hlo1 hhi1 hb
   by_cases h1 : lo ≤ hi
   ·have z1 : decide ((hi : Int) < (lo : Int)) = false := decide_eq_false (by omega)
    by_cases h2 : 0 < k
    ·obtain ⟨p, hp1, hp2, hp3⟩ := HPV.out h2
     have z2 : decide ((0 : Int) < (k : Int)) = true := decide_eq_true (by omega)
     have j1 : ((k : Int) - 1) < (rs.length : Int) := by omega
     have j4 : (1 : Int) ≤ (k : Int) := by omega
     have j5 : (k : Int) ≤ (rs.length : Int) := by omega
     have j6 : 1 ≤ k := h2
     have j2 : (0 : Int) ≤ (k : Int) - 1 := by omega
     have j3 : ((k : Int) - 1).toNat = k - 1 := by omega
     rw [hp1] at HOK
     clear hp1 HPV
     by_cases h3 : p + 1 < lo
     ·have z3 : decide ((lo : Int) ≤ (p : Int) + 1) = false := decide_eq_false (by omega)
      have HO : Hid (∀ i (h : i < rs.length), i < k + 1 → okR rs i h) := Lib.hid (fun i h hi' => by
       by_cases e : i = k
       ·subst e; exact HOK.out.2 ⟨h1, fun _ => h3⟩
       ·exact hok.out i h (by omega))
      have z4 : decide (hi < lo) = false := decide_eq_false (by omega)
      have s3 : IntKind.i64.wrap (lo : Int) = (lo : Int) := IntWalk.i64_in _ (by omega)
      have s4 : IntKind.i64.wrap (p : Int) = (p : Int) := IntWalk.i64_in _ (by omega)
      have s1 : IntKind.i64.wrap ((k : Int) - 1) = (k : Int) - 1 := IntWalk.i64_in _ (by omega)
      have s2 : IntKind.i64.wrap ((p : Int) + 1) = (p : Int) + 1 := IntWalk.i64_in _ (by omega)
      go_wp2_with fail
      go_quiet (fail)
      clear s1 s2 s3 s4
      go_wp2_with fail
      go_roundw
      case rel => exact ⟨k + 1, by go_num, by omega, HO, below_drewN HBA.out _⟩
      case measure => simp [intOf]; omega
     ·have z3 : decide ((lo : Int) ≤ (p : Int) + 1) = true := decide_eq_true (by omega)
      have HX : Hid (false = B) := Lib.hid (HN.out fun h => h3 ((HOK.out.1 (h.2 k hlt)).2 h2))
      have z4 : decide (hi < lo) = false := decide_eq_false (by omega)
      have s3 : IntKind.i64.wrap (lo : Int) = (lo : Int) := IntWalk.i64_in _ (by omega)
      have s4 : IntKind.i64.wrap (p : Int) = (p : Int) := IntWalk.i64_in _ (by omega)
      have s1 : IntKind.i64.wrap ((k : Int) - 1) = (k : Int) - 1 := IntWalk.i64_in _ (by omega)
      have s2 : IntKind.i64.wrap ((p : Int) + 1) = (p : Int) + 1 := IntWalk.i64_in _ (by omega)
      go_wp2_with fail
      go_quiet (fail)
      clear s1 s2 s3 s4
      go_wp2_with fail
      go_ret
      exact ⟨ret_bool HX.out, below_drewN HBA.out _⟩
    ·have z2 : decide ((0 : Int) < (k : Int)) = false := decide_eq_false (by omega)
     have HO : Hid (∀ i (h : i < rs.length), i < k + 1 → okR rs i h) := Lib.hid (fun i h hi' => by
      by_cases e : i = k
      ·subst e; exact HOK.out.2 ⟨h1, fun h => absurd h h2⟩
      ·exact hok.out i h (by omega))
     have z4 : decide (hi < lo) = false := decide_eq_false (by omega)
     go_wp2_with fail
     go_quiet (fail)
     clear z4
     go_wp2_with fail
     go_roundw
     case rel => exact ⟨k + 1, by go_num, by omega, HO, below_drewN HBA.out _⟩
     case measure => simp [intOf]; omega
   ·have z1 : decide ((hi : Int) < (lo : Int)) = true := decide_eq_true (by omega)
    have z4 : decide (hi < lo) = true := decide_eq_true (by omega)
    have HX : Hid (false = B) := Lib.hid (HN.out fun h => h1 (HOK.out.1 (h.2 k hlt)).1)
    go_wp2_with fail
    go_quiet (fail)
    clear z4
    go_wp2_with fail
    go_ret
    exact ⟨ret_bool HX.out, below_drewN HBA.out _⟩
  ·obtain rfl : k = rs.length := by omega
   by_cases h0 : 0 < rs.length
   ·have HX : Hid (true = B) := Lib.hid (HY.out ⟨h0, fun i h => hok.out i h h⟩)
    have z0 : decide ((0 : Int) < (rs.length : Int)) = true := decide_eq_true (by omega)
    go_wp2_with fail
    go_ret
    exact ⟨ret_bool HX.out, HB.out⟩
   ·have HX : Hid (false = B) := Lib.hid (HN.out fun h => h0 h.1)
    have z0 : decide ((0 : Int) < (rs.length : Int)) = false := decide_eq_false (by omega)
    go_wp2_with fail
    go_ret
    exact ⟨ret_bool HX.out, HB.out⟩
end Go.Proofs.YtihdnlpelfgklaaDoor
namespace Go.Proofs.YtihdnlpelfgklaaDoor
open Go.RowKit
namespace Asc
def isDigit (c : Nat) : Bool := decide (48 ≤ c ∧ c ≤ 57)
def isLetter (c : Nat) : Bool := decide (97 ≤ c ∧ c ≤ 122 ∨ 65 ≤ c ∧ c ≤ 90)
def isSpace (c : Nat) : Bool := decide (c = 32 ∨ c = 9)
def isWord (c : Nat) : Bool := isDigit c || isLetter c || decide (c = 95)
def kind (c : Nat) : Nat := if isDigit c then 1 else if isLetter c then 2 else if isSpace c then 4 else 0
def kTab : List Int := (List.range 256).map fun c => (kind c : Int)
theorem kTab_at (c : Nat) (h : c < 256) : kTab.getD c 0 = (kind c : Nat) := by
 unfold kTab
 simp [List.getD, h]
theorem kind_cases (c : Nat) : (kind c = 1 ∧ isDigit c = true ∧ isLetter c = false ∧ isSpace c = false) ∨ (kind c = 2 ∧ isDigit c = false ∧ isLetter c = true ∧ isSpace c = false) ∨
  (kind c = 4 ∧ isDigit c = false ∧ isLetter c = false ∧ isSpace c = true) ∨ (kind c = 0 ∧ isDigit c = false ∧ isLetter c = false ∧ isSpace c = false) := by
 unfold kind
 by_cases h1 : isDigit c = true
 ·refine .inl ⟨by rw [if_pos h1], h1, ?_, ?_⟩
  ·unfold isDigit at h1; unfold isLetter; simp at h1 ⊢; omega
  ·unfold isDigit at h1; unfold isSpace; simp at h1 ⊢; omega
 ·rw [if_neg h1]
  by_cases h2 : isLetter c = true
  ·refine .inr (.inl ⟨by rw [if_pos h2], by simpa using h1, h2, ?_⟩)
   unfold isLetter at h2; unfold isSpace; simp at h2 ⊢; omega
  ·rw [if_neg h2]
   by_cases h3 : isSpace c = true
   ·exact .inr (.inr (.inl ⟨by rw [if_pos h3], by simpa using h1, by simpa using h2, h3⟩))
   ·exact .inr (.inr (.inr ⟨by rw [if_neg h3], by simpa using h1, by simpa using h2, by simpa using h3⟩))
end Asc
def Kinds (w : World) : Prop := 0 < w.heap.size ∧ ∀ c, c < 256 → w.cell? ⟨0, c, none⟩ = some (.int .u8 (Asc.kind c : Nat))
theorem Kinds.below {w w' : World} (h : Kinds w) (hb : Below w.heap.size w w') : Kinds w' :=
 ⟨Nat.lt_of_lt_of_le h.1 hb.size, fun c hc => (hb.cell (p := ⟨0, c, none⟩) h.1).trans (h.2 c hc)⟩
theorem Kinds.alloc {w : World} (h : Kinds w) (o : Obj) : Kinds (w.alloc o) := h.below ((Below.refl _ _).alloc (Nat.le_refl _) o)
theorem digit_any (c : Nat) (w : World) (hc : c < 256) (hk : Kinds w) :
  Calls Tryd.prog 94 #[.int .u8 c] w fun e w' => e = .returned (.bool (Asc.isDigit c)) ∧ w = w' := by
 have h := hk.2 c hc
 clear hk
 rcases Asc.kind_cases c with ⟨k, d, l, s⟩ | ⟨k, d, l, s⟩ | ⟨k, d, l, s⟩ | ⟨k, d, l, s⟩
 all_goals
  rw [k] at h
  rw [d]
  clear k d l s
  go_enter Tryd.func94, Tryd.ntmps94
  go_wp2_with fail
  go_ret
  exact ⟨by first | rfl | decide, rfl⟩
theorem letter_any (c : Nat) (w : World) (hc : c < 256) (hk : Kinds w) :
  Calls Tryd.prog 86 #[.int .u8 c] w fun e w' => e = .returned (.bool (Asc.isLetter c)) ∧ w = w' := by
 have h := hk.2 c hc
 clear hk
 rcases Asc.kind_cases c with ⟨k, d, l, s⟩ | ⟨k, d, l, s⟩ | ⟨k, d, l, s⟩ | ⟨k, d, l, s⟩
 all_goals
  rw [k] at h
  rw [l]
  clear k d l s
  go_enter Tryd.func86, Tryd.ntmps86
  go_wp2_with fail
  go_ret
  exact ⟨by first | rfl | decide, rfl⟩
theorem space_any (c : Nat) (w : World) (hc : c < 256) (hk : Kinds w) :
  Calls Tryd.prog 95 #[.int .u8 c] w fun e w' => e = .returned (.bool (Asc.isSpace c)) ∧ w = w' := by
 have h := hk.2 c hc
 clear hk
 rcases Asc.kind_cases c with ⟨k, d, l, s⟩ | ⟨k, d, l, s⟩ | ⟨k, d, l, s⟩ | ⟨k, d, l, s⟩
 all_goals
  rw [k] at h
  rw [s]
  clear k d l s
  go_enter Tryd.func95, Tryd.ntmps95
  go_wp2_with fail
  go_ret
  exact ⟨by first | rfl | decide, rfl⟩
theorem word_any (c : Nat) (w : World) (hc : c < 256) (hk : Kinds w) :
  Calls Tryd.prog 87 #[.int .u8 c] w fun e w' => e = .returned (.bool (Asc.isWord c)) ∧ w = w' := by
 have h := hk.2 c hc
 clear hk
 rcases Asc.kind_cases c with ⟨k, d, l, s⟩ | ⟨k, d, l, s⟩ | ⟨k, d, l, s⟩ | ⟨k, d, l, s⟩
 all_goals
  rw [k] at h
  have hf : Asc.isWord c = (Asc.isDigit c || Asc.isLetter c || decide (c = 95)) := rfl
  rw [d, l] at hf
  simp only [Bool.true_or, Bool.or_true, Bool.false_or] at hf
  rw [hf]
  clear k d l s hf
  go_enter Tryd.func87, Tryd.ntmps87
  go_wp2_with fail
  go_ret
  exact ⟨by first | rfl | decide | exact ret_bool (by rw [Bool.eq_iff_iff]; simp; omega), rfl⟩
theorem rdigit_any (c : Nat) (w : World) (hc : c < 256) :
  Calls Tryd.prog 73 #[.int .u8 c] w fun e w' => e = .returned (.bool (Asc.isDigit c)) ∧ w = w' := by
 have hf := Lib.hid (show Asc.isDigit c = decide (48 ≤ c ∧ c ≤ 57) from rfl)
 go_enter Tryd.func73, Tryd.ntmps73
 go_wp2_with fail
 all_goals
  go_ret
  exact ⟨ret_bool (by rw [hf.out, Bool.eq_iff_iff]; simp; omega), rfl⟩
theorem rletter_any (c : Nat) (w : World) (hc : c < 256) :
  Calls Tryd.prog 60 #[.int .u8 c] w fun e w' => e = .returned (.bool (Asc.isLetter c)) ∧ w = w' := by
 have hf := Lib.hid (show Asc.isLetter c = decide (97 ≤ c ∧ c ≤ 122 ∨ 65 ≤ c ∧ c ≤ 90) from rfl)
 go_enter Tryd.func60, Tryd.ntmps60
 go_wp2_with fail
 all_goals
  go_ret
  exact ⟨ret_bool (by rw [hf.out, Bool.eq_iff_iff]; simp; omega), rfl⟩
theorem rword_any (c : Nat) (w : World) (hc : c < 256) :
  Calls Tryd.prog 61 #[.int .u8 c] w fun e w' => e = .returned (.bool (Asc.isWord c)) ∧ w = w' := by
 have hf := Lib.hid (show Asc.isWord c = (Asc.isDigit c || Asc.isLetter c || decide (c = 95)) from rfl)
 go_enter Tryd.func61, Tryd.ntmps61
 go_wp2_with (first | (go_at_call 73; refine (rdigit_any c w hc).mono ?_; rintro e w' ⟨rfl, rfl⟩) | (go_at_call 60; refine (rletter_any c w hc).mono ?_; rintro e w' ⟨rfl, rfl⟩))
 all_goals
  go_ret
  exact ⟨ret_bool (by rw [hf.out]; rw [Bool.eq_iff_iff]; simp_all <;> omega), rfl⟩
end Go.Proofs.YtihdnlpelfgklaaDoor
namespace Go.Proofs.YtihdnlpelfgklaaDoor
open Go.RowKit
def nlen (l : List UInt8) : Nat := match l with
 | [] => 0
 | c :: t => if Asc.isLetter c.toNat = true then (if 32 < 1 + (t.takeWhile fun x => Asc.isWord x.toNat).length then 0 else 1 + (t.takeWhile fun x => Asc.isWord x.toNat).length) else 0
theorem tw_len {t : List UInt8} {k : Nat} (hk : k ≤ t.length) (h : ∀ i (h : i < t.length), i < k → Asc.isWord (t[i]).toNat = true) (hs : ∀ h : k < t.length, Asc.isWord (t[k]).toNat = false) : (t.takeWhile fun x => Asc.isWord x.toNat).length = k := by
 induction t generalizing k with
 | nil => simp at hk; subst hk; rfl
 | cons c t ih =>
  cases k with
  | zero =>
   have := hs (by simp)
   simp only [List.getElem_cons_zero] at this
   rw [List.takeWhile_cons, this]
   rfl
  | succ k =>
   have h0 := h 0 (by simp) (by omega)
   simp only [List.getElem_cons_zero] at h0
   rw [List.takeWhile_cons, if_pos h0, List.length_cons, ih (k := k) (by simpa using hk) (fun i hi hik => by have := h (i + 1) (by simp; omega) (by omega); simpa using this) (fun hh => by have := hs (by simp; omega); simpa using this)]
theorem nlen_at {l : List UInt8} {k : Nat} (h1 : 1 ≤ k) (hk : k ≤ l.length) (hL : Asc.isLetter (l[0]'(by omega)).toNat = true) (h : ∀ i (h : i < l.length), 1 ≤ i → i < k → Asc.isWord (l[i]).toNat = true) (hs : ∀ h : k < l.length, Asc.isWord (l[k]).toNat = false) : nlen l = if 32 < k then 0 else k := by
 cases l with
 | nil => simp at hk; omega
 | cons c t =>
  obtain ⟨m, rfl⟩ : ∃ m, k = m + 1 := ⟨k - 1, by omega⟩
  have := tw_len (t := t) (k := m) (by simpa using hk) (fun i hi him => by have := h (i + 1) (by simp; omega) (by omega) (by omega); simpa using this) (fun hh => by have := hs (by simp; omega); simpa using this)
  simp only [List.getElem_cons_zero] at hL
  rw [nlen, if_pos hL, this, Nat.add_comm 1 m]
theorem nlen_no {l : List UInt8} (h : 0 < l.length) (hL : Asc.isLetter (l[0]).toNat = false) : nlen l = 0 := by
 cases l with
 | nil => simp at h
 | cons c t =>
  simp only [List.getElem_cons_zero] at hL
  rw [nlen, if_neg (by rw [hL]; decide)]
def NmOk (l : List UInt8) : Prop := 0 < l.length ∧ l.length ≤ 32 ∧ (∀ h : 0 < l.length, Asc.isLetter (l[0]).toNat = true) ∧ ∀ i (h : i < l.length), Asc.isWord (l[i]).toNat = true
noncomputable def nmB (l : List UInt8) : Bool := @decide (NmOk l) (Classical.propDecidable _)
theorem nmB_yes {l : List UInt8} (h : NmOk l) : nmB l = true := by unfold nmB; exact @decide_eq_true _ (Classical.propDecidable _) h
theorem nmB_no {l : List UInt8} (h : ¬ NmOk l) : nmB l = false := by unfold nmB; exact @decide_eq_false _ (Classical.propDecidable _) h
theorem nlen_le (l : List UInt8) : nlen l ≤ l.length := by
 cases l with
 | nil => exact Nat.le_refl _
 | cons c t =>
  rw [nlen]
  have := (List.takeWhile_prefix (p := fun x : UInt8 => Asc.isWord x.toNat) (l := t)).length_le
  split
  ·split
   ·simp
   ·simp only [List.length_cons]; omega
  ·simp
theorem nm_iff {l : List UInt8} (h : 0 < l.length) : NmOk l ↔ nlen l = l.length := by
 cases l with
 | nil => simp at h
 | cons c t =>
  have hp := (List.takeWhile_prefix (p := fun x : UInt8 => Asc.isWord x.toNat) (l := t))
  constructor
  ·rintro ⟨_, h2, h3, h4⟩
   have := nlen_at (l := c :: t) (k := (c :: t).length) (by simp) (Nat.le_refl _) (h3 h) (fun i hi _ _ => h4 i hi) (fun hh => by omega)
   rw [this, if_neg (by omega)]
  ·intro e
   rw [nlen] at e
   have hlen := hp.length_le
   by_cases hL : Asc.isLetter c.toNat = true
   ·rw [if_pos hL] at e
    by_cases h32 : 32 < 1 + (t.takeWhile fun x => Asc.isWord x.toNat).length
    ·rw [if_pos h32] at e; simp at e
    ·rw [if_neg h32] at e
     simp only [List.length_cons] at e
     have ht : t.takeWhile (fun x => Asc.isWord x.toNat) = t := hp.eq_of_length (by omega)
     refine ⟨h, by simp; omega, fun _ => hL, fun i hi => ?_⟩
     cases i with
     | zero => simp only [List.getElem_cons_zero]; unfold Asc.isWord; simp [hL]
     | succ i =>
      simp only [List.getElem_cons_succ]
      have hm : t[i]'(by simpa using hi) ∈ t.takeWhile (fun x => Asc.isWord x.toNat) := by rw [ht]; exact List.getElem_mem _
      exact List.all_eq_true.1 (List.all_takeWhile (l := t) (p := fun x : UInt8 => Asc.isWord x.toNat)) _ hm
   ·rw [if_neg hL] at e; simp at e
set_option maxRecDepth 100000 in
set_option maxHeartbeats 2000000 in
theorem nlen_any (l : List UInt8) (w : World) (hk : Kinds w) (hml : l.length ≤ 9223372036854775807) :
  Calls Tryd.prog 72 #[.string ⟨l.toArray⟩] w fun e w' => e = .returned (.int .i64 (nlen l)) ∧ w = w' := by
 rcases Nat.eq_zero_or_pos l.length with h0 | hpos
 ·obtain rfl := List.length_eq_zero_iff.1 h0
  clear h0 hml
  go_enter Tryd.func72, Tryd.ntmps72
  go_wp2_with fail
  go_ret
  exact ⟨rfl, rfl⟩
 ·have e2 : (l.isEmpty) = false := by cases l with | nil => simp at hpos | cons a b => rfl
  obtain ⟨c0, ⟨_, hx0⟩, hc0, hb0⟩ := byte_at l 0 hpos
  have HL := Lib.hid (letter_any c0 w hb0 hk)
  have HKW := Lib.hid hk
  obtain ⟨R, hR⟩ : ∃ R, nlen l = R := ⟨_, rfl⟩
  have HR := Lib.hid hR
  rw [hR]
  have HC0 := Lib.hid hc0
  clear hk hR hc0
  cases hl : Asc.isLetter c0
  ·have HZ : Hid ((0 : Nat) = R) := Lib.hid (by rw [← HR.out, nlen_no hpos (by rw [HC0.out]; exact hl)])
   rw [hl] at HL
   clear hl
   go_enter Tryd.func72, Tryd.ntmps72
   go_wp2_with (go_at_call 86; refine HL.out.mono ?_; rintro e w' ⟨rfl, rfl⟩)
   go_ret
   exact ⟨ret_int (by rw [← HZ.out]; rfl), rfl⟩
  ·have HA : Hid (∀ k, 1 ≤ k → k ≤ l.length → (∀ i (h : i < l.length), 1 ≤ i → i < k → Asc.isWord (l[i]).toNat = true) → (∀ h : k < l.length, Asc.isWord (l[k]).toNat = false) → (if 32 < k then 0 else k) = R) :=
    Lib.hid (fun k h1 h2 h3 h4 => by rw [← HR.out, nlen_at h1 h2 (by rw [HC0.out]; exact hl) h3 h4])
   rw [hl] at HL
   clear hl hx0
   obtain ⟨c0', ⟨_, hx0⟩, hc0', _⟩ := byte_at l 0 hpos
   have ec : c0' = c0 := hc0'.symm.trans HC0.out
   rw [ec] at hx0
   clear hc0' ec
   go_enter Tryd.func72, Tryd.ntmps72
   go_wp2_with (go_at_call 86; refine HL.out.mono ?_; rintro e w' ⟨rfl, rfl⟩)
   go_loop [3] (fun i => ∃ k : Nat, 1 ≤ k ∧ k ≤ l.length ∧ i = .int .i64 k ∧ Hid (∀ i (h : i < l.length), 1 ≤ i → i < k → Asc.isWord (l[i]).toNat = true)) (fun i => l.length - (intOf i).toNat)
   case atStart => exact ⟨1, by omega, by omega, rfl, Lib.hid (fun _ _ _ _ => by omega)⟩
   case round =>
    obtain ⟨k, hk1, hkl, rfl, HALL⟩ := hrel
    by_cases hlt : k < l.length
    ·obtain ⟨c, ⟨_, hx⟩, hc, hb⟩ := byte_at l k hlt
     have HC := Lib.hid hc
     have HW := Lib.hid (word_any c w hb HKW.out)
     clear hc hx0
     cases hw : Asc.isWord c
     ·have HZ : Hid ((if 32 < k then 0 else k) = R) := Lib.hid (HA.out k hk1 hkl HALL.out (fun _ => by rw [HC.out]; exact hw))
      rw [hw] at HW
      clear hw
      by_cases h32 : 32 < k
      ·have z1 : decide ((32 : Int) < (k : Int)) = true := decide_eq_true (by omega)
       have HZ2 : Hid ((0 : Nat) = R) := Lib.hid (by rw [← HZ.out, if_pos h32])
       go_wp2_with (go_at_call 87; refine HW.out.mono ?_; rintro e w' ⟨rfl, rfl⟩)
       go_ret
       exact ⟨ret_int (by rw [← HZ2.out]; rfl), rfl⟩
      ·have z1 : decide ((32 : Int) < (k : Int)) = false := decide_eq_false (by omega)
       have HZ2 : Hid (k = R) := Lib.hid (by rw [← HZ.out, if_neg h32])
       go_wp2_with (go_at_call 87; refine HW.out.mono ?_; rintro e w' ⟨rfl, rfl⟩)
       go_ret
       exact ⟨ret_int (by rw [← HZ2.out]), rfl⟩
     ·have HN : Hid (∀ i (h : i < l.length), 1 ≤ i → i < k + 1 → Asc.isWord (l[i]).toNat = true) := Lib.hid (fun i h h1 h2 => by
       by_cases e : i = k
       ·subst e; rw [HC.out]; exact hw
       ·exact HALL.out i h h1 (by omega))
      rw [hw] at HW
      clear hw
      go_wp2_with (go_at_call 87; refine HW.out.mono ?_; rintro e w' ⟨rfl, rfl⟩)
      go_round
      case rel => exact ⟨k + 1, by omega, by omega, by go_num, HN⟩
      case measure => simp [intOf]; omega
    ·obtain rfl : k = l.length := by omega
     have HZ : Hid ((if 32 < l.length then 0 else l.length) = R) := Lib.hid (HA.out _ hk1 hkl HALL.out (fun hh => by omega))
     by_cases h32 : 32 < l.length
     ·have z1 : decide ((32 : Int) < (l.length : Int)) = true := decide_eq_true (by omega)
      have HZ2 : Hid ((0 : Nat) = R) := Lib.hid (by rw [← HZ.out, if_pos h32])
      go_wp2_with fail
      go_ret
      exact ⟨ret_int (by rw [← HZ2.out]; rfl), rfl⟩
     ·have z1 : decide ((32 : Int) < (l.length : Int)) = false := decide_eq_false (by omega)
      have HZ2 : Hid (l.length = R) := Lib.hid (by rw [← HZ.out, if_neg h32])
      go_wp2_with fail
      go_ret
      exact ⟨ret_int (by rw [← HZ2.out]), rfl⟩
set_option maxRecDepth 100000 in
theorem isname_any (l : List UInt8) (w : World) (hk : Kinds w) (hml : l.length ≤ 9223372036854775807) :
  Calls Tryd.prog 58 #[.string ⟨l.toArray⟩] w fun e w' => e = .returned (.bool (nmB l)) ∧ w = w' := by
 rcases Nat.eq_zero_or_pos l.length with h0 | hpos
 ·obtain rfl := List.length_eq_zero_iff.1 h0
  rw [nmB_no (fun h => by have := h.1; simp at this)]
  clear h0 hml
  go_enter Tryd.func58, Tryd.ntmps58
  go_wp2_with fail
  go_ret
  exact ⟨rfl, rfl⟩
 ·have e2 : (l.isEmpty) = false := by cases l with | nil => simp at hpos | cons a b => rfl
  have HN := Lib.hid (nlen_any l w hk hml)
  have hle := nlen_le l
  have HI := Lib.hid (nm_iff hpos)
  obtain ⟨n, hn⟩ : ∃ n, nlen l = n := ⟨_, rfl⟩
  rw [hn] at HN hle HI
  clear hn hk
  by_cases e : n = l.length
  ·rw [nmB_yes (HI.out.2 e)]
   subst e
   clear hle
   go_enter Tryd.func58, Tryd.ntmps58
   go_wp2_with (go_at_call 72; refine HN.out.mono ?_; rintro e w' ⟨rfl, rfl⟩)
   go_ret
   exact ⟨rfl, rfl⟩
  ·rw [nmB_no (fun h => e (HI.out.1 h))]
   have z1 : ((n : Int) == (l.length : Int)) = false := by rw [beq_eq_false_iff_ne]; omega
   clear HI
   go_enter Tryd.func58, Tryd.ntmps58
   go_wp2_with (go_at_call 72; refine HN.out.mono ?_; rintro e w' ⟨rfl, rfl⟩)
   go_ret
   exact ⟨ret_bool (by first | rfl | simpa using e), rfl⟩
end Go.Proofs.YtihdnlpelfgklaaDoor
namespace Go.Proofs.YtihdnlpelfgklaaDoor
open Go.RowKit
set_option maxRecDepth 100000 in
set_option maxHeartbeats 2000000 in
theorem rname_any (l : List UInt8) (w : World) (hml : l.length ≤ 9223372036854775807) :
  Calls Tryd.prog 44 #[.string ⟨l.toArray⟩, .int .i64 32] w fun e w' => e = .returned (.bool (nmB l)) ∧ w = w' := by
 rcases Nat.eq_zero_or_pos l.length with h0 | hpos
 ·obtain rfl := List.length_eq_zero_iff.1 h0
  rw [nmB_no (fun h => by have := h.1; simp at this)]
  clear h0 hml
  go_enter Tryd.func44, Tryd.ntmps44
  go_wp2_with fail
  go_ret
  exact ⟨rfl, rfl⟩
 ·have z0 : decide ((l.length : Int) < 1) = false := decide_eq_false (by omega)
  by_cases h32 : 32 < l.length
  ·have z1 : decide ((32 : Int) < (l.length : Int)) = true := decide_eq_true (by omega)
   rw [nmB_no (fun h => by have := h.2.1; omega)]
   go_enter Tryd.func44, Tryd.ntmps44
   go_wp2_with fail
   go_ret
   exact ⟨rfl, rfl⟩
  ·have z1 : decide ((32 : Int) < (l.length : Int)) = false := decide_eq_false (by omega)
   obtain ⟨c0, ⟨_, hx0⟩, hc0, hb0⟩ := byte_at l 0 hpos
   have HL := Lib.hid (rletter_any c0 w hb0)
   obtain ⟨R, hR⟩ : ∃ R, nmB l = R := ⟨_, rfl⟩
   have HR := Lib.hid hR
   rw [hR]
   have HC0 := Lib.hid hc0
   clear hR hc0
   cases hl : Asc.isLetter c0
   ·have HZ : Hid (false = R) := Lib.hid (by rw [← HR.out, nmB_no (fun h => by have := h.2.2.1 hpos; rw [HC0.out, hl] at this; cases this)])
    rw [hl] at HL
    clear hl
    go_enter Tryd.func44, Tryd.ntmps44
    go_wp2_with (go_at_call 60; refine HL.out.mono ?_; rintro e w' ⟨rfl, rfl⟩)
    go_ret
    exact ⟨ret_bool HZ.out, rfl⟩
   ·have HY : Hid ((∀ i (h : i < l.length), Asc.isWord (l[i]).toNat = true) → true = R) := Lib.hid (fun h => by rw [← HR.out, nmB_yes ⟨hpos, by omega, fun _ => by rw [HC0.out]; exact hl, h⟩])
    have HN : Hid (∀ i (h : i < l.length), Asc.isWord (l[i]).toNat = false → false = R) := Lib.hid (fun i h h2 => by rw [← HR.out, nmB_no (fun hh => by have := hh.2.2.2 i h; rw [h2] at this; cases this)])
    rw [hl] at HL
    clear hl
    go_enter Tryd.func44, Tryd.ntmps44
    go_wp2_with (go_at_call 60; refine HL.out.mono ?_; rintro e w' ⟨rfl, rfl⟩)
    clear hx0
    go_loop [5] (fun i => ∃ k : Nat, k ≤ l.length ∧ i = .int .i64 k ∧ Hid (∀ i (h : i < l.length), i < k → Asc.isWord (l[i]).toNat = true)) (fun i => l.length - (intOf i).toNat)
    case atStart => exact ⟨0, by omega, rfl, Lib.hid (fun _ _ _ => by omega)⟩
    case round =>
     obtain ⟨k, hkl, rfl, HALL⟩ := hrel
     by_cases hlt : k < l.length
     ·obtain ⟨c, ⟨_, hx⟩, hc, hb⟩ := byte_at l k hlt
      have HC := Lib.hid hc
      have HW := Lib.hid (rword_any c w hb)
      clear hc
      cases hw : Asc.isWord c
      ·have HZ : Hid (false = R) := Lib.hid (HN.out k hlt (by rw [HC.out]; exact hw))
       rw [hw] at HW
       clear hw
       go_wp2_with (go_at_call 61; refine HW.out.mono ?_; rintro e w' ⟨rfl, rfl⟩)
       go_ret
       exact ⟨ret_bool HZ.out, rfl⟩
      ·have HNX : Hid (∀ i (h : i < l.length), i < k + 1 → Asc.isWord (l[i]).toNat = true) := Lib.hid (fun i h h2 => by
        by_cases e : i = k
        ·subst e; rw [HC.out]; exact hw
        ·exact HALL.out i h (by omega))
       rw [hw] at HW
       clear hw
       go_wp2_with (go_at_call 61; refine HW.out.mono ?_; rintro e w' ⟨rfl, rfl⟩)
       go_round
       case rel => exact ⟨k + 1, by omega, by go_num, HNX⟩
       case measure => simp [intOf]; omega
     ·obtain rfl : k = l.length := by omega
      have HZ : Hid (true = R) := Lib.hid (HY.out (fun i h => HALL.out i h h))
      go_wp2_with fail
      go_ret
      exact ⟨ret_bool HZ.out, rfl⟩
noncomputable def shpB (op : Int) (rs : List (UInt8 × UInt8)) (nm : List UInt8) (n : Nat) (mn mx : Int) : Bool :=
 if op = 0 ∨ op = 6 ∨ op = 7 then decide (n = 0) && (decide (rs.length = 0) && (decide (nm.length = 0) && decide (mn = 0 ∧ mx = 0)))
 else if op = 1 then decide (n = 0) && (srtB rs && (decide (nm.length = 0) && decide (mn = 0 ∧ mx = 0)))
 else if op = 2 ∨ op = 3 then decide (2 ≤ n) && (decide (rs.length = 0) && (decide (nm.length = 0) && decide (mn = 0 ∧ mx = 0)))
 else if op = 4 then decide (n = 1) && (decide (rs.length = 0) && decide (nm.length = 0))
 else if op = 5 then decide (n = 1) && (decide (rs.length = 0) && decide (mn = 0 ∧ mx = 0))
 else false
end Go.Proofs.YtihdnlpelfgklaaDoor
namespace Go.Proofs.YtihdnlpelfgklaaDoor
open Go.RowKit
noncomputable def bareB (op : Int) (rs : List (UInt8 × UInt8)) (nm : List UInt8) (mn mx : Int) : Bool :=
 (decide (op = 1) || decide (rs.length = 0)) && ((decide (op = 5) || decide (nm.length = 0)) && (decide (op = 4) || decide (mn = 0 ∧ mx = 0)))
set_option maxRecDepth 100000 in
set_option maxHeartbeats 4000000 in
theorem bare_1 (rs : List (UInt8 × UInt8)) (nm : List UInt8) (n : Nat) (mn mx : Int) (ra : Option Addr) (rc : Nat) (a : Option Addr) (c : Nat) (w : World) :
  Calls Tryd.prog 43 #[.agg #[.int .i64 1, .slice ra rs.length rc, .string ⟨nm.toArray⟩, .slice a n c, .int .i64 mn, .int .i64 mx]] w fun e w' => e = .returned (.bool (bareB 1 rs nm mn mx)) ∧ Below w.heap.size w w' := by
 obtain ⟨B, hB⟩ : ∃ B, bareB 1 rs nm mn mx = B := ⟨_, rfl⟩
 rw [hB]
 have HB := Lib.hid hB
 have HB0 := Lib.hid ((Below.refl _ w).alloc (Nat.le_refl _) (.cells #[.int .i64 1, .slice ra rs.length rc, .string ⟨nm.toArray⟩, .slice a n c, .int .i64 mn, .int .i64 mx] 29))
 clear hB
 cases nm with
 | nil =>
  by_cases m0 : mn = 0
  ·have b1 : (mn == 0) = true := by simpa using m0
   by_cases m1 : mx = 0
   ·have b2 : (mx == 0) = true := by simpa using m1
    have HX : Hid (true = B) := Lib.hid (by rw [← HB.out]; unfold bareB; simp [*])
    (try clear r0); (try clear m0); (try clear m1)
    go_enter Tryd.func43, Tryd.ntmps43
    go_wp2_with fail
    go_ret
    exact ⟨ret_bool HX.out, HB0.out⟩
   ·have b2 : (mx == 0) = false := by simpa using m1
    have HX : Hid (false = B) := Lib.hid (by rw [← HB.out]; unfold bareB; simp [*])
    (try clear r0); (try clear m0); (try clear m1)
    go_enter Tryd.func43, Tryd.ntmps43
    go_wp2_with fail
    go_ret
    exact ⟨ret_bool HX.out, HB0.out⟩
  ·have b1 : (mn == 0) = false := by simpa using m0
   have HX : Hid (false = B) := Lib.hid (by rw [← HB.out]; unfold bareB; simp [*])
   (try clear r0); (try clear m0); (try clear m1)
   go_enter Tryd.func43, Tryd.ntmps43
   go_wp2_with fail
   go_ret
   exact ⟨ret_bool HX.out, HB0.out⟩
 | cons x xs =>
  have HX : Hid (false = B) := Lib.hid (by rw [← HB.out]; unfold bareB; simp [*])
  (try clear r0); (try clear m0); (try clear m1)
  go_enter Tryd.func43, Tryd.ntmps43
  go_wp2_with fail
  go_ret
  exact ⟨ret_bool HX.out, HB0.out⟩
set_option maxRecDepth 100000 in
set_option maxHeartbeats 4000000 in
theorem bare_4 (rs : List (UInt8 × UInt8)) (nm : List UInt8) (n : Nat) (mn mx : Int) (ra : Option Addr) (rc : Nat) (a : Option Addr) (c : Nat) (w : World) :
  Calls Tryd.prog 43 #[.agg #[.int .i64 4, .slice ra rs.length rc, .string ⟨nm.toArray⟩, .slice a n c, .int .i64 mn, .int .i64 mx]] w fun e w' => e = .returned (.bool (bareB 4 rs nm mn mx)) ∧ Below w.heap.size w w' := by
 obtain ⟨B, hB⟩ : ∃ B, bareB 4 rs nm mn mx = B := ⟨_, rfl⟩
 rw [hB]
 have HB := Lib.hid hB
 have HB0 := Lib.hid ((Below.refl _ w).alloc (Nat.le_refl _) (.cells #[.int .i64 4, .slice ra rs.length rc, .string ⟨nm.toArray⟩, .slice a n c, .int .i64 mn, .int .i64 mx] 29))
 clear hB
 by_cases r0 : rs.length = 0
 ·have y2 : ((rs.length : Int) == 0) = true := by rw [beq_iff_eq]; omega
  cases nm with
  | nil =>
   have HX : Hid (true = B) := Lib.hid (by rw [← HB.out]; unfold bareB; simp [*])
   (try clear r0); (try clear m0); (try clear m1)
   go_enter Tryd.func43, Tryd.ntmps43
   go_wp2_with fail
   go_ret
   exact ⟨ret_bool HX.out, HB0.out⟩
  | cons x xs =>
   have HX : Hid (false = B) := Lib.hid (by rw [← HB.out]; unfold bareB; simp [*])
   (try clear r0); (try clear m0); (try clear m1)
   go_enter Tryd.func43, Tryd.ntmps43
   go_wp2_with fail
   go_ret
   exact ⟨ret_bool HX.out, HB0.out⟩
 ·have y2 : ((rs.length : Int) == 0) = false := by rw [beq_eq_false_iff_ne]; omega
  have HX : Hid (false = B) := Lib.hid (by rw [← HB.out]; unfold bareB; simp [*])
  (try clear r0); (try clear m0); (try clear m1)
  go_enter Tryd.func43, Tryd.ntmps43
  go_wp2_with fail
  go_ret
  exact ⟨ret_bool HX.out, HB0.out⟩
set_option maxRecDepth 100000 in
set_option maxHeartbeats 4000000 in
theorem bare_5 (rs : List (UInt8 × UInt8)) (nm : List UInt8) (n : Nat) (mn mx : Int) (ra : Option Addr) (rc : Nat) (a : Option Addr) (c : Nat) (w : World) :
  Calls Tryd.prog 43 #[.agg #[.int .i64 5, .slice ra rs.length rc, .string ⟨nm.toArray⟩, .slice a n c, .int .i64 mn, .int .i64 mx]] w fun e w' => e = .returned (.bool (bareB 5 rs nm mn mx)) ∧ Below w.heap.size w w' := by
 obtain ⟨B, hB⟩ : ∃ B, bareB 5 rs nm mn mx = B := ⟨_, rfl⟩
 rw [hB]
 have HB := Lib.hid hB
 have HB0 := Lib.hid ((Below.refl _ w).alloc (Nat.le_refl _) (.cells #[.int .i64 5, .slice ra rs.length rc, .string ⟨nm.toArray⟩, .slice a n c, .int .i64 mn, .int .i64 mx] 29))
 clear hB
 by_cases r0 : rs.length = 0
 ·have y2 : ((rs.length : Int) == 0) = true := by rw [beq_iff_eq]; omega
  by_cases m0 : mn = 0
  ·have b1 : (mn == 0) = true := by simpa using m0
   by_cases m1 : mx = 0
   ·have b2 : (mx == 0) = true := by simpa using m1
    have HX : Hid (true = B) := Lib.hid (by rw [← HB.out]; unfold bareB; simp [*])
    (try clear r0); (try clear m0); (try clear m1)
    go_enter Tryd.func43, Tryd.ntmps43
    go_wp2_with fail
    go_ret
    exact ⟨ret_bool HX.out, HB0.out⟩
   ·have b2 : (mx == 0) = false := by simpa using m1
    have HX : Hid (false = B) := Lib.hid (by rw [← HB.out]; unfold bareB; simp [*])
    (try clear r0); (try clear m0); (try clear m1)
    go_enter Tryd.func43, Tryd.ntmps43
    go_wp2_with fail
    go_ret
    exact ⟨ret_bool HX.out, HB0.out⟩
  ·have b1 : (mn == 0) = false := by simpa using m0
   have HX : Hid (false = B) := Lib.hid (by rw [← HB.out]; unfold bareB; simp [*])
   (try clear r0); (try clear m0); (try clear m1)
   go_enter Tryd.func43, Tryd.ntmps43
   go_wp2_with fail
   go_ret
   exact ⟨ret_bool HX.out, HB0.out⟩
 ·have y2 : ((rs.length : Int) == 0) = false := by rw [beq_eq_false_iff_ne]; omega
  have HX : Hid (false = B) := Lib.hid (by rw [← HB.out]; unfold bareB; simp [*])
  (try clear r0); (try clear m0); (try clear m1)
  go_enter Tryd.func43, Tryd.ntmps43
  go_wp2_with fail
  go_ret
  exact ⟨ret_bool HX.out, HB0.out⟩
set_option maxRecDepth 100000 in
set_option maxHeartbeats 4000000 in
theorem bare_no (op : Int) (rs : List (UInt8 × UInt8)) (nm : List UInt8) (n : Nat) (mn mx : Int) (ra : Option Addr) (rc : Nat) (a : Option Addr) (c : Nat) (w : World) (h1 : op ≠ 1) (h4 : op ≠ 4) (h5 : op ≠ 5) :
  Calls Tryd.prog 43 #[.agg #[.int .i64 op, .slice ra rs.length rc, .string ⟨nm.toArray⟩, .slice a n c, .int .i64 mn, .int .i64 mx]] w fun e w' => e = .returned (.bool (bareB op rs nm mn mx)) ∧ Below w.heap.size w w' := by
 obtain ⟨B, hB⟩ : ∃ B, bareB op rs nm mn mx = B := ⟨_, rfl⟩
 rw [hB]
 have HB := Lib.hid hB
 have HB0 := Lib.hid ((Below.refl _ w).alloc (Nat.le_refl _) (.cells #[.int .i64 op, .slice ra rs.length rc, .string ⟨nm.toArray⟩, .slice a n c, .int .i64 mn, .int .i64 mx] 29))
 clear hB
 have o1 : (op == 1) = false := by rw [beq_eq_false_iff_ne]; exact h1
 have o4 : (op == 4) = false := by rw [beq_eq_false_iff_ne]; exact h4
 have o5 : (op == 5) = false := by rw [beq_eq_false_iff_ne]; exact h5
 by_cases r0 : rs.length = 0
 ·have y2 : ((rs.length : Int) == 0) = true := by rw [beq_iff_eq]; omega
  cases nm with
  | nil =>
   by_cases m0 : mn = 0
   ·have b1 : (mn == 0) = true := by simpa using m0
    by_cases m1 : mx = 0
    ·have b2 : (mx == 0) = true := by simpa using m1
     have HX : Hid (true = B) := Lib.hid (by rw [← HB.out]; unfold bareB; simp [*])
     (try clear r0); (try clear m0); (try clear m1); clear h1 h4 h5
     go_enter Tryd.func43, Tryd.ntmps43
     go_wp2_with fail
     go_ret
     exact ⟨ret_bool HX.out, HB0.out⟩
    ·have b2 : (mx == 0) = false := by simpa using m1
     have HX : Hid (false = B) := Lib.hid (by rw [← HB.out]; unfold bareB; simp [*])
     (try clear r0); (try clear m0); (try clear m1); clear h1 h4 h5
     go_enter Tryd.func43, Tryd.ntmps43
     go_wp2_with fail
     go_ret
     exact ⟨ret_bool HX.out, HB0.out⟩
   ·have b1 : (mn == 0) = false := by simpa using m0
    have HX : Hid (false = B) := Lib.hid (by rw [← HB.out]; unfold bareB; simp [*])
    (try clear r0); (try clear m0); (try clear m1); clear h1 h4 h5
    go_enter Tryd.func43, Tryd.ntmps43
    go_wp2_with fail
    go_ret
    exact ⟨ret_bool HX.out, HB0.out⟩
  | cons x xs =>
   have HX : Hid (false = B) := Lib.hid (by rw [← HB.out]; unfold bareB; simp [*])
   (try clear r0); (try clear m0); (try clear m1); clear h1 h4 h5
   go_enter Tryd.func43, Tryd.ntmps43
   go_wp2_with fail
   go_ret
   exact ⟨ret_bool HX.out, HB0.out⟩
 ·have y2 : ((rs.length : Int) == 0) = false := by rw [beq_eq_false_iff_ne]; omega
  have HX : Hid (false = B) := Lib.hid (by rw [← HB.out]; unfold bareB; simp [*])
  (try clear r0); (try clear m0); (try clear m1); clear h1 h4 h5
  go_enter Tryd.func43, Tryd.ntmps43
  go_wp2_with fail
  go_ret
  exact ⟨ret_bool HX.out, HB0.out⟩
theorem bare_any (op : Int) (rs : List (UInt8 × UInt8)) (nm : List UInt8) (n : Nat) (mn mx : Int) (ra : Option Addr) (rc : Nat) (a : Option Addr) (c : Nat) (w : World) :
  Calls Tryd.prog 43 #[.agg #[.int .i64 op, .slice ra rs.length rc, .string ⟨nm.toArray⟩, .slice a n c, .int .i64 mn, .int .i64 mx]] w fun e w' => e = .returned (.bool (bareB op rs nm mn mx)) ∧ Below w.heap.size w w' := by
 by_cases h1 : op = 1
 ·subst h1; exact bare_1 rs nm n mn mx ra rc a c w
 by_cases h4 : op = 4
 ·subst h4; exact bare_4 rs nm n mn mx ra rc a c w
 by_cases h5 : op = 5
 ·subst h5; exact bare_5 rs nm n mn mx ra rc a c w
 exact bare_no op rs nm n mn mx ra rc a c w h1 h4 h5
end Go.Proofs.YtihdnlpelfgklaaDoor
namespace Go.Proofs.YtihdnlpelfgklaaDoor
open Go.RowKit
set_option maxRecDepth 100000 in
set_option maxHeartbeats 4000000 in
theorem shape_0 (rs : List (UInt8 × UInt8)) (nm : List UInt8) (n : Nat) (mn mx : Int) (ra : Option Addr) (rc : Nat) (a : Option Addr) (c : Nat) (w : World) (hr : RgAt w rs (.slice ra rs.length rc)) :
  Calls Tryd.prog 57 #[.agg #[.int .i64 0, .slice ra rs.length rc, .string ⟨nm.toArray⟩, .slice a n c, .int .i64 mn, .int .i64 mx]] w fun e w' => e = .returned (.bool (shpB 0 rs nm n mn mx)) ∧ Below w.heap.size w w' := by
 have HRG := Lib.hid fun W (hb : Below w.heap.size w W) => right_any rs (.slice ra rs.length rc) W (hr.later hb)
 obtain ⟨B, hB⟩ : ∃ B, shpB 0 rs nm n mn mx = B := ⟨_, rfl⟩
 rw [hB]
 have HB := Lib.hid hB
 have HB0 := Lib.hid ((Below.refl _ w).alloc (Nat.le_refl _) (.cells #[.int .i64 0, .slice ra rs.length rc, .string ⟨nm.toArray⟩, .slice a n c, .int .i64 mn, .int .i64 mx] 29))
 have hrl : rs.length ≤ 9223372036854775807 := by obtain ⟨_, _, e, h, _⟩ := hr; exact h
 clear hB hr
 by_cases m0 : mn = 0
 ·have b1 : (mn == 0) = true := by simpa using m0
  by_cases m1 : mx = 0
  ·have b2 : (mx == 0) = true := by simpa using m1
   by_cases k0 : n = 0
   ·have y1 : ((n : Int) == 0) = true := by rw [beq_iff_eq]; omega
    by_cases r0 : rs.length = 0
    ·have y2 : ((rs.length : Int) == 0) = true := by rw [beq_iff_eq]; omega
     cases nm with
     | nil =>
      have HX : Hid (true = B) := Lib.hid (by rw [← HB.out]; unfold shpB; simp [*])
      (try clear k0); (try clear m0); (try clear m1); (try clear r0)
      go_enter Tryd.func57, Tryd.ntmps57
      go_wp2_with fail
      go_quiet (fail)
      go_wp2_with fail
      go_ret
      exact ⟨ret_bool (by first | exact HX.out | (rw [← HX.out]; simp [*])), below_drewN HB0.out _⟩
     | cons x xs =>
      have HX : Hid (false = B) := Lib.hid (by rw [← HB.out]; unfold shpB; simp [*])
      (try clear k0); (try clear m0); (try clear m1); (try clear r0)
      go_enter Tryd.func57, Tryd.ntmps57
      go_wp2_with fail
      go_quiet (fail)
      go_wp2_with fail
      go_ret
      exact ⟨ret_bool (by first | exact HX.out | (rw [← HX.out]; simp [*])), below_drewN HB0.out _⟩
    ·have y2 : ((rs.length : Int) == 0) = false := by rw [beq_eq_false_iff_ne]; omega
     have HX : Hid (false = B) := Lib.hid (by rw [← HB.out]; unfold shpB; simp [*])
     (try clear k0); (try clear m0); (try clear m1); (try clear r0)
     go_enter Tryd.func57, Tryd.ntmps57
     go_wp2_with fail
     go_quiet (fail)
     go_wp2_with fail
     go_ret
     exact ⟨ret_bool (by first | exact HX.out | (rw [← HX.out]; simp [*])), below_drewN HB0.out _⟩
   ·have y1 : ((n : Int) == 0) = false := by rw [beq_eq_false_iff_ne]; omega
    have HX : Hid (false = B) := Lib.hid (by rw [← HB.out]; unfold shpB; simp [*])
    (try clear k0); (try clear m0); (try clear m1); (try clear r0)
    go_enter Tryd.func57, Tryd.ntmps57
    go_wp2_with fail
    go_quiet (fail)
    go_wp2_with fail
    go_ret
    exact ⟨ret_bool (by first | exact HX.out | (rw [← HX.out]; simp [*])), below_drewN HB0.out _⟩
  ·have b2 : (mx == 0) = false := by simpa using m1
   by_cases k0 : n = 0
   ·have y1 : ((n : Int) == 0) = true := by rw [beq_iff_eq]; omega
    by_cases r0 : rs.length = 0
    ·have y2 : ((rs.length : Int) == 0) = true := by rw [beq_iff_eq]; omega
     cases nm with
     | nil =>
      have HX : Hid (false = B) := Lib.hid (by rw [← HB.out]; unfold shpB; simp [*])
      (try clear k0); (try clear m0); (try clear m1); (try clear r0)
      go_enter Tryd.func57, Tryd.ntmps57
      go_wp2_with fail
      go_quiet (fail)
      go_wp2_with fail
      go_ret
      exact ⟨ret_bool (by first | exact HX.out | (rw [← HX.out]; simp [*])), below_drewN HB0.out _⟩
     | cons x xs =>
      have HX : Hid (false = B) := Lib.hid (by rw [← HB.out]; unfold shpB; simp [*])
      (try clear k0); (try clear m0); (try clear m1); (try clear r0)
      go_enter Tryd.func57, Tryd.ntmps57
      go_wp2_with fail
      go_quiet (fail)
      go_wp2_with fail
      go_ret
      exact ⟨ret_bool (by first | exact HX.out | (rw [← HX.out]; simp [*])), below_drewN HB0.out _⟩
    ·have y2 : ((rs.length : Int) == 0) = false := by rw [beq_eq_false_iff_ne]; omega
     have HX : Hid (false = B) := Lib.hid (by rw [← HB.out]; unfold shpB; simp [*])
     (try clear k0); (try clear m0); (try clear m1); (try clear r0)
     go_enter Tryd.func57, Tryd.ntmps57
     go_wp2_with fail
     go_quiet (fail)
     go_wp2_with fail
     go_ret
     exact ⟨ret_bool (by first | exact HX.out | (rw [← HX.out]; simp [*])), below_drewN HB0.out _⟩
   ·have y1 : ((n : Int) == 0) = false := by rw [beq_eq_false_iff_ne]; omega
    have HX : Hid (false = B) := Lib.hid (by rw [← HB.out]; unfold shpB; simp [*])
    (try clear k0); (try clear m0); (try clear m1); (try clear r0)
    go_enter Tryd.func57, Tryd.ntmps57
    go_wp2_with fail
    go_quiet (fail)
    go_wp2_with fail
    go_ret
    exact ⟨ret_bool (by first | exact HX.out | (rw [← HX.out]; simp [*])), below_drewN HB0.out _⟩
 ·have b1 : (mn == 0) = false := by simpa using m0
  by_cases k0 : n = 0
  ·have y1 : ((n : Int) == 0) = true := by rw [beq_iff_eq]; omega
   by_cases r0 : rs.length = 0
   ·have y2 : ((rs.length : Int) == 0) = true := by rw [beq_iff_eq]; omega
    cases nm with
    | nil =>
     have HX : Hid (false = B) := Lib.hid (by rw [← HB.out]; unfold shpB; simp [*])
     (try clear k0); (try clear m0); (try clear m1); (try clear r0)
     go_enter Tryd.func57, Tryd.ntmps57
     go_wp2_with fail
     go_quiet (fail)
     go_wp2_with fail
     go_ret
     exact ⟨ret_bool (by first | exact HX.out | (rw [← HX.out]; simp [*])), below_drewN HB0.out _⟩
    | cons x xs =>
     have HX : Hid (false = B) := Lib.hid (by rw [← HB.out]; unfold shpB; simp [*])
     (try clear k0); (try clear m0); (try clear m1); (try clear r0)
     go_enter Tryd.func57, Tryd.ntmps57
     go_wp2_with fail
     go_quiet (fail)
     go_wp2_with fail
     go_ret
     exact ⟨ret_bool (by first | exact HX.out | (rw [← HX.out]; simp [*])), below_drewN HB0.out _⟩
   ·have y2 : ((rs.length : Int) == 0) = false := by rw [beq_eq_false_iff_ne]; omega
    have HX : Hid (false = B) := Lib.hid (by rw [← HB.out]; unfold shpB; simp [*])
    (try clear k0); (try clear m0); (try clear m1); (try clear r0)
    go_enter Tryd.func57, Tryd.ntmps57
    go_wp2_with fail
    go_quiet (fail)
    go_wp2_with fail
    go_ret
    exact ⟨ret_bool (by first | exact HX.out | (rw [← HX.out]; simp [*])), below_drewN HB0.out _⟩
  ·have y1 : ((n : Int) == 0) = false := by rw [beq_eq_false_iff_ne]; omega
   have HX : Hid (false = B) := Lib.hid (by rw [← HB.out]; unfold shpB; simp [*])
   (try clear k0); (try clear m0); (try clear m1); (try clear r0)
   go_enter Tryd.func57, Tryd.ntmps57
   go_wp2_with fail
   go_quiet (fail)
   go_wp2_with fail
   go_ret
   exact ⟨ret_bool (by first | exact HX.out | (rw [← HX.out]; simp [*])), below_drewN HB0.out _⟩
set_option maxRecDepth 100000 in
set_option maxHeartbeats 4000000 in
theorem shape_6 (rs : List (UInt8 × UInt8)) (nm : List UInt8) (n : Nat) (mn mx : Int) (ra : Option Addr) (rc : Nat) (a : Option Addr) (c : Nat) (w : World) (hr : RgAt w rs (.slice ra rs.length rc)) :
  Calls Tryd.prog 57 #[.agg #[.int .i64 6, .slice ra rs.length rc, .string ⟨nm.toArray⟩, .slice a n c, .int .i64 mn, .int .i64 mx]] w fun e w' => e = .returned (.bool (shpB 6 rs nm n mn mx)) ∧ Below w.heap.size w w' := by
 have HRG := Lib.hid fun W (hb : Below w.heap.size w W) => right_any rs (.slice ra rs.length rc) W (hr.later hb)
 obtain ⟨B, hB⟩ : ∃ B, shpB 6 rs nm n mn mx = B := ⟨_, rfl⟩
 rw [hB]
 have HB := Lib.hid hB
 have HB0 := Lib.hid ((Below.refl _ w).alloc (Nat.le_refl _) (.cells #[.int .i64 6, .slice ra rs.length rc, .string ⟨nm.toArray⟩, .slice a n c, .int .i64 mn, .int .i64 mx] 29))
 have hrl : rs.length ≤ 9223372036854775807 := by obtain ⟨_, _, e, h, _⟩ := hr; exact h
 clear hB hr
 by_cases m0 : mn = 0
 ·have b1 : (mn == 0) = true := by simpa using m0
  by_cases m1 : mx = 0
  ·have b2 : (mx == 0) = true := by simpa using m1
   by_cases k0 : n = 0
   ·have y1 : ((n : Int) == 0) = true := by rw [beq_iff_eq]; omega
    by_cases r0 : rs.length = 0
    ·have y2 : ((rs.length : Int) == 0) = true := by rw [beq_iff_eq]; omega
     cases nm with
     | nil =>
      have HX : Hid (true = B) := Lib.hid (by rw [← HB.out]; unfold shpB; simp [*])
      (try clear k0); (try clear m0); (try clear m1); (try clear r0)
      go_enter Tryd.func57, Tryd.ntmps57
      go_wp2_with fail
      go_quiet (fail)
      go_wp2_with fail
      go_ret
      exact ⟨ret_bool (by first | exact HX.out | (rw [← HX.out]; simp [*])), below_drewN HB0.out _⟩
     | cons x xs =>
      have HX : Hid (false = B) := Lib.hid (by rw [← HB.out]; unfold shpB; simp [*])
      (try clear k0); (try clear m0); (try clear m1); (try clear r0)
      go_enter Tryd.func57, Tryd.ntmps57
      go_wp2_with fail
      go_quiet (fail)
      go_wp2_with fail
      go_ret
      exact ⟨ret_bool (by first | exact HX.out | (rw [← HX.out]; simp [*])), below_drewN HB0.out _⟩
    ·have y2 : ((rs.length : Int) == 0) = false := by rw [beq_eq_false_iff_ne]; omega
     have HX : Hid (false = B) := Lib.hid (by rw [← HB.out]; unfold shpB; simp [*])
     (try clear k0); (try clear m0); (try clear m1); (try clear r0)
     go_enter Tryd.func57, Tryd.ntmps57
     go_wp2_with fail
     go_quiet (fail)
     go_wp2_with fail
     go_ret
     exact ⟨ret_bool (by first | exact HX.out | (rw [← HX.out]; simp [*])), below_drewN HB0.out _⟩
   ·have y1 : ((n : Int) == 0) = false := by rw [beq_eq_false_iff_ne]; omega
    have HX : Hid (false = B) := Lib.hid (by rw [← HB.out]; unfold shpB; simp [*])
    (try clear k0); (try clear m0); (try clear m1); (try clear r0)
    go_enter Tryd.func57, Tryd.ntmps57
    go_wp2_with fail
    go_quiet (fail)
    go_wp2_with fail
    go_ret
    exact ⟨ret_bool (by first | exact HX.out | (rw [← HX.out]; simp [*])), below_drewN HB0.out _⟩
  ·have b2 : (mx == 0) = false := by simpa using m1
   by_cases k0 : n = 0
   ·have y1 : ((n : Int) == 0) = true := by rw [beq_iff_eq]; omega
    by_cases r0 : rs.length = 0
    ·have y2 : ((rs.length : Int) == 0) = true := by rw [beq_iff_eq]; omega
     cases nm with
     | nil =>
      have HX : Hid (false = B) := Lib.hid (by rw [← HB.out]; unfold shpB; simp [*])
      (try clear k0); (try clear m0); (try clear m1); (try clear r0)
      go_enter Tryd.func57, Tryd.ntmps57
      go_wp2_with fail
      go_quiet (fail)
      go_wp2_with fail
      go_ret
      exact ⟨ret_bool (by first | exact HX.out | (rw [← HX.out]; simp [*])), below_drewN HB0.out _⟩
     | cons x xs =>
      have HX : Hid (false = B) := Lib.hid (by rw [← HB.out]; unfold shpB; simp [*])
      (try clear k0); (try clear m0); (try clear m1); (try clear r0)
      go_enter Tryd.func57, Tryd.ntmps57
      go_wp2_with fail
      go_quiet (fail)
      go_wp2_with fail
      go_ret
      exact ⟨ret_bool (by first | exact HX.out | (rw [← HX.out]; simp [*])), below_drewN HB0.out _⟩
    ·have y2 : ((rs.length : Int) == 0) = false := by rw [beq_eq_false_iff_ne]; omega
     have HX : Hid (false = B) := Lib.hid (by rw [← HB.out]; unfold shpB; simp [*])
     (try clear k0); (try clear m0); (try clear m1); (try clear r0)
     go_enter Tryd.func57, Tryd.ntmps57
     go_wp2_with fail
     go_quiet (fail)
     go_wp2_with fail
     go_ret
     exact ⟨ret_bool (by first | exact HX.out | (rw [← HX.out]; simp [*])), below_drewN HB0.out _⟩
   ·have y1 : ((n : Int) == 0) = false := by rw [beq_eq_false_iff_ne]; omega
    have HX : Hid (false = B) := Lib.hid (by rw [← HB.out]; unfold shpB; simp [*])
    (try clear k0); (try clear m0); (try clear m1); (try clear r0)
    go_enter Tryd.func57, Tryd.ntmps57
    go_wp2_with fail
    go_quiet (fail)
    go_wp2_with fail
    go_ret
    exact ⟨ret_bool (by first | exact HX.out | (rw [← HX.out]; simp [*])), below_drewN HB0.out _⟩
 ·have b1 : (mn == 0) = false := by simpa using m0
  by_cases k0 : n = 0
  ·have y1 : ((n : Int) == 0) = true := by rw [beq_iff_eq]; omega
   by_cases r0 : rs.length = 0
   ·have y2 : ((rs.length : Int) == 0) = true := by rw [beq_iff_eq]; omega
    cases nm with
    | nil =>
     have HX : Hid (false = B) := Lib.hid (by rw [← HB.out]; unfold shpB; simp [*])
     (try clear k0); (try clear m0); (try clear m1); (try clear r0)
     go_enter Tryd.func57, Tryd.ntmps57
     go_wp2_with fail
     go_quiet (fail)
     go_wp2_with fail
     go_ret
     exact ⟨ret_bool (by first | exact HX.out | (rw [← HX.out]; simp [*])), below_drewN HB0.out _⟩
    | cons x xs =>
     have HX : Hid (false = B) := Lib.hid (by rw [← HB.out]; unfold shpB; simp [*])
     (try clear k0); (try clear m0); (try clear m1); (try clear r0)
     go_enter Tryd.func57, Tryd.ntmps57
     go_wp2_with fail
     go_quiet (fail)
     go_wp2_with fail
     go_ret
     exact ⟨ret_bool (by first | exact HX.out | (rw [← HX.out]; simp [*])), below_drewN HB0.out _⟩
   ·have y2 : ((rs.length : Int) == 0) = false := by rw [beq_eq_false_iff_ne]; omega
    have HX : Hid (false = B) := Lib.hid (by rw [← HB.out]; unfold shpB; simp [*])
    (try clear k0); (try clear m0); (try clear m1); (try clear r0)
    go_enter Tryd.func57, Tryd.ntmps57
    go_wp2_with fail
    go_quiet (fail)
    go_wp2_with fail
    go_ret
    exact ⟨ret_bool (by first | exact HX.out | (rw [← HX.out]; simp [*])), below_drewN HB0.out _⟩
  ·have y1 : ((n : Int) == 0) = false := by rw [beq_eq_false_iff_ne]; omega
   have HX : Hid (false = B) := Lib.hid (by rw [← HB.out]; unfold shpB; simp [*])
   (try clear k0); (try clear m0); (try clear m1); (try clear r0)
   go_enter Tryd.func57, Tryd.ntmps57
   go_wp2_with fail
   go_quiet (fail)
   go_wp2_with fail
   go_ret
   exact ⟨ret_bool (by first | exact HX.out | (rw [← HX.out]; simp [*])), below_drewN HB0.out _⟩
set_option maxRecDepth 100000 in
set_option maxHeartbeats 4000000 in
theorem shape_7 (rs : List (UInt8 × UInt8)) (nm : List UInt8) (n : Nat) (mn mx : Int) (ra : Option Addr) (rc : Nat) (a : Option Addr) (c : Nat) (w : World) (hr : RgAt w rs (.slice ra rs.length rc)) :
  Calls Tryd.prog 57 #[.agg #[.int .i64 7, .slice ra rs.length rc, .string ⟨nm.toArray⟩, .slice a n c, .int .i64 mn, .int .i64 mx]] w fun e w' => e = .returned (.bool (shpB 7 rs nm n mn mx)) ∧ Below w.heap.size w w' := by
 have HRG := Lib.hid fun W (hb : Below w.heap.size w W) => right_any rs (.slice ra rs.length rc) W (hr.later hb)
 obtain ⟨B, hB⟩ : ∃ B, shpB 7 rs nm n mn mx = B := ⟨_, rfl⟩
 rw [hB]
 have HB := Lib.hid hB
 have HB0 := Lib.hid ((Below.refl _ w).alloc (Nat.le_refl _) (.cells #[.int .i64 7, .slice ra rs.length rc, .string ⟨nm.toArray⟩, .slice a n c, .int .i64 mn, .int .i64 mx] 29))
 have hrl : rs.length ≤ 9223372036854775807 := by obtain ⟨_, _, e, h, _⟩ := hr; exact h
 clear hB hr
 by_cases m0 : mn = 0
 ·have b1 : (mn == 0) = true := by simpa using m0
  by_cases m1 : mx = 0
  ·have b2 : (mx == 0) = true := by simpa using m1
   by_cases k0 : n = 0
   ·have y1 : ((n : Int) == 0) = true := by rw [beq_iff_eq]; omega
    by_cases r0 : rs.length = 0
    ·have y2 : ((rs.length : Int) == 0) = true := by rw [beq_iff_eq]; omega
     cases nm with
     | nil =>
      have HX : Hid (true = B) := Lib.hid (by rw [← HB.out]; unfold shpB; simp [*])
      (try clear k0); (try clear m0); (try clear m1); (try clear r0)
      go_enter Tryd.func57, Tryd.ntmps57
      go_wp2_with fail
      go_quiet (fail)
      go_wp2_with fail
      go_ret
      exact ⟨ret_bool (by first | exact HX.out | (rw [← HX.out]; simp [*])), below_drewN HB0.out _⟩
     | cons x xs =>
      have HX : Hid (false = B) := Lib.hid (by rw [← HB.out]; unfold shpB; simp [*])
      (try clear k0); (try clear m0); (try clear m1); (try clear r0)
      go_enter Tryd.func57, Tryd.ntmps57
      go_wp2_with fail
      go_quiet (fail)
      go_wp2_with fail
      go_ret
      exact ⟨ret_bool (by first | exact HX.out | (rw [← HX.out]; simp [*])), below_drewN HB0.out _⟩
    ·have y2 : ((rs.length : Int) == 0) = false := by rw [beq_eq_false_iff_ne]; omega
     have HX : Hid (false = B) := Lib.hid (by rw [← HB.out]; unfold shpB; simp [*])
     (try clear k0); (try clear m0); (try clear m1); (try clear r0)
     go_enter Tryd.func57, Tryd.ntmps57
     go_wp2_with fail
     go_quiet (fail)
     go_wp2_with fail
     go_ret
     exact ⟨ret_bool (by first | exact HX.out | (rw [← HX.out]; simp [*])), below_drewN HB0.out _⟩
   ·have y1 : ((n : Int) == 0) = false := by rw [beq_eq_false_iff_ne]; omega
    have HX : Hid (false = B) := Lib.hid (by rw [← HB.out]; unfold shpB; simp [*])
    (try clear k0); (try clear m0); (try clear m1); (try clear r0)
    go_enter Tryd.func57, Tryd.ntmps57
    go_wp2_with fail
    go_quiet (fail)
    go_wp2_with fail
    go_ret
    exact ⟨ret_bool (by first | exact HX.out | (rw [← HX.out]; simp [*])), below_drewN HB0.out _⟩
  ·have b2 : (mx == 0) = false := by simpa using m1
   by_cases k0 : n = 0
   ·have y1 : ((n : Int) == 0) = true := by rw [beq_iff_eq]; omega
    by_cases r0 : rs.length = 0
    ·have y2 : ((rs.length : Int) == 0) = true := by rw [beq_iff_eq]; omega
     cases nm with
     | nil =>
      have HX : Hid (false = B) := Lib.hid (by rw [← HB.out]; unfold shpB; simp [*])
      (try clear k0); (try clear m0); (try clear m1); (try clear r0)
      go_enter Tryd.func57, Tryd.ntmps57
      go_wp2_with fail
      go_quiet (fail)
      go_wp2_with fail
      go_ret
      exact ⟨ret_bool (by first | exact HX.out | (rw [← HX.out]; simp [*])), below_drewN HB0.out _⟩
     | cons x xs =>
      have HX : Hid (false = B) := Lib.hid (by rw [← HB.out]; unfold shpB; simp [*])
      (try clear k0); (try clear m0); (try clear m1); (try clear r0)
      go_enter Tryd.func57, Tryd.ntmps57
      go_wp2_with fail
      go_quiet (fail)
      go_wp2_with fail
      go_ret
      exact ⟨ret_bool (by first | exact HX.out | (rw [← HX.out]; simp [*])), below_drewN HB0.out _⟩
    ·have y2 : ((rs.length : Int) == 0) = false := by rw [beq_eq_false_iff_ne]; omega
     have HX : Hid (false = B) := Lib.hid (by rw [← HB.out]; unfold shpB; simp [*])
     (try clear k0); (try clear m0); (try clear m1); (try clear r0)
     go_enter Tryd.func57, Tryd.ntmps57
     go_wp2_with fail
     go_quiet (fail)
     go_wp2_with fail
     go_ret
     exact ⟨ret_bool (by first | exact HX.out | (rw [← HX.out]; simp [*])), below_drewN HB0.out _⟩
   ·have y1 : ((n : Int) == 0) = false := by rw [beq_eq_false_iff_ne]; omega
    have HX : Hid (false = B) := Lib.hid (by rw [← HB.out]; unfold shpB; simp [*])
    (try clear k0); (try clear m0); (try clear m1); (try clear r0)
    go_enter Tryd.func57, Tryd.ntmps57
    go_wp2_with fail
    go_quiet (fail)
    go_wp2_with fail
    go_ret
    exact ⟨ret_bool (by first | exact HX.out | (rw [← HX.out]; simp [*])), below_drewN HB0.out _⟩
 ·have b1 : (mn == 0) = false := by simpa using m0
  by_cases k0 : n = 0
  ·have y1 : ((n : Int) == 0) = true := by rw [beq_iff_eq]; omega
   by_cases r0 : rs.length = 0
   ·have y2 : ((rs.length : Int) == 0) = true := by rw [beq_iff_eq]; omega
    cases nm with
    | nil =>
     have HX : Hid (false = B) := Lib.hid (by rw [← HB.out]; unfold shpB; simp [*])
     (try clear k0); (try clear m0); (try clear m1); (try clear r0)
     go_enter Tryd.func57, Tryd.ntmps57
     go_wp2_with fail
     go_quiet (fail)
     go_wp2_with fail
     go_ret
     exact ⟨ret_bool (by first | exact HX.out | (rw [← HX.out]; simp [*])), below_drewN HB0.out _⟩
    | cons x xs =>
     have HX : Hid (false = B) := Lib.hid (by rw [← HB.out]; unfold shpB; simp [*])
     (try clear k0); (try clear m0); (try clear m1); (try clear r0)
     go_enter Tryd.func57, Tryd.ntmps57
     go_wp2_with fail
     go_quiet (fail)
     go_wp2_with fail
     go_ret
     exact ⟨ret_bool (by first | exact HX.out | (rw [← HX.out]; simp [*])), below_drewN HB0.out _⟩
   ·have y2 : ((rs.length : Int) == 0) = false := by rw [beq_eq_false_iff_ne]; omega
    have HX : Hid (false = B) := Lib.hid (by rw [← HB.out]; unfold shpB; simp [*])
    (try clear k0); (try clear m0); (try clear m1); (try clear r0)
    go_enter Tryd.func57, Tryd.ntmps57
    go_wp2_with fail
    go_quiet (fail)
    go_wp2_with fail
    go_ret
    exact ⟨ret_bool (by first | exact HX.out | (rw [← HX.out]; simp [*])), below_drewN HB0.out _⟩
  ·have y1 : ((n : Int) == 0) = false := by rw [beq_eq_false_iff_ne]; omega
   have HX : Hid (false = B) := Lib.hid (by rw [← HB.out]; unfold shpB; simp [*])
   (try clear k0); (try clear m0); (try clear m1); (try clear r0)
   go_enter Tryd.func57, Tryd.ntmps57
   go_wp2_with fail
   go_quiet (fail)
   go_wp2_with fail
   go_ret
   exact ⟨ret_bool (by first | exact HX.out | (rw [← HX.out]; simp [*])), below_drewN HB0.out _⟩
end Go.Proofs.YtihdnlpelfgklaaDoor
namespace Go.Proofs.YtihdnlpelfgklaaDoor
open Go.RowKit
set_option maxRecDepth 100000 in
set_option maxHeartbeats 4000000 in
theorem shape_1 (rs : List (UInt8 × UInt8)) (nm : List UInt8) (n : Nat) (mn mx : Int) (ra : Option Addr) (rc : Nat) (a : Option Addr) (c : Nat) (w : World) (hr : RgAt w rs (.slice ra rs.length rc)) :
  Calls Tryd.prog 57 #[.agg #[.int .i64 1, .slice ra rs.length rc, .string ⟨nm.toArray⟩, .slice a n c, .int .i64 mn, .int .i64 mx]] w fun e w' => e = .returned (.bool (shpB 1 rs nm n mn mx)) ∧ Below w.heap.size w w' := by
 have HRG := Lib.hid fun W (hb : Below w.heap.size w W) => right_any rs (.slice ra rs.length rc) W (hr.later hb)
 obtain ⟨B, hB⟩ : ∃ B, shpB 1 rs nm n mn mx = B := ⟨_, rfl⟩
 rw [hB]
 have HB := Lib.hid hB
 have HB0 := Lib.hid ((Below.refl _ w).alloc (Nat.le_refl _) (.cells #[.int .i64 1, .slice ra rs.length rc, .string ⟨nm.toArray⟩, .slice a n c, .int .i64 mn, .int .i64 mx] 29))
 have hrl : rs.length ≤ 9223372036854775807 := by obtain ⟨_, _, e, h, _⟩ := hr; exact h
 clear hB hr
 by_cases m0 : mn = 0
 ·have b1 : (mn == 0) = true := by simpa using m0
  by_cases m1 : mx = 0
  ·have b2 : (mx == 0) = true := by simpa using m1
   by_cases k0 : n = 0
   ·have y1 : ((n : Int) == 0) = true := by rw [beq_iff_eq]; omega
    cases r0 : srtB rs
    ·rw [r0] at HRG
     have HX : Hid (false = B) := Lib.hid (by rw [← HB.out]; unfold shpB; simp [*])
     (try clear k0); (try clear m0); (try clear m1); (try clear r0)
     go_enter Tryd.func57, Tryd.ntmps57
     go_wp2_with fail
     go_quiet (fail)
     go_wp2_with fail
     refine (HRG.out _ (below_drewN HB0.out nq)).mono ?_
     rintro e w2 ⟨rfl, hb2⟩
     have HB2 := Lib.hid ((below_drewN HB0.out nq).trans (hb2.mono HB0.out.size))
     go_wp2_with fail
     go_ret
     exact ⟨ret_bool (by first | exact HX.out | (rw [← HX.out]; simp [*])), HB2.out⟩
    ·rw [r0] at HRG
     cases nm with
     | nil =>
      have HX : Hid (true = B) := Lib.hid (by rw [← HB.out]; unfold shpB; simp [*])
      (try clear k0); (try clear m0); (try clear m1); (try clear r0)
      go_enter Tryd.func57, Tryd.ntmps57
      go_wp2_with fail
      go_quiet (fail)
      go_wp2_with fail
      refine (HRG.out _ (below_drewN HB0.out nq)).mono ?_
      rintro e w2 ⟨rfl, hb2⟩
      have HB2 := Lib.hid ((below_drewN HB0.out nq).trans (hb2.mono HB0.out.size))
      go_wp2_with fail
      go_ret
      exact ⟨ret_bool (by first | exact HX.out | (rw [← HX.out]; simp [*])), HB2.out⟩
     | cons x xs =>
      have HX : Hid (false = B) := Lib.hid (by rw [← HB.out]; unfold shpB; simp [*])
      (try clear k0); (try clear m0); (try clear m1); (try clear r0)
      go_enter Tryd.func57, Tryd.ntmps57
      go_wp2_with fail
      go_quiet (fail)
      go_wp2_with fail
      refine (HRG.out _ (below_drewN HB0.out nq)).mono ?_
      rintro e w2 ⟨rfl, hb2⟩
      have HB2 := Lib.hid ((below_drewN HB0.out nq).trans (hb2.mono HB0.out.size))
      go_wp2_with fail
      go_ret
      exact ⟨ret_bool (by first | exact HX.out | (rw [← HX.out]; simp [*])), HB2.out⟩
   ·have y1 : ((n : Int) == 0) = false := by rw [beq_eq_false_iff_ne]; omega
    have r0 : srtB rs = srtB rs := rfl
    clear r0
    have HX : Hid (false = B) := Lib.hid (by rw [← HB.out]; unfold shpB; simp [*])
    (try clear k0); (try clear m0); (try clear m1); (try clear r0)
    go_enter Tryd.func57, Tryd.ntmps57
    go_wp2_with fail
    go_quiet (fail)
    go_wp2_with fail
    refine (HRG.out _ (below_drewN HB0.out nq)).mono ?_
    rintro e w2 ⟨rfl, hb2⟩
    have HB2 := Lib.hid ((below_drewN HB0.out nq).trans (hb2.mono HB0.out.size))
    go_wp2_with fail
    go_ret
    exact ⟨ret_bool (by first | exact HX.out | (rw [← HX.out]; simp [*])), HB2.out⟩
  ·have b2 : (mx == 0) = false := by simpa using m1
   by_cases k0 : n = 0
   ·have y1 : ((n : Int) == 0) = true := by rw [beq_iff_eq]; omega
    cases r0 : srtB rs
    ·rw [r0] at HRG
     have HX : Hid (false = B) := Lib.hid (by rw [← HB.out]; unfold shpB; simp [*])
     (try clear k0); (try clear m0); (try clear m1); (try clear r0)
     go_enter Tryd.func57, Tryd.ntmps57
     go_wp2_with fail
     go_quiet (fail)
     go_wp2_with fail
     refine (HRG.out _ (below_drewN HB0.out nq)).mono ?_
     rintro e w2 ⟨rfl, hb2⟩
     have HB2 := Lib.hid ((below_drewN HB0.out nq).trans (hb2.mono HB0.out.size))
     go_wp2_with fail
     go_ret
     exact ⟨ret_bool (by first | exact HX.out | (rw [← HX.out]; simp [*])), HB2.out⟩
    ·rw [r0] at HRG
     cases nm with
     | nil =>
      have HX : Hid (false = B) := Lib.hid (by rw [← HB.out]; unfold shpB; simp [*])
      (try clear k0); (try clear m0); (try clear m1); (try clear r0)
      go_enter Tryd.func57, Tryd.ntmps57
      go_wp2_with fail
      go_quiet (fail)
      go_wp2_with fail
      refine (HRG.out _ (below_drewN HB0.out nq)).mono ?_
      rintro e w2 ⟨rfl, hb2⟩
      have HB2 := Lib.hid ((below_drewN HB0.out nq).trans (hb2.mono HB0.out.size))
      go_wp2_with fail
      go_ret
      exact ⟨ret_bool (by first | exact HX.out | (rw [← HX.out]; simp [*])), HB2.out⟩
     | cons x xs =>
      have HX : Hid (false = B) := Lib.hid (by rw [← HB.out]; unfold shpB; simp [*])
      (try clear k0); (try clear m0); (try clear m1); (try clear r0)
      go_enter Tryd.func57, Tryd.ntmps57
      go_wp2_with fail
      go_quiet (fail)
      go_wp2_with fail
      refine (HRG.out _ (below_drewN HB0.out nq)).mono ?_
      rintro e w2 ⟨rfl, hb2⟩
      have HB2 := Lib.hid ((below_drewN HB0.out nq).trans (hb2.mono HB0.out.size))
      go_wp2_with fail
      go_ret
      exact ⟨ret_bool (by first | exact HX.out | (rw [← HX.out]; simp [*])), HB2.out⟩
   ·have y1 : ((n : Int) == 0) = false := by rw [beq_eq_false_iff_ne]; omega
    have r0 : srtB rs = srtB rs := rfl
    clear r0
    have HX : Hid (false = B) := Lib.hid (by rw [← HB.out]; unfold shpB; simp [*])
    (try clear k0); (try clear m0); (try clear m1); (try clear r0)
    go_enter Tryd.func57, Tryd.ntmps57
    go_wp2_with fail
    go_quiet (fail)
    go_wp2_with fail
    refine (HRG.out _ (below_drewN HB0.out nq)).mono ?_
    rintro e w2 ⟨rfl, hb2⟩
    have HB2 := Lib.hid ((below_drewN HB0.out nq).trans (hb2.mono HB0.out.size))
    go_wp2_with fail
    go_ret
    exact ⟨ret_bool (by first | exact HX.out | (rw [← HX.out]; simp [*])), HB2.out⟩
 ·have b1 : (mn == 0) = false := by simpa using m0
  by_cases k0 : n = 0
  ·have y1 : ((n : Int) == 0) = true := by rw [beq_iff_eq]; omega
   cases r0 : srtB rs
   ·rw [r0] at HRG
    have HX : Hid (false = B) := Lib.hid (by rw [← HB.out]; unfold shpB; simp [*])
    (try clear k0); (try clear m0); (try clear m1); (try clear r0)
    go_enter Tryd.func57, Tryd.ntmps57
    go_wp2_with fail
    go_quiet (fail)
    go_wp2_with fail
    refine (HRG.out _ (below_drewN HB0.out nq)).mono ?_
    rintro e w2 ⟨rfl, hb2⟩
    have HB2 := Lib.hid ((below_drewN HB0.out nq).trans (hb2.mono HB0.out.size))
    go_wp2_with fail
    go_ret
    exact ⟨ret_bool (by first | exact HX.out | (rw [← HX.out]; simp [*])), HB2.out⟩
   ·rw [r0] at HRG
    cases nm with
    | nil =>
     have HX : Hid (false = B) := Lib.hid (by rw [← HB.out]; unfold shpB; simp [*])
     (try clear k0); (try clear m0); (try clear m1); (try clear r0)
     go_enter Tryd.func57, Tryd.ntmps57
     go_wp2_with fail
     go_quiet (fail)
     go_wp2_with fail
     refine (HRG.out _ (below_drewN HB0.out nq)).mono ?_
     rintro e w2 ⟨rfl, hb2⟩
     have HB2 := Lib.hid ((below_drewN HB0.out nq).trans (hb2.mono HB0.out.size))
     go_wp2_with fail
     go_ret
     exact ⟨ret_bool (by first | exact HX.out | (rw [← HX.out]; simp [*])), HB2.out⟩
    | cons x xs =>
     have HX : Hid (false = B) := Lib.hid (by rw [← HB.out]; unfold shpB; simp [*])
     (try clear k0); (try clear m0); (try clear m1); (try clear r0)
     go_enter Tryd.func57, Tryd.ntmps57
     go_wp2_with fail
     go_quiet (fail)
     go_wp2_with fail
     refine (HRG.out _ (below_drewN HB0.out nq)).mono ?_
     rintro e w2 ⟨rfl, hb2⟩
     have HB2 := Lib.hid ((below_drewN HB0.out nq).trans (hb2.mono HB0.out.size))
     go_wp2_with fail
     go_ret
     exact ⟨ret_bool (by first | exact HX.out | (rw [← HX.out]; simp [*])), HB2.out⟩
  ·have y1 : ((n : Int) == 0) = false := by rw [beq_eq_false_iff_ne]; omega
   have r0 : srtB rs = srtB rs := rfl
   clear r0
   have HX : Hid (false = B) := Lib.hid (by rw [← HB.out]; unfold shpB; simp [*])
   (try clear k0); (try clear m0); (try clear m1); (try clear r0)
   go_enter Tryd.func57, Tryd.ntmps57
   go_wp2_with fail
   go_quiet (fail)
   go_wp2_with fail
   refine (HRG.out _ (below_drewN HB0.out nq)).mono ?_
   rintro e w2 ⟨rfl, hb2⟩
   have HB2 := Lib.hid ((below_drewN HB0.out nq).trans (hb2.mono HB0.out.size))
   go_wp2_with fail
   go_ret
   exact ⟨ret_bool (by first | exact HX.out | (rw [← HX.out]; simp [*])), HB2.out⟩
set_option maxRecDepth 100000 in
set_option maxHeartbeats 4000000 in
theorem shape_2 (rs : List (UInt8 × UInt8)) (nm : List UInt8) (n : Nat) (mn mx : Int) (ra : Option Addr) (rc : Nat) (a : Option Addr) (c : Nat) (w : World) (hr : RgAt w rs (.slice ra rs.length rc)) :
  Calls Tryd.prog 57 #[.agg #[.int .i64 2, .slice ra rs.length rc, .string ⟨nm.toArray⟩, .slice a n c, .int .i64 mn, .int .i64 mx]] w fun e w' => e = .returned (.bool (shpB 2 rs nm n mn mx)) ∧ Below w.heap.size w w' := by
 have HRG := Lib.hid fun W (hb : Below w.heap.size w W) => right_any rs (.slice ra rs.length rc) W (hr.later hb)
 obtain ⟨B, hB⟩ : ∃ B, shpB 2 rs nm n mn mx = B := ⟨_, rfl⟩
 rw [hB]
 have HB := Lib.hid hB
 have HB0 := Lib.hid ((Below.refl _ w).alloc (Nat.le_refl _) (.cells #[.int .i64 2, .slice ra rs.length rc, .string ⟨nm.toArray⟩, .slice a n c, .int .i64 mn, .int .i64 mx] 29))
 have hrl : rs.length ≤ 9223372036854775807 := by obtain ⟨_, _, e, h, _⟩ := hr; exact h
 clear hB hr
 by_cases m0 : mn = 0
 ·have b1 : (mn == 0) = true := by simpa using m0
  by_cases m1 : mx = 0
  ·have b2 : (mx == 0) = true := by simpa using m1
   by_cases k0 : 2 ≤ n
   ·have y1 : decide ((2 : Int) ≤ (n : Int)) = true := decide_eq_true (by omega)
    by_cases r0 : rs.length = 0
    ·have y2 : ((rs.length : Int) == 0) = true := by rw [beq_iff_eq]; omega
     cases nm with
     | nil =>
      have HX : Hid (true = B) := Lib.hid (by rw [← HB.out]; unfold shpB; simp [*])
      (try clear k0); (try clear m0); (try clear m1); (try clear r0)
      go_enter Tryd.func57, Tryd.ntmps57
      go_wp2_with fail
      go_quiet (fail)
      go_wp2_with fail
      go_ret
      exact ⟨ret_bool (by first | exact HX.out | (rw [← HX.out]; simp [*])), below_drewN HB0.out _⟩
     | cons x xs =>
      have HX : Hid (false = B) := Lib.hid (by rw [← HB.out]; unfold shpB; simp [*])
      (try clear k0); (try clear m0); (try clear m1); (try clear r0)
      go_enter Tryd.func57, Tryd.ntmps57
      go_wp2_with fail
      go_quiet (fail)
      go_wp2_with fail
      go_ret
      exact ⟨ret_bool (by first | exact HX.out | (rw [← HX.out]; simp [*])), below_drewN HB0.out _⟩
    ·have y2 : ((rs.length : Int) == 0) = false := by rw [beq_eq_false_iff_ne]; omega
     have HX : Hid (false = B) := Lib.hid (by rw [← HB.out]; unfold shpB; simp [*])
     (try clear k0); (try clear m0); (try clear m1); (try clear r0)
     go_enter Tryd.func57, Tryd.ntmps57
     go_wp2_with fail
     go_quiet (fail)
     go_wp2_with fail
     go_ret
     exact ⟨ret_bool (by first | exact HX.out | (rw [← HX.out]; simp [*])), below_drewN HB0.out _⟩
   ·have y1 : decide ((2 : Int) ≤ (n : Int)) = false := decide_eq_false (by omega)
    have HX : Hid (false = B) := Lib.hid (by rw [← HB.out]; unfold shpB; simp [*])
    (try clear k0); (try clear m0); (try clear m1); (try clear r0)
    go_enter Tryd.func57, Tryd.ntmps57
    go_wp2_with fail
    go_quiet (fail)
    go_wp2_with fail
    go_ret
    exact ⟨ret_bool (by first | exact HX.out | (rw [← HX.out]; simp [*])), below_drewN HB0.out _⟩
  ·have b2 : (mx == 0) = false := by simpa using m1
   by_cases k0 : 2 ≤ n
   ·have y1 : decide ((2 : Int) ≤ (n : Int)) = true := decide_eq_true (by omega)
    by_cases r0 : rs.length = 0
    ·have y2 : ((rs.length : Int) == 0) = true := by rw [beq_iff_eq]; omega
     cases nm with
     | nil =>
      have HX : Hid (false = B) := Lib.hid (by rw [← HB.out]; unfold shpB; simp [*])
      (try clear k0); (try clear m0); (try clear m1); (try clear r0)
      go_enter Tryd.func57, Tryd.ntmps57
      go_wp2_with fail
      go_quiet (fail)
      go_wp2_with fail
      go_ret
      exact ⟨ret_bool (by first | exact HX.out | (rw [← HX.out]; simp [*])), below_drewN HB0.out _⟩
     | cons x xs =>
      have HX : Hid (false = B) := Lib.hid (by rw [← HB.out]; unfold shpB; simp [*])
      (try clear k0); (try clear m0); (try clear m1); (try clear r0)
      go_enter Tryd.func57, Tryd.ntmps57
      go_wp2_with fail
      go_quiet (fail)
      go_wp2_with fail
      go_ret
      exact ⟨ret_bool (by first | exact HX.out | (rw [← HX.out]; simp [*])), below_drewN HB0.out _⟩
    ·have y2 : ((rs.length : Int) == 0) = false := by rw [beq_eq_false_iff_ne]; omega
     have HX : Hid (false = B) := Lib.hid (by rw [← HB.out]; unfold shpB; simp [*])
     (try clear k0); (try clear m0); (try clear m1); (try clear r0)
     go_enter Tryd.func57, Tryd.ntmps57
     go_wp2_with fail
     go_quiet (fail)
     go_wp2_with fail
     go_ret
     exact ⟨ret_bool (by first | exact HX.out | (rw [← HX.out]; simp [*])), below_drewN HB0.out _⟩
   ·have y1 : decide ((2 : Int) ≤ (n : Int)) = false := decide_eq_false (by omega)
    have HX : Hid (false = B) := Lib.hid (by rw [← HB.out]; unfold shpB; simp [*])
    (try clear k0); (try clear m0); (try clear m1); (try clear r0)
    go_enter Tryd.func57, Tryd.ntmps57
    go_wp2_with fail
    go_quiet (fail)
    go_wp2_with fail
    go_ret
    exact ⟨ret_bool (by first | exact HX.out | (rw [← HX.out]; simp [*])), below_drewN HB0.out _⟩
 ·have b1 : (mn == 0) = false := by simpa using m0
  by_cases k0 : 2 ≤ n
  ·have y1 : decide ((2 : Int) ≤ (n : Int)) = true := decide_eq_true (by omega)
   by_cases r0 : rs.length = 0
   ·have y2 : ((rs.length : Int) == 0) = true := by rw [beq_iff_eq]; omega
    cases nm with
    | nil =>
     have HX : Hid (false = B) := Lib.hid (by rw [← HB.out]; unfold shpB; simp [*])
     (try clear k0); (try clear m0); (try clear m1); (try clear r0)
     go_enter Tryd.func57, Tryd.ntmps57
     go_wp2_with fail
     go_quiet (fail)
     go_wp2_with fail
     go_ret
     exact ⟨ret_bool (by first | exact HX.out | (rw [← HX.out]; simp [*])), below_drewN HB0.out _⟩
    | cons x xs =>
     have HX : Hid (false = B) := Lib.hid (by rw [← HB.out]; unfold shpB; simp [*])
     (try clear k0); (try clear m0); (try clear m1); (try clear r0)
     go_enter Tryd.func57, Tryd.ntmps57
     go_wp2_with fail
     go_quiet (fail)
     go_wp2_with fail
     go_ret
     exact ⟨ret_bool (by first | exact HX.out | (rw [← HX.out]; simp [*])), below_drewN HB0.out _⟩
   ·have y2 : ((rs.length : Int) == 0) = false := by rw [beq_eq_false_iff_ne]; omega
    have HX : Hid (false = B) := Lib.hid (by rw [← HB.out]; unfold shpB; simp [*])
    (try clear k0); (try clear m0); (try clear m1); (try clear r0)
    go_enter Tryd.func57, Tryd.ntmps57
    go_wp2_with fail
    go_quiet (fail)
    go_wp2_with fail
    go_ret
    exact ⟨ret_bool (by first | exact HX.out | (rw [← HX.out]; simp [*])), below_drewN HB0.out _⟩
  ·have y1 : decide ((2 : Int) ≤ (n : Int)) = false := decide_eq_false (by omega)
   have HX : Hid (false = B) := Lib.hid (by rw [← HB.out]; unfold shpB; simp [*])
   (try clear k0); (try clear m0); (try clear m1); (try clear r0)
   go_enter Tryd.func57, Tryd.ntmps57
   go_wp2_with fail
   go_quiet (fail)
   go_wp2_with fail
   go_ret
   exact ⟨ret_bool (by first | exact HX.out | (rw [← HX.out]; simp [*])), below_drewN HB0.out _⟩
end Go.Proofs.YtihdnlpelfgklaaDoor
namespace Go.Proofs.YtihdnlpelfgklaaDoor
open Go.RowKit
set_option maxRecDepth 100000 in
set_option maxHeartbeats 4000000 in
theorem shape_3 (rs : List (UInt8 × UInt8)) (nm : List UInt8) (n : Nat) (mn mx : Int) (ra : Option Addr) (rc : Nat) (a : Option Addr) (c : Nat) (w : World) (hr : RgAt w rs (.slice ra rs.length rc)) :
  Calls Tryd.prog 57 #[.agg #[.int .i64 3, .slice ra rs.length rc, .string ⟨nm.toArray⟩, .slice a n c, .int .i64 mn, .int .i64 mx]] w fun e w' => e = .returned (.bool (shpB 3 rs nm n mn mx)) ∧ Below w.heap.size w w' := by
 have HRG := Lib.hid fun W (hb : Below w.heap.size w W) => right_any rs (.slice ra rs.length rc) W (hr.later hb)
 obtain ⟨B, hB⟩ : ∃ B, shpB 3 rs nm n mn mx = B := ⟨_, rfl⟩
 rw [hB]
 have HB := Lib.hid hB
 have HB0 := Lib.hid ((Below.refl _ w).alloc (Nat.le_refl _) (.cells #[.int .i64 3, .slice ra rs.length rc, .string ⟨nm.toArray⟩, .slice a n c, .int .i64 mn, .int .i64 mx] 29))
 have hrl : rs.length ≤ 9223372036854775807 := by obtain ⟨_, _, e, h, _⟩ := hr; exact h
 clear hB hr
 by_cases m0 : mn = 0
 ·have b1 : (mn == 0) = true := by simpa using m0
  by_cases m1 : mx = 0
  ·have b2 : (mx == 0) = true := by simpa using m1
   by_cases k0 : 2 ≤ n
   ·have y1 : decide ((2 : Int) ≤ (n : Int)) = true := decide_eq_true (by omega)
    by_cases r0 : rs.length = 0
    ·have y2 : ((rs.length : Int) == 0) = true := by rw [beq_iff_eq]; omega
     cases nm with
     | nil =>
      have HX : Hid (true = B) := Lib.hid (by rw [← HB.out]; unfold shpB; simp [*])
      (try clear k0); (try clear m0); (try clear m1); (try clear r0)
      go_enter Tryd.func57, Tryd.ntmps57
      go_wp2_with fail
      go_quiet (fail)
      go_wp2_with fail
      go_ret
      exact ⟨ret_bool (by first | exact HX.out | (rw [← HX.out]; simp [*])), below_drewN HB0.out _⟩
     | cons x xs =>
      have HX : Hid (false = B) := Lib.hid (by rw [← HB.out]; unfold shpB; simp [*])
      (try clear k0); (try clear m0); (try clear m1); (try clear r0)
      go_enter Tryd.func57, Tryd.ntmps57
      go_wp2_with fail
      go_quiet (fail)
      go_wp2_with fail
      go_ret
      exact ⟨ret_bool (by first | exact HX.out | (rw [← HX.out]; simp [*])), below_drewN HB0.out _⟩
    ·have y2 : ((rs.length : Int) == 0) = false := by rw [beq_eq_false_iff_ne]; omega
     have HX : Hid (false = B) := Lib.hid (by rw [← HB.out]; unfold shpB; simp [*])
     (try clear k0); (try clear m0); (try clear m1); (try clear r0)
     go_enter Tryd.func57, Tryd.ntmps57
     go_wp2_with fail
     go_quiet (fail)
     go_wp2_with fail
     go_ret
     exact ⟨ret_bool (by first | exact HX.out | (rw [← HX.out]; simp [*])), below_drewN HB0.out _⟩
   ·have y1 : decide ((2 : Int) ≤ (n : Int)) = false := decide_eq_false (by omega)
    have HX : Hid (false = B) := Lib.hid (by rw [← HB.out]; unfold shpB; simp [*])
    (try clear k0); (try clear m0); (try clear m1); (try clear r0)
    go_enter Tryd.func57, Tryd.ntmps57
    go_wp2_with fail
    go_quiet (fail)
    go_wp2_with fail
    go_ret
    exact ⟨ret_bool (by first | exact HX.out | (rw [← HX.out]; simp [*])), below_drewN HB0.out _⟩
  ·have b2 : (mx == 0) = false := by simpa using m1
   by_cases k0 : 2 ≤ n
   ·have y1 : decide ((2 : Int) ≤ (n : Int)) = true := decide_eq_true (by omega)
    by_cases r0 : rs.length = 0
    ·have y2 : ((rs.length : Int) == 0) = true := by rw [beq_iff_eq]; omega
     cases nm with
     | nil =>
      have HX : Hid (false = B) := Lib.hid (by rw [← HB.out]; unfold shpB; simp [*])
      (try clear k0); (try clear m0); (try clear m1); (try clear r0)
      go_enter Tryd.func57, Tryd.ntmps57
      go_wp2_with fail
      go_quiet (fail)
      go_wp2_with fail
      go_ret
      exact ⟨ret_bool (by first | exact HX.out | (rw [← HX.out]; simp [*])), below_drewN HB0.out _⟩
     | cons x xs =>
      have HX : Hid (false = B) := Lib.hid (by rw [← HB.out]; unfold shpB; simp [*])
      (try clear k0); (try clear m0); (try clear m1); (try clear r0)
      go_enter Tryd.func57, Tryd.ntmps57
      go_wp2_with fail
      go_quiet (fail)
      go_wp2_with fail
      go_ret
      exact ⟨ret_bool (by first | exact HX.out | (rw [← HX.out]; simp [*])), below_drewN HB0.out _⟩
    ·have y2 : ((rs.length : Int) == 0) = false := by rw [beq_eq_false_iff_ne]; omega
     have HX : Hid (false = B) := Lib.hid (by rw [← HB.out]; unfold shpB; simp [*])
     (try clear k0); (try clear m0); (try clear m1); (try clear r0)
     go_enter Tryd.func57, Tryd.ntmps57
     go_wp2_with fail
     go_quiet (fail)
     go_wp2_with fail
     go_ret
     exact ⟨ret_bool (by first | exact HX.out | (rw [← HX.out]; simp [*])), below_drewN HB0.out _⟩
   ·have y1 : decide ((2 : Int) ≤ (n : Int)) = false := decide_eq_false (by omega)
    have HX : Hid (false = B) := Lib.hid (by rw [← HB.out]; unfold shpB; simp [*])
    (try clear k0); (try clear m0); (try clear m1); (try clear r0)
    go_enter Tryd.func57, Tryd.ntmps57
    go_wp2_with fail
    go_quiet (fail)
    go_wp2_with fail
    go_ret
    exact ⟨ret_bool (by first | exact HX.out | (rw [← HX.out]; simp [*])), below_drewN HB0.out _⟩
 ·have b1 : (mn == 0) = false := by simpa using m0
  by_cases k0 : 2 ≤ n
  ·have y1 : decide ((2 : Int) ≤ (n : Int)) = true := decide_eq_true (by omega)
   by_cases r0 : rs.length = 0
   ·have y2 : ((rs.length : Int) == 0) = true := by rw [beq_iff_eq]; omega
    cases nm with
    | nil =>
     have HX : Hid (false = B) := Lib.hid (by rw [← HB.out]; unfold shpB; simp [*])
     (try clear k0); (try clear m0); (try clear m1); (try clear r0)
     go_enter Tryd.func57, Tryd.ntmps57
     go_wp2_with fail
     go_quiet (fail)
     go_wp2_with fail
     go_ret
     exact ⟨ret_bool (by first | exact HX.out | (rw [← HX.out]; simp [*])), below_drewN HB0.out _⟩
    | cons x xs =>
     have HX : Hid (false = B) := Lib.hid (by rw [← HB.out]; unfold shpB; simp [*])
     (try clear k0); (try clear m0); (try clear m1); (try clear r0)
     go_enter Tryd.func57, Tryd.ntmps57
     go_wp2_with fail
     go_quiet (fail)
     go_wp2_with fail
     go_ret
     exact ⟨ret_bool (by first | exact HX.out | (rw [← HX.out]; simp [*])), below_drewN HB0.out _⟩
   ·have y2 : ((rs.length : Int) == 0) = false := by rw [beq_eq_false_iff_ne]; omega
    have HX : Hid (false = B) := Lib.hid (by rw [← HB.out]; unfold shpB; simp [*])
    (try clear k0); (try clear m0); (try clear m1); (try clear r0)
    go_enter Tryd.func57, Tryd.ntmps57
    go_wp2_with fail
    go_quiet (fail)
    go_wp2_with fail
    go_ret
    exact ⟨ret_bool (by first | exact HX.out | (rw [← HX.out]; simp [*])), below_drewN HB0.out _⟩
  ·have y1 : decide ((2 : Int) ≤ (n : Int)) = false := decide_eq_false (by omega)
   have HX : Hid (false = B) := Lib.hid (by rw [← HB.out]; unfold shpB; simp [*])
   (try clear k0); (try clear m0); (try clear m1); (try clear r0)
   go_enter Tryd.func57, Tryd.ntmps57
   go_wp2_with fail
   go_quiet (fail)
   go_wp2_with fail
   go_ret
   exact ⟨ret_bool (by first | exact HX.out | (rw [← HX.out]; simp [*])), below_drewN HB0.out _⟩
set_option maxRecDepth 100000 in
set_option maxHeartbeats 4000000 in
theorem shape_4 (rs : List (UInt8 × UInt8)) (nm : List UInt8) (n : Nat) (mn mx : Int) (ra : Option Addr) (rc : Nat) (a : Option Addr) (c : Nat) (w : World) (hr : RgAt w rs (.slice ra rs.length rc)) :
  Calls Tryd.prog 57 #[.agg #[.int .i64 4, .slice ra rs.length rc, .string ⟨nm.toArray⟩, .slice a n c, .int .i64 mn, .int .i64 mx]] w fun e w' => e = .returned (.bool (shpB 4 rs nm n mn mx)) ∧ Below w.heap.size w w' := by
 have HRG := Lib.hid fun W (hb : Below w.heap.size w W) => right_any rs (.slice ra rs.length rc) W (hr.later hb)
 obtain ⟨B, hB⟩ : ∃ B, shpB 4 rs nm n mn mx = B := ⟨_, rfl⟩
 rw [hB]
 have HB := Lib.hid hB
 have HB0 := Lib.hid ((Below.refl _ w).alloc (Nat.le_refl _) (.cells #[.int .i64 4, .slice ra rs.length rc, .string ⟨nm.toArray⟩, .slice a n c, .int .i64 mn, .int .i64 mx] 29))
 have hrl : rs.length ≤ 9223372036854775807 := by obtain ⟨_, _, e, h, _⟩ := hr; exact h
 clear hB hr
 by_cases m0 : mn = 0
 ·have b1 : (mn == 0) = true := by simpa using m0
  by_cases m1 : mx = 0
  ·have b2 : (mx == 0) = true := by simpa using m1
   by_cases k0 : n = 1
   ·have y1 : ((n : Int) == 1) = true := by rw [beq_iff_eq]; omega
    by_cases r0 : rs.length = 0
    ·have y2 : ((rs.length : Int) == 0) = true := by rw [beq_iff_eq]; omega
     cases nm with
     | nil =>
      have HX : Hid (true = B) := Lib.hid (by rw [← HB.out]; unfold shpB; simp [*])
      (try clear k0); (try clear m0); (try clear m1); (try clear r0)
      go_enter Tryd.func57, Tryd.ntmps57
      go_wp2_with fail
      go_quiet (fail)
      go_wp2_with fail
      go_ret
      exact ⟨ret_bool (by first | exact HX.out | (rw [← HX.out]; simp [*])), below_drewN HB0.out _⟩
     | cons x xs =>
      have HX : Hid (false = B) := Lib.hid (by rw [← HB.out]; unfold shpB; simp [*])
      (try clear k0); (try clear m0); (try clear m1); (try clear r0)
      go_enter Tryd.func57, Tryd.ntmps57
      go_wp2_with fail
      go_quiet (fail)
      go_wp2_with fail
      go_ret
      exact ⟨ret_bool (by first | exact HX.out | (rw [← HX.out]; simp [*])), below_drewN HB0.out _⟩
    ·have y2 : ((rs.length : Int) == 0) = false := by rw [beq_eq_false_iff_ne]; omega
     have HX : Hid (false = B) := Lib.hid (by rw [← HB.out]; unfold shpB; simp [*])
     (try clear k0); (try clear m0); (try clear m1); (try clear r0)
     go_enter Tryd.func57, Tryd.ntmps57
     go_wp2_with fail
     go_quiet (fail)
     go_wp2_with fail
     go_ret
     exact ⟨ret_bool (by first | exact HX.out | (rw [← HX.out]; simp [*])), below_drewN HB0.out _⟩
   ·have y1 : ((n : Int) == 1) = false := by rw [beq_eq_false_iff_ne]; omega
    have HX : Hid (false = B) := Lib.hid (by rw [← HB.out]; unfold shpB; simp [*])
    (try clear k0); (try clear m0); (try clear m1); (try clear r0)
    go_enter Tryd.func57, Tryd.ntmps57
    go_wp2_with fail
    go_quiet (fail)
    go_wp2_with fail
    go_ret
    exact ⟨ret_bool (by first | exact HX.out | (rw [← HX.out]; simp [*])), below_drewN HB0.out _⟩
  ·have b2 : (mx == 0) = false := by simpa using m1
   by_cases k0 : n = 1
   ·have y1 : ((n : Int) == 1) = true := by rw [beq_iff_eq]; omega
    by_cases r0 : rs.length = 0
    ·have y2 : ((rs.length : Int) == 0) = true := by rw [beq_iff_eq]; omega
     cases nm with
     | nil =>
      have HX : Hid (true = B) := Lib.hid (by rw [← HB.out]; unfold shpB; simp [*])
      (try clear k0); (try clear m0); (try clear m1); (try clear r0)
      go_enter Tryd.func57, Tryd.ntmps57
      go_wp2_with fail
      go_quiet (fail)
      go_wp2_with fail
      go_ret
      exact ⟨ret_bool (by first | exact HX.out | (rw [← HX.out]; simp [*])), below_drewN HB0.out _⟩
     | cons x xs =>
      have HX : Hid (false = B) := Lib.hid (by rw [← HB.out]; unfold shpB; simp [*])
      (try clear k0); (try clear m0); (try clear m1); (try clear r0)
      go_enter Tryd.func57, Tryd.ntmps57
      go_wp2_with fail
      go_quiet (fail)
      go_wp2_with fail
      go_ret
      exact ⟨ret_bool (by first | exact HX.out | (rw [← HX.out]; simp [*])), below_drewN HB0.out _⟩
    ·have y2 : ((rs.length : Int) == 0) = false := by rw [beq_eq_false_iff_ne]; omega
     have HX : Hid (false = B) := Lib.hid (by rw [← HB.out]; unfold shpB; simp [*])
     (try clear k0); (try clear m0); (try clear m1); (try clear r0)
     go_enter Tryd.func57, Tryd.ntmps57
     go_wp2_with fail
     go_quiet (fail)
     go_wp2_with fail
     go_ret
     exact ⟨ret_bool (by first | exact HX.out | (rw [← HX.out]; simp [*])), below_drewN HB0.out _⟩
   ·have y1 : ((n : Int) == 1) = false := by rw [beq_eq_false_iff_ne]; omega
    have HX : Hid (false = B) := Lib.hid (by rw [← HB.out]; unfold shpB; simp [*])
    (try clear k0); (try clear m0); (try clear m1); (try clear r0)
    go_enter Tryd.func57, Tryd.ntmps57
    go_wp2_with fail
    go_quiet (fail)
    go_wp2_with fail
    go_ret
    exact ⟨ret_bool (by first | exact HX.out | (rw [← HX.out]; simp [*])), below_drewN HB0.out _⟩
 ·have b1 : (mn == 0) = false := by simpa using m0
  by_cases k0 : n = 1
  ·have y1 : ((n : Int) == 1) = true := by rw [beq_iff_eq]; omega
   by_cases r0 : rs.length = 0
   ·have y2 : ((rs.length : Int) == 0) = true := by rw [beq_iff_eq]; omega
    cases nm with
    | nil =>
     have HX : Hid (true = B) := Lib.hid (by rw [← HB.out]; unfold shpB; simp [*])
     (try clear k0); (try clear m0); (try clear m1); (try clear r0)
     go_enter Tryd.func57, Tryd.ntmps57
     go_wp2_with fail
     go_quiet (fail)
     go_wp2_with fail
     go_ret
     exact ⟨ret_bool (by first | exact HX.out | (rw [← HX.out]; simp [*])), below_drewN HB0.out _⟩
    | cons x xs =>
     have HX : Hid (false = B) := Lib.hid (by rw [← HB.out]; unfold shpB; simp [*])
     (try clear k0); (try clear m0); (try clear m1); (try clear r0)
     go_enter Tryd.func57, Tryd.ntmps57
     go_wp2_with fail
     go_quiet (fail)
     go_wp2_with fail
     go_ret
     exact ⟨ret_bool (by first | exact HX.out | (rw [← HX.out]; simp [*])), below_drewN HB0.out _⟩
   ·have y2 : ((rs.length : Int) == 0) = false := by rw [beq_eq_false_iff_ne]; omega
    have HX : Hid (false = B) := Lib.hid (by rw [← HB.out]; unfold shpB; simp [*])
    (try clear k0); (try clear m0); (try clear m1); (try clear r0)
    go_enter Tryd.func57, Tryd.ntmps57
    go_wp2_with fail
    go_quiet (fail)
    go_wp2_with fail
    go_ret
    exact ⟨ret_bool (by first | exact HX.out | (rw [← HX.out]; simp [*])), below_drewN HB0.out _⟩
  ·have y1 : ((n : Int) == 1) = false := by rw [beq_eq_false_iff_ne]; omega
   have HX : Hid (false = B) := Lib.hid (by rw [← HB.out]; unfold shpB; simp [*])
   (try clear k0); (try clear m0); (try clear m1); (try clear r0)
   go_enter Tryd.func57, Tryd.ntmps57
   go_wp2_with fail
   go_quiet (fail)
   go_wp2_with fail
   go_ret
   exact ⟨ret_bool (by first | exact HX.out | (rw [← HX.out]; simp [*])), below_drewN HB0.out _⟩
set_option maxRecDepth 100000 in
set_option maxHeartbeats 4000000 in
theorem shape_5 (rs : List (UInt8 × UInt8)) (nm : List UInt8) (n : Nat) (mn mx : Int) (ra : Option Addr) (rc : Nat) (a : Option Addr) (c : Nat) (w : World) (hr : RgAt w rs (.slice ra rs.length rc)) :
  Calls Tryd.prog 57 #[.agg #[.int .i64 5, .slice ra rs.length rc, .string ⟨nm.toArray⟩, .slice a n c, .int .i64 mn, .int .i64 mx]] w fun e w' => e = .returned (.bool (shpB 5 rs nm n mn mx)) ∧ Below w.heap.size w w' := by
 have HRG := Lib.hid fun W (hb : Below w.heap.size w W) => right_any rs (.slice ra rs.length rc) W (hr.later hb)
 obtain ⟨B, hB⟩ : ∃ B, shpB 5 rs nm n mn mx = B := ⟨_, rfl⟩
 rw [hB]
 have HB := Lib.hid hB
 have HB0 := Lib.hid ((Below.refl _ w).alloc (Nat.le_refl _) (.cells #[.int .i64 5, .slice ra rs.length rc, .string ⟨nm.toArray⟩, .slice a n c, .int .i64 mn, .int .i64 mx] 29))
 have hrl : rs.length ≤ 9223372036854775807 := by obtain ⟨_, _, e, h, _⟩ := hr; exact h
 clear hB hr
 by_cases m0 : mn = 0
 ·have b1 : (mn == 0) = true := by simpa using m0
  by_cases m1 : mx = 0
  ·have b2 : (mx == 0) = true := by simpa using m1
   by_cases k0 : n = 1
   ·have y1 : ((n : Int) == 1) = true := by rw [beq_iff_eq]; omega
    by_cases r0 : rs.length = 0
    ·have y2 : ((rs.length : Int) == 0) = true := by rw [beq_iff_eq]; omega
     have HX : Hid (true = B) := Lib.hid (by rw [← HB.out]; unfold shpB; simp [*])
     (try clear k0); (try clear m0); (try clear m1); (try clear r0)
     go_enter Tryd.func57, Tryd.ntmps57
     go_wp2_with fail
     go_quiet (fail)
     go_wp2_with fail
     go_ret
     exact ⟨ret_bool (by first | exact HX.out | (rw [← HX.out]; simp [*])), below_drewN HB0.out _⟩
    ·have y2 : ((rs.length : Int) == 0) = false := by rw [beq_eq_false_iff_ne]; omega
     have HX : Hid (false = B) := Lib.hid (by rw [← HB.out]; unfold shpB; simp [*])
     (try clear k0); (try clear m0); (try clear m1); (try clear r0)
     go_enter Tryd.func57, Tryd.ntmps57
     go_wp2_with fail
     go_quiet (fail)
     go_wp2_with fail
     go_ret
     exact ⟨ret_bool (by first | exact HX.out | (rw [← HX.out]; simp [*])), below_drewN HB0.out _⟩
   ·have y1 : ((n : Int) == 1) = false := by rw [beq_eq_false_iff_ne]; omega
    have HX : Hid (false = B) := Lib.hid (by rw [← HB.out]; unfold shpB; simp [*])
    (try clear k0); (try clear m0); (try clear m1); (try clear r0)
    go_enter Tryd.func57, Tryd.ntmps57
    go_wp2_with fail
    go_quiet (fail)
    go_wp2_with fail
    go_ret
    exact ⟨ret_bool (by first | exact HX.out | (rw [← HX.out]; simp [*])), below_drewN HB0.out _⟩
  ·have b2 : (mx == 0) = false := by simpa using m1
   by_cases k0 : n = 1
   ·have y1 : ((n : Int) == 1) = true := by rw [beq_iff_eq]; omega
    by_cases r0 : rs.length = 0
    ·have y2 : ((rs.length : Int) == 0) = true := by rw [beq_iff_eq]; omega
     have HX : Hid (false = B) := Lib.hid (by rw [← HB.out]; unfold shpB; simp [*])
     (try clear k0); (try clear m0); (try clear m1); (try clear r0)
     go_enter Tryd.func57, Tryd.ntmps57
     go_wp2_with fail
     go_quiet (fail)
     go_wp2_with fail
     go_ret
     exact ⟨ret_bool (by first | exact HX.out | (rw [← HX.out]; simp [*])), below_drewN HB0.out _⟩
    ·have y2 : ((rs.length : Int) == 0) = false := by rw [beq_eq_false_iff_ne]; omega
     have HX : Hid (false = B) := Lib.hid (by rw [← HB.out]; unfold shpB; simp [*])
     (try clear k0); (try clear m0); (try clear m1); (try clear r0)
     go_enter Tryd.func57, Tryd.ntmps57
     go_wp2_with fail
     go_quiet (fail)
     go_wp2_with fail
     go_ret
     exact ⟨ret_bool (by first | exact HX.out | (rw [← HX.out]; simp [*])), below_drewN HB0.out _⟩
   ·have y1 : ((n : Int) == 1) = false := by rw [beq_eq_false_iff_ne]; omega
    have HX : Hid (false = B) := Lib.hid (by rw [← HB.out]; unfold shpB; simp [*])
    (try clear k0); (try clear m0); (try clear m1); (try clear r0)
    go_enter Tryd.func57, Tryd.ntmps57
    go_wp2_with fail
    go_quiet (fail)
    go_wp2_with fail
    go_ret
    exact ⟨ret_bool (by first | exact HX.out | (rw [← HX.out]; simp [*])), below_drewN HB0.out _⟩
 ·have b1 : (mn == 0) = false := by simpa using m0
  by_cases k0 : n = 1
  ·have y1 : ((n : Int) == 1) = true := by rw [beq_iff_eq]; omega
   by_cases r0 : rs.length = 0
   ·have y2 : ((rs.length : Int) == 0) = true := by rw [beq_iff_eq]; omega
    have HX : Hid (false = B) := Lib.hid (by rw [← HB.out]; unfold shpB; simp [*])
    (try clear k0); (try clear m0); (try clear m1); (try clear r0)
    go_enter Tryd.func57, Tryd.ntmps57
    go_wp2_with fail
    go_quiet (fail)
    go_wp2_with fail
    go_ret
    exact ⟨ret_bool (by first | exact HX.out | (rw [← HX.out]; simp [*])), below_drewN HB0.out _⟩
   ·have y2 : ((rs.length : Int) == 0) = false := by rw [beq_eq_false_iff_ne]; omega
    have HX : Hid (false = B) := Lib.hid (by rw [← HB.out]; unfold shpB; simp [*])
    (try clear k0); (try clear m0); (try clear m1); (try clear r0)
    go_enter Tryd.func57, Tryd.ntmps57
    go_wp2_with fail
    go_quiet (fail)
    go_wp2_with fail
    go_ret
    exact ⟨ret_bool (by first | exact HX.out | (rw [← HX.out]; simp [*])), below_drewN HB0.out _⟩
  ·have y1 : ((n : Int) == 1) = false := by rw [beq_eq_false_iff_ne]; omega
   have HX : Hid (false = B) := Lib.hid (by rw [← HB.out]; unfold shpB; simp [*])
   (try clear k0); (try clear m0); (try clear m1); (try clear r0)
   go_enter Tryd.func57, Tryd.ntmps57
   go_wp2_with fail
   go_quiet (fail)
   go_wp2_with fail
   go_ret
   exact ⟨ret_bool (by first | exact HX.out | (rw [← HX.out]; simp [*])), below_drewN HB0.out _⟩
set_option maxRecDepth 100000 in
set_option maxHeartbeats 4000000 in
theorem shape_no (op : Int) (rs : List (UInt8 × UInt8)) (nm : List UInt8) (n : Nat) (mn mx : Int) (ra : Option Addr) (rc : Nat) (a : Option Addr) (c : Nat) (w : World) (hop : op ≠ 0 ∧ op ≠ 1 ∧ op ≠ 2 ∧ op ≠ 3 ∧ op ≠ 4 ∧ op ≠ 5 ∧ op ≠ 6 ∧ op ≠ 7) :
  Calls Tryd.prog 57 #[.agg #[.int .i64 op, .slice ra rs.length rc, .string ⟨nm.toArray⟩, .slice a n c, .int .i64 mn, .int .i64 mx]] w fun e w' => e = .returned (.bool (shpB op rs nm n mn mx)) ∧ Below w.heap.size w w' := by
 have HX : shpB op rs nm n mn mx = false := by unfold shpB; simp [hop]
 rw [HX]
 have o0 : (op == 0) = false := by rw [beq_eq_false_iff_ne]; exact hop.1
 have o1 : (op == 1) = false := by rw [beq_eq_false_iff_ne]; exact hop.2.1
 have o2 : (op == 2) = false := by rw [beq_eq_false_iff_ne]; exact hop.2.2.1
 have o3 : (op == 3) = false := by rw [beq_eq_false_iff_ne]; exact hop.2.2.2.1
 have o4 : (op == 4) = false := by rw [beq_eq_false_iff_ne]; exact hop.2.2.2.2.1
 have o5 : (op == 5) = false := by rw [beq_eq_false_iff_ne]; exact hop.2.2.2.2.2.1
 have o6 : (op == 6) = false := by rw [beq_eq_false_iff_ne]; exact hop.2.2.2.2.2.2.1
 have o7 : (op == 7) = false := by rw [beq_eq_false_iff_ne]; exact hop.2.2.2.2.2.2.2
 have HB0 := Lib.hid ((Below.refl _ w).alloc (Nat.le_refl _) (.cells #[.int .i64 op, .slice ra rs.length rc, .string ⟨nm.toArray⟩, .slice a n c, .int .i64 mn, .int .i64 mx] 29))
 clear HX hop
 by_cases m0 : mn = 0
 ·have b1 : (mn == 0) = true := by simpa using m0
  by_cases m1 : mx = 0
  ·have b2 : (mx == 0) = true := by simpa using m1
   (try clear m0); (try clear m1)
   go_enter Tryd.func57, Tryd.ntmps57
   go_wp2_with fail
   go_quiet (fail)
   go_wp2_with fail
   go_ret
   exact ⟨rfl, below_drewN HB0.out _⟩
  ·have b2 : (mx == 0) = false := by simpa using m1
   (try clear m0); (try clear m1)
   go_enter Tryd.func57, Tryd.ntmps57
   go_wp2_with fail
   go_quiet (fail)
   go_wp2_with fail
   go_ret
   exact ⟨rfl, below_drewN HB0.out _⟩
 ·have b1 : (mn == 0) = false := by simpa using m0
  (try clear m0); (try clear m1)
  go_enter Tryd.func57, Tryd.ntmps57
  go_wp2_with fail
  go_quiet (fail)
  go_wp2_with fail
  go_ret
  exact ⟨rfl, below_drewN HB0.out _⟩
end Go.Proofs.YtihdnlpelfgklaaDoor
namespace Go.Proofs.YtihdnlpelfgklaaDoor
open Go.RowKit
theorem shape_any (op : Int) (rs : List (UInt8 × UInt8)) (nm : List UInt8) (n : Nat) (mn mx : Int) (ra : Option Addr) (rc : Nat) (a : Option Addr) (c : Nat) (w : World) (hr : RgAt w rs (.slice ra rs.length rc)) :
  Calls Tryd.prog 57 #[.agg #[.int .i64 op, .slice ra rs.length rc, .string ⟨nm.toArray⟩, .slice a n c, .int .i64 mn, .int .i64 mx]] w fun e w' => e = .returned (.bool (shpB op rs nm n mn mx)) ∧ Below w.heap.size w w' := by
 by_cases h0 : op = 0
 ·subst h0; exact shape_0 rs nm n mn mx ra rc a c w hr
 by_cases h1 : op = 1
 ·subst h1; exact shape_1 rs nm n mn mx ra rc a c w hr
 by_cases h2 : op = 2
 ·subst h2; exact shape_2 rs nm n mn mx ra rc a c w hr
 by_cases h3 : op = 3
 ·subst h3; exact shape_3 rs nm n mn mx ra rc a c w hr
 by_cases h4 : op = 4
 ·subst h4; exact shape_4 rs nm n mn mx ra rc a c w hr
 by_cases h5 : op = 5
 ·subst h5; exact shape_5 rs nm n mn mx ra rc a c w hr
 by_cases h6 : op = 6
 ·subst h6; exact shape_6 rs nm n mn mx ra rc a c w hr
 by_cases h7 : op = 7
 ·subst h7; exact shape_7 rs nm n mn mx ra rc a c w hr
 exact shape_no op rs nm n mn mx ra rc a c w ⟨h0, h1, h2, h3, h4, h5, h6, h7⟩
end Go.Proofs.YtihdnlpelfgklaaDoor

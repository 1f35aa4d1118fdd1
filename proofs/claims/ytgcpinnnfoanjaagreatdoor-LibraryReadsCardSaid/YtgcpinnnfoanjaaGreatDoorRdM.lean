/-
 Joined: RefK, RefC.
-/
import Derived.Test.YtgcpinnnfoanjaaGreatDoorRdZa
import Derived.Test.YtgcpinnnfoanjaaGreatDoorRdD
import Derived.BigQuiet
namespace Go.Proofs.YtgcpinnnfoanjaaGreatDoor
open Go.RowKit
theorem rdigit_any (c : Nat) (w : World) (hc : c < 256) :
  Calls Tryz.prog 69 #[.int .u8 c] w fun e w' => e = .returned (.bool (Asc.isDigit c)) ∧ w = w' := by
 have hf := Lib.hid (show Asc.isDigit c = decide (48 ≤ c ∧ c ≤ 57) from rfl)
 go_enter Tryz.func69, Tryz.ntmps69
 go_wp2_with fail
 all_goals
  go_ret
  exact ⟨ret_bool (by rw [hf.out, Bool.eq_iff_iff]; simp; omega), rfl⟩
theorem rletter_any (c : Nat) (w : World) (hc : c < 256) :
  Calls Tryz.prog 47 #[.int .u8 c] w fun e w' => e = .returned (.bool (Asc.isLetter c)) ∧ w = w' := by
 have hf := Lib.hid (show Asc.isLetter c = decide (97 ≤ c ∧ c ≤ 122 ∨ 65 ≤ c ∧ c ≤ 90) from rfl)
 go_enter Tryz.func47, Tryz.ntmps47
 go_wp2_with fail
 all_goals
  go_ret
  exact ⟨ret_bool (by rw [hf.out, Bool.eq_iff_iff]; simp; omega), rfl⟩
theorem rspace_any (c : Nat) (w : World) (hc : c < 256) :
  Calls Tryz.prog 66 #[.int .u8 c] w fun e w' => e = .returned (.bool (Asc.isSpace c)) ∧ w = w' := by
 have hf := Lib.hid (show Asc.isSpace c = decide (c = 32 ∨ c = 9) from rfl)
 go_enter Tryz.func66, Tryz.ntmps66
 go_wp2_with fail
 all_goals
  go_ret
  exact ⟨ret_bool (by rw [hf.out, Bool.eq_iff_iff]; simp; omega), rfl⟩
theorem rword_any (c : Nat) (w : World) (hc : c < 256) :
  Calls Tryz.prog 48 #[.int .u8 c] w fun e w' => e = .returned (.bool (Asc.isWord c)) ∧ w = w' := by
 have hf := Lib.hid (show Asc.isWord c = (Asc.isDigit c || Asc.isLetter c || decide (c = 95)) from rfl)
 go_enter Tryz.func48, Tryz.ntmps48
 go_wp2_with (first | (go_at_call 69; refine (rdigit_any c w hc).mono ?_; rintro e w' ⟨rfl, rfl⟩) | (go_at_call 47; refine (rletter_any c w hc).mono ?_; rintro e w' ⟨rfl, rfl⟩))
 all_goals
  go_ret
  exact ⟨ret_bool (by rw [hf.out]; rw [Bool.eq_iff_iff]; simp_all <;> omega), rfl⟩
end Go.Proofs.YtgcpinnnfoanjaaGreatDoor
namespace Go.Proofs.YtgcpinnnfoanjaaGreatDoor
open Go.RowKit
set_option maxRecDepth 100000 in
set_option maxHeartbeats 2000000 in
theorem sorted_any (rs : List (UInt8 × UInt8)) (v : Value) (w : World) (h : RgAt w rs v) :
  Calls Tryz.prog 116 #[v] w fun e w' => e = .returned (.bool (srtB rs)) ∧ Below w.heap.size w w' := by
 obtain ⟨a, c, rfl, hm, hk⟩ := h
 have HK := Lib.hid hk
 obtain ⟨B, hB⟩ : ∃ B, srtB rs = B := ⟨_, rfl⟩
 have HY := Lib.hid fun (h : 0 < rs.length ∧ ∀ i (h : i < rs.length), okR rs i h) => show true = B by rw [← hB, srtB_yes h]
 have HN := Lib.hid fun (h : ¬ (0 < rs.length ∧ ∀ i (h : i < rs.length), okR rs i h)) => show false = B by rw [← hB, srtB_no h]
 rw [hB]
 clear hk hB
 go_enter Tryz.func116, Tryz.ntmps116
 go_wp2_with fail
 go_loopw [3] (fun i wr => ∃ k : Nat, i = .int .i64 k ∧ k ≤ rs.length ∧ Hid (∀ i (h : i < rs.length), i < k → okR rs i h) ∧ Below w.heap.size w wr) (fun i _ => rs.length - (intOf i).toNat)
 case atStart => exact ⟨0, rfl, by omega, Lib.hid (fun _ _ h => by omega), Below.refl _ _⟩
 case round =>
  obtain ⟨k, rfl, hkl, hok, hb⟩ := hrel
  have HB := Lib.hid hb
  by_cases hlt : k < rs.length
  ·obtain ⟨blk, off, rfl, hl, c0, c1⟩ := HK.out k hlt
   have e0 := (hb.cell (p := ⟨blk, off + k * 2, none⟩) hl).trans c0
   have e1 := (hb.cell (p := ⟨blk, off + k * 2 + 1, none⟩) hl).trans c1
   have i1 : (k : Int) < (rs.length : Int) := by omega
   have i2 : (0 : Int) ≤ (k : Int) := by omega
   have hlw : blk < wr.heap.size := Nat.lt_of_lt_of_le hl hb.size
   have HOK := Lib.hid (show okR rs k hlt ↔ (rs[k].1.toNat ≤ rs[k].2.toNat ∧ (0 < k → rs[k - 1].2.toNat + 1 < rs[k].1.toNat)) from Iff.rfl)
   have hlo := rs[k].1.toNat_lt
   have hhi := rs[k].2.toNat_lt
   have HPV : Hid (0 < k → ∃ p : Nat, rs[k - 1].2.toNat = p ∧ p < 256 ∧ wr.cell? ⟨blk, off + (k - 1) * 2 + 1, none⟩ = some (.int .u8 (p : Int))) := Lib.hid (fun h0 => by
    obtain ⟨blk', off', e, _, _, c1'⟩ := HK.out (k - 1) (by omega)
    simp only [Option.some.injEq, Addr.mk.injEq, and_true] at e
    obtain ⟨rfl, rfl⟩ := e
    exact ⟨_, rfl, rs[k - 1].2.toNat_lt, (hb.cell (p := ⟨blk, off + (k - 1) * 2 + 1, none⟩) hl).trans c1'⟩)
   obtain ⟨lo, hlo1⟩ : ∃ lo, rs[k].1.toNat = lo := ⟨_, rfl⟩
   obtain ⟨hi, hhi1⟩ : ∃ hi, rs[k].2.toNat = hi := ⟨_, rfl⟩
   rw [hlo1] at e0 hlo HOK
   rw [hhi1] at e1 hhi HOK
   have HBA := Lib.hid hb
   clear c0 c1 hlo1 hhi1 hb
   by_cases h1 : lo ≤ hi
   ·have z1 : decide ((hi : Int) < (lo : Int)) = false := decide_eq_false (by omega)
    by_cases h2 : 0 < k
    ·obtain ⟨p, hp1, hp2, hp3⟩ := HPV.out h2
     have z2 : decide ((0 : Int) < (k : Int)) = true := decide_eq_true (by omega)
     have j1 : ((k : Int) - 1) < (rs.length : Int) := by omega
     have j4 : (1 : Int) ≤ (k : Int) := by omega
     have j5 : (k : Int) ≤ (rs.length : Int) := by omega
     have j6 : 1 ≤ k := h2
     have j2 : (0 : Int) ≤ (k : Int) - 1 := by omega
     have j3 : ((k : Int) - 1).toNat = k - 1 := by omega
     rw [hp1] at HOK
     clear hp1 HPV
     by_cases h3 : p + 1 < lo
     ·have z3 : decide ((lo : Int) ≤ (p : Int) + 1) = false := decide_eq_false (by omega)
      have HO : Hid (∀ i (h : i < rs.length), i < k + 1 → okR rs i h) := Lib.hid (fun i h hi' => by
       by_cases e : i = k
       ·subst e; exact HOK.out.2 ⟨h1, fun _ => h3⟩
       ·exact hok.out i h (by omega))
      have z4 : decide (hi < lo) = false := decide_eq_false (by omega)
      have s3 : IntKind.i64.wrap (lo : Int) = (lo : Int) := IntWalk.i64_in _ (by omega)
      have s4 : IntKind.i64.wrap (p : Int) = (p : Int) := IntWalk.i64_in _ (by omega)
      have s1 : IntKind.i64.wrap ((k : Int) - 1) = (k : Int) - 1 := IntWalk.i64_in _ (by omega)
      have s2 : IntKind.i64.wrap ((p : Int) + 1) = (p : Int) + 1 := IntWalk.i64_in _ (by omega)
      go_wp2_with fail
      go_quiet (fail)
      clear s1 s2 s3 s4
      go_wp2_with fail
      go_roundw
      case rel => exact ⟨k + 1, by go_num, by omega, HO, below_drewN HBA.out _⟩
      case measure => simp [intOf]; omega
     ·have z3 : decide ((lo : Int) ≤ (p : Int) + 1) = true := decide_eq_true (by omega)
      have HX : Hid (false = B) := Lib.hid (HN.out fun h => h3 ((HOK.out.1 (h.2 k hlt)).2 h2))
      have z4 : decide (hi < lo) = false := decide_eq_false (by omega)
      have s3 : IntKind.i64.wrap (lo : Int) = (lo : Int) := IntWalk.i64_in _ (by omega)
      have s4 : IntKind.i64.wrap (p : Int) = (p : Int) := IntWalk.i64_in _ (by omega)
      have s1 : IntKind.i64.wrap ((k : Int) - 1) = (k : Int) - 1 := IntWalk.i64_in _ (by omega)
      have s2 : IntKind.i64.wrap ((p : Int) + 1) = (p : Int) + 1 := IntWalk.i64_in _ (by omega)
      go_wp2_with fail
      go_quiet (fail)
      clear s1 s2 s3 s4
      go_wp2_with fail
      go_ret
      exact ⟨ret_bool HX.out, below_drewN HBA.out _⟩
    ·have z2 : decide ((0 : Int) < (k : Int)) = false := decide_eq_false (by omega)
     have HO : Hid (∀ i (h : i < rs.length), i < k + 1 → okR rs i h) := Lib.hid (fun i h hi' => by
      by_cases e : i = k
      ·subst e; exact HOK.out.2 ⟨h1, fun h => absurd h h2⟩
      ·exact hok.out i h (by omega))
     have z4 : decide (hi < lo) = false := decide_eq_false (by omega)
     go_wp2_with fail
     go_quiet (fail)
     clear z4
     go_wp2_with fail
     go_roundw
     case rel => exact ⟨k + 1, by go_num, by omega, HO, below_drewN HBA.out _⟩
     case measure => simp [intOf]; omega
   ·have z1 : decide ((hi : Int) < (lo : Int)) = true := decide_eq_true (by omega)
    have z4 : decide (hi < lo) = true := decide_eq_true (by omega)
    have HX : Hid (false = B) := Lib.hid (HN.out fun h => h1 (HOK.out.1 (h.2 k hlt)).1)
    go_wp2_with fail
    go_quiet (fail)
    clear z4
    go_wp2_with fail
    go_ret
    exact ⟨ret_bool HX.out, below_drewN HBA.out _⟩
  ·obtain rfl : k = rs.length := by omega
   by_cases h0 : 0 < rs.length
   ·have HX : Hid (true = B) := Lib.hid (HY.out ⟨h0, fun i h => hok.out i h h⟩)
    have z0 : decide ((0 : Int) < (rs.length : Int)) = true := decide_eq_true (by omega)
    go_wp2_with fail
    go_ret
    exact ⟨ret_bool HX.out, HB.out⟩
   ·have HX : Hid (false = B) := Lib.hid (HN.out fun h => h0 h.1)
    have z0 : decide ((0 : Int) < (rs.length : Int)) = false := decide_eq_false (by omega)
    go_wp2_with fail
    go_ret
    exact ⟨ret_bool HX.out, HB.out⟩
set_option maxRecDepth 100000 in
set_option maxHeartbeats 2000000 in
theorem rname_any (l : List UInt8) (w : World) (hml : l.length ≤ 9223372036854775807) :
  Calls Tryz.prog 30 #[.string ⟨l.toArray⟩, .int .i64 32] w fun e w' => e = .returned (.bool (nmB l)) ∧ w = w' := by
 rcases Nat.eq_zero_or_pos l.length with h0 | hpos
 ·obtain rfl := List.length_eq_zero_iff.1 h0
  rw [nmB_no (fun h => by have := h.1; simp at this)]
  clear h0 hml
  go_enter Tryz.func30, Tryz.ntmps30
  go_wp2_with fail
  go_ret
  exact ⟨rfl, rfl⟩
 ·have z0 : decide ((l.length : Int) < 1) = false := decide_eq_false (by omega)
  by_cases h32 : 32 < l.length
  ·have z1 : decide ((32 : Int) < (l.length : Int)) = true := decide_eq_true (by omega)
   rw [nmB_no (fun h => by have := h.2.1; omega)]
   go_enter Tryz.func30, Tryz.ntmps30
   go_wp2_with fail
   go_ret
   exact ⟨rfl, rfl⟩
  ·have z1 : decide ((32 : Int) < (l.length : Int)) = false := decide_eq_false (by omega)
   obtain ⟨c0, ⟨_, hx0⟩, hc0, hb0⟩ := byte_at l 0 hpos
   have HL := Lib.hid (rletter_any c0 w hb0)
   obtain ⟨R, hR⟩ : ∃ R, nmB l = R := ⟨_, rfl⟩
   have HR := Lib.hid hR
   rw [hR]
   have HC0 := Lib.hid hc0
   clear hR hc0
   cases hl : Asc.isLetter c0
   ·have HZ : Hid (false = R) := Lib.hid (by rw [← HR.out, nmB_no (fun h => by have := h.2.2.1 hpos; rw [HC0.out, hl] at this; cases this)])
    rw [hl] at HL
    clear hl
    go_enter Tryz.func30, Tryz.ntmps30
    go_wp2_with (go_at_call 47; refine HL.out.mono ?_; rintro e w' ⟨rfl, rfl⟩)
    go_ret
    exact ⟨ret_bool HZ.out, rfl⟩
   ·have HY : Hid ((∀ i (h : i < l.length), Asc.isWord (l[i]).toNat = true) → true = R) := Lib.hid (fun h => by rw [← HR.out, nmB_yes ⟨hpos, by omega, fun _ => by rw [HC0.out]; exact hl, h⟩])
    have HN : Hid (∀ i (h : i < l.length), Asc.isWord (l[i]).toNat = false → false = R) := Lib.hid (fun i h h2 => by rw [← HR.out, nmB_no (fun hh => by have := hh.2.2.2 i h; rw [h2] at this; cases this)])
    rw [hl] at HL
    clear hl
    go_enter Tryz.func30, Tryz.ntmps30
    go_wp2_with (go_at_call 47; refine HL.out.mono ?_; rintro e w' ⟨rfl, rfl⟩)
    clear hx0
    go_loop [5] (fun i => ∃ k : Nat, k ≤ l.length ∧ i = .int .i64 k ∧ Hid (∀ i (h : i < l.length), i < k → Asc.isWord (l[i]).toNat = true)) (fun i => l.length - (intOf i).toNat)
    case atStart => exact ⟨0, by omega, rfl, Lib.hid (fun _ _ _ => by omega)⟩
    case round =>
     obtain ⟨k, hkl, rfl, HALL⟩ := hrel
     by_cases hlt : k < l.length
     ·obtain ⟨c, ⟨_, hx⟩, hc, hb⟩ := byte_at l k hlt
      have HC := Lib.hid hc
      have HW := Lib.hid (rword_any c w hb)
      clear hc
      cases hw : Asc.isWord c
      ·have HZ : Hid (false = R) := Lib.hid (HN.out k hlt (by rw [HC.out]; exact hw))
       rw [hw] at HW
       clear hw
       go_wp2_with (go_at_call 48; refine HW.out.mono ?_; rintro e w' ⟨rfl, rfl⟩)
       go_ret
       exact ⟨ret_bool HZ.out, rfl⟩
      ·have HNX : Hid (∀ i (h : i < l.length), i < k + 1 → Asc.isWord (l[i]).toNat = true) := Lib.hid (fun i h h2 => by
        by_cases e : i = k
        ·subst e; rw [HC.out]; exact hw
        ·exact HALL.out i h (by omega))
       rw [hw] at HW
       clear hw
       go_wp2_with (go_at_call 48; refine HW.out.mono ?_; rintro e w' ⟨rfl, rfl⟩)
       go_round
       case rel => exact ⟨k + 1, by omega, by go_num, HNX⟩
       case measure => simp [intOf]; omega
     ·obtain rfl : k = l.length := by omega
      have HZ : Hid (true = R) := Lib.hid (HY.out (fun i h => HALL.out i h h))
      go_wp2_with fail
      go_ret
      exact ⟨ret_bool HZ.out, rfl⟩
set_option maxRecDepth 100000 in
set_option maxHeartbeats 4000000 in
theorem bare_1 (rs : List (UInt8 × UInt8)) (nm : List UInt8) (n : Nat) (mn mx : Int) (ra : Option Addr) (rc : Nat) (a : Option Addr) (c : Nat) (w : World) :
  Calls Tryz.prog 117 #[.agg #[.int .i64 1, .slice ra rs.length rc, .string ⟨nm.toArray⟩, .slice a n c, .int .i64 mn, .int .i64 mx]] w fun e w' => e = .returned (.bool (bareB 1 rs nm mn mx)) ∧ Below w.heap.size w w' := by
 obtain ⟨B, hB⟩ : ∃ B, bareB 1 rs nm mn mx = B := ⟨_, rfl⟩
 rw [hB]
 have HB := Lib.hid hB
 have HB0 := Lib.hid ((Below.refl _ w).alloc (Nat.le_refl _) (.cells #[.int .i64 1, .slice ra rs.length rc, .string ⟨nm.toArray⟩, .slice a n c, .int .i64 mn, .int .i64 mx] 38))
 clear hB
 cases nm with
 | nil =>
  by_cases m0 : mn = 0
  ·have b1 : (mn == 0) = true := by simpa using m0
   by_cases m1 : mx = 0
   ·have b2 : (mx == 0) = true := by simpa using m1
    have HX : Hid (true = B) := Lib.hid (by rw [← HB.out]; unfold bareB; simp [*])
    (try clear r0); (try clear m0); (try clear m1)
    go_enter Tryz.func117, Tryz.ntmps117
    go_wp2_with fail
    go_ret
    exact ⟨ret_bool HX.out, HB0.out⟩
   ·have b2 : (mx == 0) = false := by simpa using m1
    have HX : Hid (false = B) := Lib.hid (by rw [← HB.out]; unfold bareB; simp [*])
    (try clear r0); (try clear m0); (try clear m1)
    go_enter Tryz.func117, Tryz.ntmps117
    go_wp2_with fail
    go_ret
    exact ⟨ret_bool HX.out, HB0.out⟩
  ·have b1 : (mn == 0) = false := by simpa using m0
   have HX : Hid (false = B) := Lib.hid (by rw [← HB.out]; unfold bareB; simp [*])
   (try clear r0); (try clear m0); (try clear m1)
   go_enter Tryz.func117, Tryz.ntmps117
   go_wp2_with fail
   go_ret
   exact ⟨ret_bool HX.out, HB0.out⟩
 | cons x xs =>
  have HX : Hid (false = B) := Lib.hid (by rw [← HB.out]; unfold bareB; simp [*])
  (try clear r0); (try clear m0); (try clear m1)
  go_enter Tryz.func117, Tryz.ntmps117
  go_wp2_with fail
  go_ret
  exact ⟨ret_bool HX.out, HB0.out⟩
set_option maxRecDepth 100000 in
set_option maxHeartbeats 4000000 in
theorem bare_4 (rs : List (UInt8 × UInt8)) (nm : List UInt8) (n : Nat) (mn mx : Int) (ra : Option Addr) (rc : Nat) (a : Option Addr) (c : Nat) (w : World) :
  Calls Tryz.prog 117 #[.agg #[.int .i64 4, .slice ra rs.length rc, .string ⟨nm.toArray⟩, .slice a n c, .int .i64 mn, .int .i64 mx]] w fun e w' => e = .returned (.bool (bareB 4 rs nm mn mx)) ∧ Below w.heap.size w w' := by
 obtain ⟨B, hB⟩ : ∃ B, bareB 4 rs nm mn mx = B := ⟨_, rfl⟩
 rw [hB]
 have HB := Lib.hid hB
 have HB0 := Lib.hid ((Below.refl _ w).alloc (Nat.le_refl _) (.cells #[.int .i64 4, .slice ra rs.length rc, .string ⟨nm.toArray⟩, .slice a n c, .int .i64 mn, .int .i64 mx] 38))
 clear hB
 by_cases r0 : rs.length = 0
 ·have y2 : ((rs.length : Int) == 0) = true := by rw [beq_iff_eq]; omega
  cases nm with
  | nil =>
   have HX : Hid (true = B) := Lib.hid (by rw [← HB.out]; unfold bareB; simp [*])
   (try clear r0); (try clear m0); (try clear m1)
   go_enter Tryz.func117, Tryz.ntmps117
   go_wp2_with fail
   go_ret
   exact ⟨ret_bool HX.out, HB0.out⟩
  | cons x xs =>
   have HX : Hid (false = B) := Lib.hid (by rw [← HB.out]; unfold bareB; simp [*])
   (try clear r0); (try clear m0); (try clear m1)
   go_enter Tryz.func117, Tryz.ntmps117
   go_wp2_with fail
   go_ret
   exact ⟨ret_bool HX.out, HB0.out⟩
 ·have y2 : ((rs.length : Int) == 0) = false := by rw [beq_eq_false_iff_ne]; omega
  have HX : Hid (false = B) := Lib.hid (by rw [← HB.out]; unfold bareB; simp [*])
  (try clear r0); (try clear m0); (try clear m1)
  go_enter Tryz.func117, Tryz.ntmps117
  go_wp2_with fail
  go_ret
  exact ⟨ret_bool HX.out, HB0.out⟩
set_option maxRecDepth 100000 in
set_option maxHeartbeats 4000000 in
theorem bare_5 (rs : List (UInt8 × UInt8)) (nm : List UInt8) (n : Nat) (mn mx : Int) (ra : Option Addr) (rc : Nat) (a : Option Addr) (c : Nat) (w : World) :
  Calls Tryz.prog 117 #[.agg #[.int .i64 5, .slice ra rs.length rc, .string ⟨nm.toArray⟩, .slice a n c, .int .i64 mn, .int .i64 mx]] w fun e w' => e = .returned (.bool (bareB 5 rs nm mn mx)) ∧ Below w.heap.size w w' := by
 obtain ⟨B, hB⟩ : ∃ B, bareB 5 rs nm mn mx = B := ⟨_, rfl⟩
 rw [hB]
 have HB := Lib.hid hB
 have HB0 := Lib.hid ((Below.refl _ w).alloc (Nat.le_refl _) (.cells #[.int .i64 5, .slice ra rs.length rc, .string ⟨nm.toArray⟩, .slice a n c, .int .i64 mn, .int .i64 mx] 38))
 clear hB
 by_cases r0 : rs.length = 0
 ·have y2 : ((rs.length : Int) == 0) = true := by rw [beq_iff_eq]; omega
  by_cases m0 : mn = 0
  ·have b1 : (mn == 0) = true := by simpa using m0
   by_cases m1 : mx = 0
   ·have b2 : (mx == 0) = true := by simpa using m1
    have HX : Hid (true = B) := Lib.hid (by rw [← HB.out]; unfold bareB; simp [*])
    (try clear r0); (try clear m0); (try clear m1)
    go_enter Tryz.func117, Tryz.ntmps117
    go_wp2_with fail
    go_ret
    exact ⟨ret_bool HX.out, HB0.out⟩
   ·have b2 : (mx == 0) = false := by simpa using m1
    have HX : Hid (false = B) := Lib.hid (by rw [← HB.out]; unfold bareB; simp [*])
    (try clear r0); (try clear m0); (try clear m1)
    go_enter Tryz.func117, Tryz.ntmps117
    go_wp2_with fail
    go_ret
    exact ⟨ret_bool HX.out, HB0.out⟩
  ·have b1 : (mn == 0) = false := by simpa using m0
   have HX : Hid (false = B) := Lib.hid (by rw [← HB.out]; unfold bareB; simp [*])
   (try clear r0); (try clear m0); (try clear m1)
   go_enter Tryz.func117, Tryz.ntmps117
   go_wp2_with fail
   go_ret
   exact ⟨ret_bool HX.out, HB0.out⟩
 ·have y2 : ((rs.length : Int) == 0) = false := by rw [beq_eq_false_iff_ne]; omega
  have HX : Hid (false = B) := Lib.hid (by rw [← HB.out]; unfold bareB; simp [*])
  (try clear r0); (try clear m0); (try clear m1)
  go_enter Tryz.func117, Tryz.ntmps117
  go_wp2_with fail
  go_ret
  exact ⟨ret_bool HX.out, HB0.out⟩
set_option maxRecDepth 100000 in
set_option maxHeartbeats 4000000 in
theorem bare_no (op : Int) (rs : List (UInt8 × UInt8)) (nm : List UInt8) (n : Nat) (mn mx : Int) (ra : Option Addr) (rc : Nat) (a : Option Addr) (c : Nat) (w : World) (h1 : op ≠ 1) (h4 : op ≠ 4) (h5 : op ≠ 5) :
  Calls Tryz.prog 117 #[.agg #[.int .i64 op, .slice ra rs.length rc, .string ⟨nm.toArray⟩, .slice a n c, .int .i64 mn, .int .i64 mx]] w fun e w' => e = .returned (.bool (bareB op rs nm mn mx)) ∧ Below w.heap.size w w' := by
 obtain ⟨B, hB⟩ : ∃ B, bareB op rs nm mn mx = B := ⟨_, rfl⟩
 rw [hB]
 have HB := Lib.hid hB
 have HB0 := Lib.hid ((Below.refl _ w).alloc (Nat.le_refl _) (.cells #[.int .i64 op, .slice ra rs.length rc, .string ⟨nm.toArray⟩, .slice a n c, .int .i64 mn, .int .i64 mx] 38))
 clear hB
 have o1 : (op == 1) = false := by rw [beq_eq_false_iff_ne]; exact h1
 have o4 : (op == 4) = false := by rw [beq_eq_false_iff_ne]; exact h4
 have o5 : (op == 5) = false := by rw [beq_eq_false_iff_ne]; exact h5
 by_cases r0 : rs.length = 0
 ·have y2 : ((rs.length : Int) == 0) = true := by rw [beq_iff_eq]; omega
  cases nm with
  | nil =>
   by_cases m0 : mn = 0
   ·have b1 : (mn == 0) = true := by simpa using m0
    by_cases m1 : mx = 0
    ·have b2 : (mx == 0) = true := by simpa using m1
     have HX : Hid (true = B) := Lib.hid (by rw [← HB.out]; unfold bareB; simp [*])
     (try clear r0); (try clear m0); (try clear m1); clear h1 h4 h5
     go_enter Tryz.func117, Tryz.ntmps117
     go_wp2_with fail
     go_ret
     exact ⟨ret_bool HX.out, HB0.out⟩
    ·have b2 : (mx == 0) = false := by simpa using m1
     have HX : Hid (false = B) := Lib.hid (by rw [← HB.out]; unfold bareB; simp [*])
     (try clear r0); (try clear m0); (try clear m1); clear h1 h4 h5
     go_enter Tryz.func117, Tryz.ntmps117
     go_wp2_with fail
     go_ret
     exact ⟨ret_bool HX.out, HB0.out⟩
   ·have b1 : (mn == 0) = false := by simpa using m0
    have HX : Hid (false = B) := Lib.hid (by rw [← HB.out]; unfold bareB; simp [*])
    (try clear r0); (try clear m0); (try clear m1); clear h1 h4 h5
    go_enter Tryz.func117, Tryz.ntmps117
    go_wp2_with fail
    go_ret
    exact ⟨ret_bool HX.out, HB0.out⟩
  | cons x xs =>
   have HX : Hid (false = B) := Lib.hid (by rw [← HB.out]; unfold bareB; simp [*])
   (try clear r0); (try clear m0); (try clear m1); clear h1 h4 h5
   go_enter Tryz.func117, Tryz.ntmps117
   go_wp2_with fail
   go_ret
   exact ⟨ret_bool HX.out, HB0.out⟩
 ·have y2 : ((rs.length : Int) == 0) = false := by rw [beq_eq_false_iff_ne]; omega
  have HX : Hid (false = B) := Lib.hid (by rw [← HB.out]; unfold bareB; simp [*])
  (try clear r0); (try clear m0); (try clear m1); clear h1 h4 h5
  go_enter Tryz.func117, Tryz.ntmps117
  go_wp2_with fail
  go_ret
  exact ⟨ret_bool HX.out, HB0.out⟩
theorem bare_any (op : Int) (rs : List (UInt8 × UInt8)) (nm : List UInt8) (n : Nat) (mn mx : Int) (ra : Option Addr) (rc : Nat) (a : Option Addr) (c : Nat) (w : World) :
  Calls Tryz.prog 117 #[.agg #[.int .i64 op, .slice ra rs.length rc, .string ⟨nm.toArray⟩, .slice a n c, .int .i64 mn, .int .i64 mx]] w fun e w' => e = .returned (.bool (bareB op rs nm mn mx)) ∧ Below w.heap.size w w' := by
 by_cases h1 : op = 1
 ·subst h1; exact bare_1 rs nm n mn mx ra rc a c w
 by_cases h4 : op = 4
 ·subst h4; exact bare_4 rs nm n mn mx ra rc a c w
 by_cases h5 : op = 5
 ·subst h5; exact bare_5 rs nm n mn mx ra rc a c w
 exact bare_no op rs nm n mn mx ra rc a c w h1 h4 h5
set_option maxRecDepth 100000 in
set_option maxHeartbeats 4000000 in
theorem rshape_0 (rs : List (UInt8 × UInt8)) (nm : List UInt8) (n : Nat) (mn mx : Int) (ra : Option Addr) (rc : Nat) (a : Option Addr) (c : Nat) (w : World) (hr : RgAt w rs (.slice ra rs.length rc)) (_ : nm.length ≤ 9223372036854775807) :
  Calls Tryz.prog 94 #[.agg #[.int .i64 0, .slice ra rs.length rc, .string ⟨nm.toArray⟩, .slice a n c, .int .i64 mn, .int .i64 mx]] w fun e w' => e = .returned (.int .i64 (shE 0 rs nm n mn mx)) ∧ Below w.heap.size w w' := by
 obtain ⟨B, hB⟩ : ∃ B, shE 0 rs nm n mn mx = B := ⟨_, rfl⟩
 rw [hB]
 have HB := Lib.hid hB
 have HB0 := Lib.hid ((Below.refl _ w).alloc (Nat.le_refl _) (.cells #[.int .i64 0, .slice ra rs.length rc, .string ⟨nm.toArray⟩, .slice a n c, .int .i64 mn, .int .i64 mx] 38))
 have HS := Lib.hid fun W (hb : Below w.heap.size w W) => sorted_any rs (.slice ra rs.length rc) W (hr.later hb)
 have HC : Hid (∀ W, Below (w.heap.size + 1) (w.alloc (.cells #[.int .i64 0, .slice ra rs.length rc, .string ⟨nm.toArray⟩, .slice a n c, .int .i64 mn, .int .i64 mx] 38)) W → ∀ i u, (#[.int .i64 0, .slice ra rs.length rc, .string ⟨nm.toArray⟩, .slice a n c, .int .i64 mn, .int .i64 mx] : Array Value)[i]? = some u → W.cell? ⟨w.heap.size, i, none⟩ = some u) := Lib.hid (fun W hb i u hu => (hb.cell (p := ⟨w.heap.size, i, none⟩) (Nat.lt_succ_self _)).trans (by simp [go_sem]; simpa using hu))
 have HSH := Lib.hid (shp_0 rs nm n mn mx)
 clear hB hr
 by_cases k0 : n = 0
 ·have y1 : ((n : Int) != 0) = false := by rw [bne_eq_false_iff_eq]; omega
  have HBR := Lib.hid (bare_any 0 rs nm n mn mx ra rc a c)
  cases b0 : bareB 0 rs nm mn mx
  ·rw [b0] at HBR
   have HX : Hid (1 = B) := Lib.hid (by rw [← HB.out]; unfold shE; rw [HSH.out]; simp [*])
   (try clear kk); (try clear k0); (try clear r0); (try clear b0); (try clear e0); (try clear m0); (try clear m1); (try clear m2); (try clear m3); (try clear m4)
   go_enter Tryz.func94, Tryz.ntmps94
   go_wp2_with fail
   refine (HBR.out _).mono ?_
   rintro e w3 ⟨rfl, hb3⟩
   have HWw3 : Hid (Below (w.heap.size + 1) (w.alloc (.cells #[.int .i64 0, .slice ra rs.length rc, .string ⟨nm.toArray⟩, .slice a n c, .int .i64 mn, .int .i64 mx] 38)) w3) := Lib.hid (by simpa using hb3)
   have HB3 := Lib.hid (HB0.out.trans (hb3.mono HB0.out.size))
   clear hb3
   have kw30 : w3.cell? ⟨w.heap.size, 0, none⟩ = some (.int .i64 0) := HC.out _ HWw3.out 0 _ rfl
   have kw31 : w3.cell? ⟨w.heap.size, 1, none⟩ = some (.slice ra rs.length rc) := HC.out _ HWw3.out 1 _ rfl
   have kw32 : w3.cell? ⟨w.heap.size, 2, none⟩ = some (.string ⟨nm.toArray⟩) := HC.out _ HWw3.out 2 _ rfl
   have kw33 : w3.cell? ⟨w.heap.size, 3, none⟩ = some (.slice a n c) := HC.out _ HWw3.out 3 _ rfl
   have kw34 : w3.cell? ⟨w.heap.size, 4, none⟩ = some (.int .i64 mn) := HC.out _ HWw3.out 4 _ rfl
   have kw35 : w3.cell? ⟨w.heap.size, 5, none⟩ = some (.int .i64 mx) := HC.out _ HWw3.out 5 _ rfl
   go_wp2_with fail
   go_ret
   exact ⟨ret_int (by rw [← HX.out]; rfl), HB3.out⟩
  ·rw [b0] at HBR
   have HX : Hid (0 = B) := Lib.hid (by rw [← HB.out]; unfold shE; rw [HSH.out]; simp [*])
   (try clear kk); (try clear k0); (try clear r0); (try clear b0); (try clear e0); (try clear m0); (try clear m1); (try clear m2); (try clear m3); (try clear m4)
   go_enter Tryz.func94, Tryz.ntmps94
   go_wp2_with fail
   refine (HBR.out _).mono ?_
   rintro e w3 ⟨rfl, hb3⟩
   have HWw3 : Hid (Below (w.heap.size + 1) (w.alloc (.cells #[.int .i64 0, .slice ra rs.length rc, .string ⟨nm.toArray⟩, .slice a n c, .int .i64 mn, .int .i64 mx] 38)) w3) := Lib.hid (by simpa using hb3)
   have HB3 := Lib.hid (HB0.out.trans (hb3.mono HB0.out.size))
   clear hb3
   have kw30 : w3.cell? ⟨w.heap.size, 0, none⟩ = some (.int .i64 0) := HC.out _ HWw3.out 0 _ rfl
   have kw31 : w3.cell? ⟨w.heap.size, 1, none⟩ = some (.slice ra rs.length rc) := HC.out _ HWw3.out 1 _ rfl
   have kw32 : w3.cell? ⟨w.heap.size, 2, none⟩ = some (.string ⟨nm.toArray⟩) := HC.out _ HWw3.out 2 _ rfl
   have kw33 : w3.cell? ⟨w.heap.size, 3, none⟩ = some (.slice a n c) := HC.out _ HWw3.out 3 _ rfl
   have kw34 : w3.cell? ⟨w.heap.size, 4, none⟩ = some (.int .i64 mn) := HC.out _ HWw3.out 4 _ rfl
   have kw35 : w3.cell? ⟨w.heap.size, 5, none⟩ = some (.int .i64 mx) := HC.out _ HWw3.out 5 _ rfl
   go_wp2_with fail
   go_ret
   exact ⟨ret_int (by rw [← HX.out]; rfl), HB3.out⟩
 ·have y1 : ((n : Int) != 0) = true := by rw [bne_iff_ne]; omega
  have HX : Hid (1 = B) := Lib.hid (by rw [← HB.out]; unfold shE; rw [HSH.out]; simp [*])
  (try clear kk); (try clear k0); (try clear r0); (try clear b0); (try clear e0); (try clear m0); (try clear m1); (try clear m2); (try clear m3); (try clear m4)
  go_enter Tryz.func94, Tryz.ntmps94
  go_wp2_with fail
  go_ret
  exact ⟨ret_int (by rw [← HX.out]; rfl), HB0.out⟩
set_option maxRecDepth 100000 in
set_option maxHeartbeats 4000000 in
theorem rshape_1 (rs : List (UInt8 × UInt8)) (nm : List UInt8) (n : Nat) (mn mx : Int) (ra : Option Addr) (rc : Nat) (a : Option Addr) (c : Nat) (w : World) (hr : RgAt w rs (.slice ra rs.length rc)) (_ : nm.length ≤ 9223372036854775807) :
  Calls Tryz.prog 94 #[.agg #[.int .i64 1, .slice ra rs.length rc, .string ⟨nm.toArray⟩, .slice a n c, .int .i64 mn, .int .i64 mx]] w fun e w' => e = .returned (.int .i64 (shE 1 rs nm n mn mx)) ∧ Below w.heap.size w w' := by
 obtain ⟨B, hB⟩ : ∃ B, shE 1 rs nm n mn mx = B := ⟨_, rfl⟩
 rw [hB]
 have HB := Lib.hid hB
 have HB0 := Lib.hid ((Below.refl _ w).alloc (Nat.le_refl _) (.cells #[.int .i64 1, .slice ra rs.length rc, .string ⟨nm.toArray⟩, .slice a n c, .int .i64 mn, .int .i64 mx] 38))
 have HS := Lib.hid fun W (hb : Below w.heap.size w W) => sorted_any rs (.slice ra rs.length rc) W (hr.later hb)
 have HC : Hid (∀ W, Below (w.heap.size + 1) (w.alloc (.cells #[.int .i64 1, .slice ra rs.length rc, .string ⟨nm.toArray⟩, .slice a n c, .int .i64 mn, .int .i64 mx] 38)) W → ∀ i u, (#[.int .i64 1, .slice ra rs.length rc, .string ⟨nm.toArray⟩, .slice a n c, .int .i64 mn, .int .i64 mx] : Array Value)[i]? = some u → W.cell? ⟨w.heap.size, i, none⟩ = some u) := Lib.hid (fun W hb i u hu => (hb.cell (p := ⟨w.heap.size, i, none⟩) (Nat.lt_succ_self _)).trans (by simp [go_sem]; simpa using hu))
 have HSH := Lib.hid (shp_1 rs nm n mn mx)
 clear hB hr
 cases r0 : srtB rs
 ·rw [r0] at HS
  have HX : Hid (1 = B) := Lib.hid (by rw [← HB.out]; unfold shE; rw [HSH.out]; simp [*])
  (try clear kk); (try clear k0); (try clear r0); (try clear b0); (try clear e0); (try clear m0); (try clear m1); (try clear m2); (try clear m3); (try clear m4)
  go_enter Tryz.func94, Tryz.ntmps94
  go_wp2_with fail
  refine (HS.out _ HB0.out).mono ?_
  rintro e w2 ⟨rfl, hb2⟩
  have HWw2 : Hid (Below (w.heap.size + 1) (w.alloc (.cells #[.int .i64 1, .slice ra rs.length rc, .string ⟨nm.toArray⟩, .slice a n c, .int .i64 mn, .int .i64 mx] 38)) w2) := Lib.hid (by simpa using hb2)
  have HB2 := Lib.hid (HB0.out.trans (hb2.mono HB0.out.size))
  clear hb2
  have kw20 : w2.cell? ⟨w.heap.size, 0, none⟩ = some (.int .i64 1) := HC.out _ HWw2.out 0 _ rfl
  have kw21 : w2.cell? ⟨w.heap.size, 1, none⟩ = some (.slice ra rs.length rc) := HC.out _ HWw2.out 1 _ rfl
  have kw22 : w2.cell? ⟨w.heap.size, 2, none⟩ = some (.string ⟨nm.toArray⟩) := HC.out _ HWw2.out 2 _ rfl
  have kw23 : w2.cell? ⟨w.heap.size, 3, none⟩ = some (.slice a n c) := HC.out _ HWw2.out 3 _ rfl
  have kw24 : w2.cell? ⟨w.heap.size, 4, none⟩ = some (.int .i64 mn) := HC.out _ HWw2.out 4 _ rfl
  have kw25 : w2.cell? ⟨w.heap.size, 5, none⟩ = some (.int .i64 mx) := HC.out _ HWw2.out 5 _ rfl
  go_wp2_with fail
  go_ret
  exact ⟨ret_int (by rw [← HX.out]; rfl), HB2.out⟩
 ·rw [r0] at HS
  by_cases k0 : n = 0
  ·have y1 : ((n : Int) != 0) = false := by rw [bne_eq_false_iff_eq]; omega
   have HBR := Lib.hid (bare_any 1 rs nm n mn mx ra rc a c)
   cases b0 : bareB 1 rs nm mn mx
   ·rw [b0] at HBR
    have HX : Hid (1 = B) := Lib.hid (by rw [← HB.out]; unfold shE; rw [HSH.out]; simp [*])
    (try clear kk); (try clear k0); (try clear r0); (try clear b0); (try clear e0); (try clear m0); (try clear m1); (try clear m2); (try clear m3); (try clear m4)
    go_enter Tryz.func94, Tryz.ntmps94
    go_wp2_with fail
    refine (HS.out _ HB0.out).mono ?_
    rintro e w2 ⟨rfl, hb2⟩
    have HWw2 : Hid (Below (w.heap.size + 1) (w.alloc (.cells #[.int .i64 1, .slice ra rs.length rc, .string ⟨nm.toArray⟩, .slice a n c, .int .i64 mn, .int .i64 mx] 38)) w2) := Lib.hid (by simpa using hb2)
    have HB2 := Lib.hid (HB0.out.trans (hb2.mono HB0.out.size))
    clear hb2
    have kw20 : w2.cell? ⟨w.heap.size, 0, none⟩ = some (.int .i64 1) := HC.out _ HWw2.out 0 _ rfl
    have kw21 : w2.cell? ⟨w.heap.size, 1, none⟩ = some (.slice ra rs.length rc) := HC.out _ HWw2.out 1 _ rfl
    have kw22 : w2.cell? ⟨w.heap.size, 2, none⟩ = some (.string ⟨nm.toArray⟩) := HC.out _ HWw2.out 2 _ rfl
    have kw23 : w2.cell? ⟨w.heap.size, 3, none⟩ = some (.slice a n c) := HC.out _ HWw2.out 3 _ rfl
    have kw24 : w2.cell? ⟨w.heap.size, 4, none⟩ = some (.int .i64 mn) := HC.out _ HWw2.out 4 _ rfl
    have kw25 : w2.cell? ⟨w.heap.size, 5, none⟩ = some (.int .i64 mx) := HC.out _ HWw2.out 5 _ rfl
    go_wp2_with fail
    refine (HBR.out _).mono ?_
    rintro e w3 ⟨rfl, hb3⟩
    have HWw3 : Hid (Below (w.heap.size + 1) (w.alloc (.cells #[.int .i64 1, .slice ra rs.length rc, .string ⟨nm.toArray⟩, .slice a n c, .int .i64 mn, .int .i64 mx] 38)) w3) := Lib.hid (HWw2.out.trans (hb3.mono (Nat.le_trans (by simp) HWw2.out.size)))
    have HB3 := Lib.hid (HB2.out.trans (hb3.mono HB2.out.size))
    clear hb3
    have kw30 : w3.cell? ⟨w.heap.size, 0, none⟩ = some (.int .i64 1) := HC.out _ HWw3.out 0 _ rfl
    have kw31 : w3.cell? ⟨w.heap.size, 1, none⟩ = some (.slice ra rs.length rc) := HC.out _ HWw3.out 1 _ rfl
    have kw32 : w3.cell? ⟨w.heap.size, 2, none⟩ = some (.string ⟨nm.toArray⟩) := HC.out _ HWw3.out 2 _ rfl
    have kw33 : w3.cell? ⟨w.heap.size, 3, none⟩ = some (.slice a n c) := HC.out _ HWw3.out 3 _ rfl
    have kw34 : w3.cell? ⟨w.heap.size, 4, none⟩ = some (.int .i64 mn) := HC.out _ HWw3.out 4 _ rfl
    have kw35 : w3.cell? ⟨w.heap.size, 5, none⟩ = some (.int .i64 mx) := HC.out _ HWw3.out 5 _ rfl
    go_wp2_with fail
    go_ret
    exact ⟨ret_int (by rw [← HX.out]; rfl), HB3.out⟩
   ·rw [b0] at HBR
    have HX : Hid (0 = B) := Lib.hid (by rw [← HB.out]; unfold shE; rw [HSH.out]; simp [*])
    (try clear kk); (try clear k0); (try clear r0); (try clear b0); (try clear e0); (try clear m0); (try clear m1); (try clear m2); (try clear m3); (try clear m4)
    go_enter Tryz.func94, Tryz.ntmps94
    go_wp2_with fail
    refine (HS.out _ HB0.out).mono ?_
    rintro e w2 ⟨rfl, hb2⟩
    have HWw2 : Hid (Below (w.heap.size + 1) (w.alloc (.cells #[.int .i64 1, .slice ra rs.length rc, .string ⟨nm.toArray⟩, .slice a n c, .int .i64 mn, .int .i64 mx] 38)) w2) := Lib.hid (by simpa using hb2)
    have HB2 := Lib.hid (HB0.out.trans (hb2.mono HB0.out.size))
    clear hb2
    have kw20 : w2.cell? ⟨w.heap.size, 0, none⟩ = some (.int .i64 1) := HC.out _ HWw2.out 0 _ rfl
    have kw21 : w2.cell? ⟨w.heap.size, 1, none⟩ = some (.slice ra rs.length rc) := HC.out _ HWw2.out 1 _ rfl
    have kw22 : w2.cell? ⟨w.heap.size, 2, none⟩ = some (.string ⟨nm.toArray⟩) := HC.out _ HWw2.out 2 _ rfl
    have kw23 : w2.cell? ⟨w.heap.size, 3, none⟩ = some (.slice a n c) := HC.out _ HWw2.out 3 _ rfl
    have kw24 : w2.cell? ⟨w.heap.size, 4, none⟩ = some (.int .i64 mn) := HC.out _ HWw2.out 4 _ rfl
    have kw25 : w2.cell? ⟨w.heap.size, 5, none⟩ = some (.int .i64 mx) := HC.out _ HWw2.out 5 _ rfl
    go_wp2_with fail
    refine (HBR.out _).mono ?_
    rintro e w3 ⟨rfl, hb3⟩
    have HWw3 : Hid (Below (w.heap.size + 1) (w.alloc (.cells #[.int .i64 1, .slice ra rs.length rc, .string ⟨nm.toArray⟩, .slice a n c, .int .i64 mn, .int .i64 mx] 38)) w3) := Lib.hid (HWw2.out.trans (hb3.mono (Nat.le_trans (by simp) HWw2.out.size)))
    have HB3 := Lib.hid (HB2.out.trans (hb3.mono HB2.out.size))
    clear hb3
    have kw30 : w3.cell? ⟨w.heap.size, 0, none⟩ = some (.int .i64 1) := HC.out _ HWw3.out 0 _ rfl
    have kw31 : w3.cell? ⟨w.heap.size, 1, none⟩ = some (.slice ra rs.length rc) := HC.out _ HWw3.out 1 _ rfl
    have kw32 : w3.cell? ⟨w.heap.size, 2, none⟩ = some (.string ⟨nm.toArray⟩) := HC.out _ HWw3.out 2 _ rfl
    have kw33 : w3.cell? ⟨w.heap.size, 3, none⟩ = some (.slice a n c) := HC.out _ HWw3.out 3 _ rfl
    have kw34 : w3.cell? ⟨w.heap.size, 4, none⟩ = some (.int .i64 mn) := HC.out _ HWw3.out 4 _ rfl
    have kw35 : w3.cell? ⟨w.heap.size, 5, none⟩ = some (.int .i64 mx) := HC.out _ HWw3.out 5 _ rfl
    go_wp2_with fail
    go_ret
    exact ⟨ret_int (by rw [← HX.out]; rfl), HB3.out⟩
  ·have y1 : ((n : Int) != 0) = true := by rw [bne_iff_ne]; omega
   have HX : Hid (1 = B) := Lib.hid (by rw [← HB.out]; unfold shE; rw [HSH.out]; simp [*])
   (try clear kk); (try clear k0); (try clear r0); (try clear b0); (try clear e0); (try clear m0); (try clear m1); (try clear m2); (try clear m3); (try clear m4)
   go_enter Tryz.func94, Tryz.ntmps94
   go_wp2_with fail
   refine (HS.out _ HB0.out).mono ?_
   rintro e w2 ⟨rfl, hb2⟩
   have HWw2 : Hid (Below (w.heap.size + 1) (w.alloc (.cells #[.int .i64 1, .slice ra rs.length rc, .string ⟨nm.toArray⟩, .slice a n c, .int .i64 mn, .int .i64 mx] 38)) w2) := Lib.hid (by simpa using hb2)
   have HB2 := Lib.hid (HB0.out.trans (hb2.mono HB0.out.size))
   clear hb2
   have kw20 : w2.cell? ⟨w.heap.size, 0, none⟩ = some (.int .i64 1) := HC.out _ HWw2.out 0 _ rfl
   have kw21 : w2.cell? ⟨w.heap.size, 1, none⟩ = some (.slice ra rs.length rc) := HC.out _ HWw2.out 1 _ rfl
   have kw22 : w2.cell? ⟨w.heap.size, 2, none⟩ = some (.string ⟨nm.toArray⟩) := HC.out _ HWw2.out 2 _ rfl
   have kw23 : w2.cell? ⟨w.heap.size, 3, none⟩ = some (.slice a n c) := HC.out _ HWw2.out 3 _ rfl
   have kw24 : w2.cell? ⟨w.heap.size, 4, none⟩ = some (.int .i64 mn) := HC.out _ HWw2.out 4 _ rfl
   have kw25 : w2.cell? ⟨w.heap.size, 5, none⟩ = some (.int .i64 mx) := HC.out _ HWw2.out 5 _ rfl
   go_wp2_with fail
   go_ret
   exact ⟨ret_int (by rw [← HX.out]; rfl), HB2.out⟩
set_option maxRecDepth 100000 in
set_option maxHeartbeats 4000000 in
theorem rshape_2 (rs : List (UInt8 × UInt8)) (nm : List UInt8) (n : Nat) (mn mx : Int) (ra : Option Addr) (rc : Nat) (a : Option Addr) (c : Nat) (w : World) (hr : RgAt w rs (.slice ra rs.length rc)) (_ : nm.length ≤ 9223372036854775807) :
  Calls Tryz.prog 94 #[.agg #[.int .i64 2, .slice ra rs.length rc, .string ⟨nm.toArray⟩, .slice a n c, .int .i64 mn, .int .i64 mx]] w fun e w' => e = .returned (.int .i64 (shE 2 rs nm n mn mx)) ∧ Below w.heap.size w w' := by
 obtain ⟨B, hB⟩ : ∃ B, shE 2 rs nm n mn mx = B := ⟨_, rfl⟩
 rw [hB]
 have HB := Lib.hid hB
 have HB0 := Lib.hid ((Below.refl _ w).alloc (Nat.le_refl _) (.cells #[.int .i64 2, .slice ra rs.length rc, .string ⟨nm.toArray⟩, .slice a n c, .int .i64 mn, .int .i64 mx] 38))
 have HS := Lib.hid fun W (hb : Below w.heap.size w W) => sorted_any rs (.slice ra rs.length rc) W (hr.later hb)
 have HC : Hid (∀ W, Below (w.heap.size + 1) (w.alloc (.cells #[.int .i64 2, .slice ra rs.length rc, .string ⟨nm.toArray⟩, .slice a n c, .int .i64 mn, .int .i64 mx] 38)) W → ∀ i u, (#[.int .i64 2, .slice ra rs.length rc, .string ⟨nm.toArray⟩, .slice a n c, .int .i64 mn, .int .i64 mx] : Array Value)[i]? = some u → W.cell? ⟨w.heap.size, i, none⟩ = some u) := Lib.hid (fun W hb i u hu => (hb.cell (p := ⟨w.heap.size, i, none⟩) (Nat.lt_succ_self _)).trans (by simp [go_sem]; simpa using hu))
 have HSH := Lib.hid (shp_2 rs nm n mn mx)
 clear hB hr
 rcases Nat.lt_trichotomy n 2 with k0 | k0 | k0
 ·have y1 : (n : Int) < 2 := by omega
  have y2 : ((n : Int) != 2) = true := by rw [bne_iff_ne]; omega
  have kk : ¬ 2 ≤ n := by omega
  have HX : Hid (1 = B) := Lib.hid (by rw [← HB.out]; unfold shE; rw [HSH.out]; simp [*])
  (try clear kk); (try clear k0); (try clear r0); (try clear b0); (try clear e0); (try clear m0); (try clear m1); (try clear m2); (try clear m3); (try clear m4)
  go_enter Tryz.func94, Tryz.ntmps94
  go_wp2_with fail
  go_ret
  exact ⟨ret_int (by rw [← HX.out]; rfl), HB0.out⟩
 ·subst k0
  have HBR := Lib.hid (bare_any 2 rs nm 2 mn mx ra rc a c)
  cases b0 : bareB 2 rs nm mn mx
  ·rw [b0] at HBR
   have HX : Hid (1 = B) := Lib.hid (by rw [← HB.out]; unfold shE; rw [HSH.out]; simp [*])
   (try clear kk); (try clear k0); (try clear r0); (try clear b0); (try clear e0); (try clear m0); (try clear m1); (try clear m2); (try clear m3); (try clear m4)
   go_enter Tryz.func94, Tryz.ntmps94
   go_wp2_with fail
   refine (HBR.out _).mono ?_
   rintro e w3 ⟨rfl, hb3⟩
   have HWw3 : Hid (Below (w.heap.size + 1) (w.alloc (.cells #[.int .i64 2, .slice ra rs.length rc, .string ⟨nm.toArray⟩, .slice a 2 c, .int .i64 mn, .int .i64 mx] 38)) w3) := Lib.hid (by simpa using hb3)
   have HB3 := Lib.hid (HB0.out.trans (hb3.mono HB0.out.size))
   clear hb3
   have kw30 : w3.cell? ⟨w.heap.size, 0, none⟩ = some (.int .i64 2) := HC.out _ HWw3.out 0 _ rfl
   have kw31 : w3.cell? ⟨w.heap.size, 1, none⟩ = some (.slice ra rs.length rc) := HC.out _ HWw3.out 1 _ rfl
   have kw32 : w3.cell? ⟨w.heap.size, 2, none⟩ = some (.string ⟨nm.toArray⟩) := HC.out _ HWw3.out 2 _ rfl
   have kw33 : w3.cell? ⟨w.heap.size, 3, none⟩ = some (.slice a 2 c) := HC.out _ HWw3.out 3 _ rfl
   have kw34 : w3.cell? ⟨w.heap.size, 4, none⟩ = some (.int .i64 mn) := HC.out _ HWw3.out 4 _ rfl
   have kw35 : w3.cell? ⟨w.heap.size, 5, none⟩ = some (.int .i64 mx) := HC.out _ HWw3.out 5 _ rfl
   go_wp2_with fail
   go_ret
   exact ⟨ret_int (by rw [← HX.out]; rfl), HB3.out⟩
  ·rw [b0] at HBR
   have HX : Hid (0 = B) := Lib.hid (by rw [← HB.out]; unfold shE; rw [HSH.out]; simp [*])
   (try clear kk); (try clear k0); (try clear r0); (try clear b0); (try clear e0); (try clear m0); (try clear m1); (try clear m2); (try clear m3); (try clear m4)
   go_enter Tryz.func94, Tryz.ntmps94
   go_wp2_with fail
   refine (HBR.out _).mono ?_
   rintro e w3 ⟨rfl, hb3⟩
   have HWw3 : Hid (Below (w.heap.size + 1) (w.alloc (.cells #[.int .i64 2, .slice ra rs.length rc, .string ⟨nm.toArray⟩, .slice a 2 c, .int .i64 mn, .int .i64 mx] 38)) w3) := Lib.hid (by simpa using hb3)
   have HB3 := Lib.hid (HB0.out.trans (hb3.mono HB0.out.size))
   clear hb3
   have kw30 : w3.cell? ⟨w.heap.size, 0, none⟩ = some (.int .i64 2) := HC.out _ HWw3.out 0 _ rfl
   have kw31 : w3.cell? ⟨w.heap.size, 1, none⟩ = some (.slice ra rs.length rc) := HC.out _ HWw3.out 1 _ rfl
   have kw32 : w3.cell? ⟨w.heap.size, 2, none⟩ = some (.string ⟨nm.toArray⟩) := HC.out _ HWw3.out 2 _ rfl
   have kw33 : w3.cell? ⟨w.heap.size, 3, none⟩ = some (.slice a 2 c) := HC.out _ HWw3.out 3 _ rfl
   have kw34 : w3.cell? ⟨w.heap.size, 4, none⟩ = some (.int .i64 mn) := HC.out _ HWw3.out 4 _ rfl
   have kw35 : w3.cell? ⟨w.heap.size, 5, none⟩ = some (.int .i64 mx) := HC.out _ HWw3.out 5 _ rfl
   go_wp2_with fail
   go_ret
   exact ⟨ret_int (by rw [← HX.out]; rfl), HB3.out⟩
 ·have y1 : (2 : Int) < (n : Int) := by omega
  have kk : 2 ≤ n := by omega
  have HBR := Lib.hid (bare_any 2 rs nm n mn mx ra rc a c)
  cases b0 : bareB 2 rs nm mn mx
  ·rw [b0] at HBR
   have HX : Hid (1 = B) := Lib.hid (by rw [← HB.out]; unfold shE; rw [HSH.out]; simp [*])
   (try clear kk); (try clear k0); (try clear r0); (try clear b0); (try clear e0); (try clear m0); (try clear m1); (try clear m2); (try clear m3); (try clear m4)
   go_enter Tryz.func94, Tryz.ntmps94
   go_wp2_with fail
   refine (HBR.out _).mono ?_
   rintro e w3 ⟨rfl, hb3⟩
   have HWw3 : Hid (Below (w.heap.size + 1) (w.alloc (.cells #[.int .i64 2, .slice ra rs.length rc, .string ⟨nm.toArray⟩, .slice a n c, .int .i64 mn, .int .i64 mx] 38)) w3) := Lib.hid (by simpa using hb3)
   have HB3 := Lib.hid (HB0.out.trans (hb3.mono HB0.out.size))
   clear hb3
   have kw30 : w3.cell? ⟨w.heap.size, 0, none⟩ = some (.int .i64 2) := HC.out _ HWw3.out 0 _ rfl
   have kw31 : w3.cell? ⟨w.heap.size, 1, none⟩ = some (.slice ra rs.length rc) := HC.out _ HWw3.out 1 _ rfl
   have kw32 : w3.cell? ⟨w.heap.size, 2, none⟩ = some (.string ⟨nm.toArray⟩) := HC.out _ HWw3.out 2 _ rfl
   have kw33 : w3.cell? ⟨w.heap.size, 3, none⟩ = some (.slice a n c) := HC.out _ HWw3.out 3 _ rfl
   have kw34 : w3.cell? ⟨w.heap.size, 4, none⟩ = some (.int .i64 mn) := HC.out _ HWw3.out 4 _ rfl
   have kw35 : w3.cell? ⟨w.heap.size, 5, none⟩ = some (.int .i64 mx) := HC.out _ HWw3.out 5 _ rfl
   go_wp2_with fail
   go_ret
   exact ⟨ret_int (by rw [← HX.out]; rfl), HB3.out⟩
  ·rw [b0] at HBR
   have HX : Hid (0 = B) := Lib.hid (by rw [← HB.out]; unfold shE; rw [HSH.out]; simp [*])
   (try clear kk); (try clear k0); (try clear r0); (try clear b0); (try clear e0); (try clear m0); (try clear m1); (try clear m2); (try clear m3); (try clear m4)
   go_enter Tryz.func94, Tryz.ntmps94
   go_wp2_with fail
   refine (HBR.out _).mono ?_
   rintro e w3 ⟨rfl, hb3⟩
   have HWw3 : Hid (Below (w.heap.size + 1) (w.alloc (.cells #[.int .i64 2, .slice ra rs.length rc, .string ⟨nm.toArray⟩, .slice a n c, .int .i64 mn, .int .i64 mx] 38)) w3) := Lib.hid (by simpa using hb3)
   have HB3 := Lib.hid (HB0.out.trans (hb3.mono HB0.out.size))
   clear hb3
   have kw30 : w3.cell? ⟨w.heap.size, 0, none⟩ = some (.int .i64 2) := HC.out _ HWw3.out 0 _ rfl
   have kw31 : w3.cell? ⟨w.heap.size, 1, none⟩ = some (.slice ra rs.length rc) := HC.out _ HWw3.out 1 _ rfl
   have kw32 : w3.cell? ⟨w.heap.size, 2, none⟩ = some (.string ⟨nm.toArray⟩) := HC.out _ HWw3.out 2 _ rfl
   have kw33 : w3.cell? ⟨w.heap.size, 3, none⟩ = some (.slice a n c) := HC.out _ HWw3.out 3 _ rfl
   have kw34 : w3.cell? ⟨w.heap.size, 4, none⟩ = some (.int .i64 mn) := HC.out _ HWw3.out 4 _ rfl
   have kw35 : w3.cell? ⟨w.heap.size, 5, none⟩ = some (.int .i64 mx) := HC.out _ HWw3.out 5 _ rfl
   go_wp2_with fail
   go_ret
   exact ⟨ret_int (by rw [← HX.out]; rfl), HB3.out⟩
set_option maxRecDepth 100000 in
set_option maxHeartbeats 4000000 in
theorem rshape_3 (rs : List (UInt8 × UInt8)) (nm : List UInt8) (n : Nat) (mn mx : Int) (ra : Option Addr) (rc : Nat) (a : Option Addr) (c : Nat) (w : World) (hr : RgAt w rs (.slice ra rs.length rc)) (_ : nm.length ≤ 9223372036854775807) :
  Calls Tryz.prog 94 #[.agg #[.int .i64 3, .slice ra rs.length rc, .string ⟨nm.toArray⟩, .slice a n c, .int .i64 mn, .int .i64 mx]] w fun e w' => e = .returned (.int .i64 (shE 3 rs nm n mn mx)) ∧ Below w.heap.size w w' := by
 obtain ⟨B, hB⟩ : ∃ B, shE 3 rs nm n mn mx = B := ⟨_, rfl⟩
 rw [hB]
 have HB := Lib.hid hB
 have HB0 := Lib.hid ((Below.refl _ w).alloc (Nat.le_refl _) (.cells #[.int .i64 3, .slice ra rs.length rc, .string ⟨nm.toArray⟩, .slice a n c, .int .i64 mn, .int .i64 mx] 38))
 have HS := Lib.hid fun W (hb : Below w.heap.size w W) => sorted_any rs (.slice ra rs.length rc) W (hr.later hb)
 have HC : Hid (∀ W, Below (w.heap.size + 1) (w.alloc (.cells #[.int .i64 3, .slice ra rs.length rc, .string ⟨nm.toArray⟩, .slice a n c, .int .i64 mn, .int .i64 mx] 38)) W → ∀ i u, (#[.int .i64 3, .slice ra rs.length rc, .string ⟨nm.toArray⟩, .slice a n c, .int .i64 mn, .int .i64 mx] : Array Value)[i]? = some u → W.cell? ⟨w.heap.size, i, none⟩ = some u) := Lib.hid (fun W hb i u hu => (hb.cell (p := ⟨w.heap.size, i, none⟩) (Nat.lt_succ_self _)).trans (by simp [go_sem]; simpa using hu))
 have HSH := Lib.hid (shp_3 rs nm n mn mx)
 clear hB hr
 rcases Nat.lt_trichotomy n 2 with k0 | k0 | k0
 ·have y1 : (n : Int) < 2 := by omega
  have y2 : ((n : Int) != 2) = true := by rw [bne_iff_ne]; omega
  have kk : ¬ 2 ≤ n := by omega
  have HX : Hid (1 = B) := Lib.hid (by rw [← HB.out]; unfold shE; rw [HSH.out]; simp [*])
  (try clear kk); (try clear k0); (try clear r0); (try clear b0); (try clear e0); (try clear m0); (try clear m1); (try clear m2); (try clear m3); (try clear m4)
  go_enter Tryz.func94, Tryz.ntmps94
  go_wp2_with fail
  go_ret
  exact ⟨ret_int (by rw [← HX.out]; rfl), HB0.out⟩
 ·subst k0
  have HBR := Lib.hid (bare_any 3 rs nm 2 mn mx ra rc a c)
  cases b0 : bareB 3 rs nm mn mx
  ·rw [b0] at HBR
   have HX : Hid (1 = B) := Lib.hid (by rw [← HB.out]; unfold shE; rw [HSH.out]; simp [*])
   (try clear kk); (try clear k0); (try clear r0); (try clear b0); (try clear e0); (try clear m0); (try clear m1); (try clear m2); (try clear m3); (try clear m4)
   go_enter Tryz.func94, Tryz.ntmps94
   go_wp2_with fail
   refine (HBR.out _).mono ?_
   rintro e w3 ⟨rfl, hb3⟩
   have HWw3 : Hid (Below (w.heap.size + 1) (w.alloc (.cells #[.int .i64 3, .slice ra rs.length rc, .string ⟨nm.toArray⟩, .slice a 2 c, .int .i64 mn, .int .i64 mx] 38)) w3) := Lib.hid (by simpa using hb3)
   have HB3 := Lib.hid (HB0.out.trans (hb3.mono HB0.out.size))
   clear hb3
   have kw30 : w3.cell? ⟨w.heap.size, 0, none⟩ = some (.int .i64 3) := HC.out _ HWw3.out 0 _ rfl
   have kw31 : w3.cell? ⟨w.heap.size, 1, none⟩ = some (.slice ra rs.length rc) := HC.out _ HWw3.out 1 _ rfl
   have kw32 : w3.cell? ⟨w.heap.size, 2, none⟩ = some (.string ⟨nm.toArray⟩) := HC.out _ HWw3.out 2 _ rfl
   have kw33 : w3.cell? ⟨w.heap.size, 3, none⟩ = some (.slice a 2 c) := HC.out _ HWw3.out 3 _ rfl
   have kw34 : w3.cell? ⟨w.heap.size, 4, none⟩ = some (.int .i64 mn) := HC.out _ HWw3.out 4 _ rfl
   have kw35 : w3.cell? ⟨w.heap.size, 5, none⟩ = some (.int .i64 mx) := HC.out _ HWw3.out 5 _ rfl
   go_wp2_with fail
   go_ret
   exact ⟨ret_int (by rw [← HX.out]; rfl), HB3.out⟩
  ·rw [b0] at HBR
   have HX : Hid (0 = B) := Lib.hid (by rw [← HB.out]; unfold shE; rw [HSH.out]; simp [*])
   (try clear kk); (try clear k0); (try clear r0); (try clear b0); (try clear e0); (try clear m0); (try clear m1); (try clear m2); (try clear m3); (try clear m4)
   go_enter Tryz.func94, Tryz.ntmps94
   go_wp2_with fail
   refine (HBR.out _).mono ?_
   rintro e w3 ⟨rfl, hb3⟩
   have HWw3 : Hid (Below (w.heap.size + 1) (w.alloc (.cells #[.int .i64 3, .slice ra rs.length rc, .string ⟨nm.toArray⟩, .slice a 2 c, .int .i64 mn, .int .i64 mx] 38)) w3) := Lib.hid (by simpa using hb3)
   have HB3 := Lib.hid (HB0.out.trans (hb3.mono HB0.out.size))
   clear hb3
   have kw30 : w3.cell? ⟨w.heap.size, 0, none⟩ = some (.int .i64 3) := HC.out _ HWw3.out 0 _ rfl
   have kw31 : w3.cell? ⟨w.heap.size, 1, none⟩ = some (.slice ra rs.length rc) := HC.out _ HWw3.out 1 _ rfl
   have kw32 : w3.cell? ⟨w.heap.size, 2, none⟩ = some (.string ⟨nm.toArray⟩) := HC.out _ HWw3.out 2 _ rfl
   have kw33 : w3.cell? ⟨w.heap.size, 3, none⟩ = some (.slice a 2 c) := HC.out _ HWw3.out 3 _ rfl
   have kw34 : w3.cell? ⟨w.heap.size, 4, none⟩ = some (.int .i64 mn) := HC.out _ HWw3.out 4 _ rfl
   have kw35 : w3.cell? ⟨w.heap.size, 5, none⟩ = some (.int .i64 mx) := HC.out _ HWw3.out 5 _ rfl
   go_wp2_with fail
   go_ret
   exact ⟨ret_int (by rw [← HX.out]; rfl), HB3.out⟩
 ·have y1 : (2 : Int) < (n : Int) := by omega
  have kk : 2 ≤ n := by omega
  have HBR := Lib.hid (bare_any 3 rs nm n mn mx ra rc a c)
  cases b0 : bareB 3 rs nm mn mx
  ·rw [b0] at HBR
   have HX : Hid (1 = B) := Lib.hid (by rw [← HB.out]; unfold shE; rw [HSH.out]; simp [*])
   (try clear kk); (try clear k0); (try clear r0); (try clear b0); (try clear e0); (try clear m0); (try clear m1); (try clear m2); (try clear m3); (try clear m4)
   go_enter Tryz.func94, Tryz.ntmps94
   go_wp2_with fail
   refine (HBR.out _).mono ?_
   rintro e w3 ⟨rfl, hb3⟩
   have HWw3 : Hid (Below (w.heap.size + 1) (w.alloc (.cells #[.int .i64 3, .slice ra rs.length rc, .string ⟨nm.toArray⟩, .slice a n c, .int .i64 mn, .int .i64 mx] 38)) w3) := Lib.hid (by simpa using hb3)
   have HB3 := Lib.hid (HB0.out.trans (hb3.mono HB0.out.size))
   clear hb3
   have kw30 : w3.cell? ⟨w.heap.size, 0, none⟩ = some (.int .i64 3) := HC.out _ HWw3.out 0 _ rfl
   have kw31 : w3.cell? ⟨w.heap.size, 1, none⟩ = some (.slice ra rs.length rc) := HC.out _ HWw3.out 1 _ rfl
   have kw32 : w3.cell? ⟨w.heap.size, 2, none⟩ = some (.string ⟨nm.toArray⟩) := HC.out _ HWw3.out 2 _ rfl
   have kw33 : w3.cell? ⟨w.heap.size, 3, none⟩ = some (.slice a n c) := HC.out _ HWw3.out 3 _ rfl
   have kw34 : w3.cell? ⟨w.heap.size, 4, none⟩ = some (.int .i64 mn) := HC.out _ HWw3.out 4 _ rfl
   have kw35 : w3.cell? ⟨w.heap.size, 5, none⟩ = some (.int .i64 mx) := HC.out _ HWw3.out 5 _ rfl
   go_wp2_with fail
   go_ret
   exact ⟨ret_int (by rw [← HX.out]; rfl), HB3.out⟩
  ·rw [b0] at HBR
   have HX : Hid (0 = B) := Lib.hid (by rw [← HB.out]; unfold shE; rw [HSH.out]; simp [*])
   (try clear kk); (try clear k0); (try clear r0); (try clear b0); (try clear e0); (try clear m0); (try clear m1); (try clear m2); (try clear m3); (try clear m4)
   go_enter Tryz.func94, Tryz.ntmps94
   go_wp2_with fail
   refine (HBR.out _).mono ?_
   rintro e w3 ⟨rfl, hb3⟩
   have HWw3 : Hid (Below (w.heap.size + 1) (w.alloc (.cells #[.int .i64 3, .slice ra rs.length rc, .string ⟨nm.toArray⟩, .slice a n c, .int .i64 mn, .int .i64 mx] 38)) w3) := Lib.hid (by simpa using hb3)
   have HB3 := Lib.hid (HB0.out.trans (hb3.mono HB0.out.size))
   clear hb3
   have kw30 : w3.cell? ⟨w.heap.size, 0, none⟩ = some (.int .i64 3) := HC.out _ HWw3.out 0 _ rfl
   have kw31 : w3.cell? ⟨w.heap.size, 1, none⟩ = some (.slice ra rs.length rc) := HC.out _ HWw3.out 1 _ rfl
   have kw32 : w3.cell? ⟨w.heap.size, 2, none⟩ = some (.string ⟨nm.toArray⟩) := HC.out _ HWw3.out 2 _ rfl
   have kw33 : w3.cell? ⟨w.heap.size, 3, none⟩ = some (.slice a n c) := HC.out _ HWw3.out 3 _ rfl
   have kw34 : w3.cell? ⟨w.heap.size, 4, none⟩ = some (.int .i64 mn) := HC.out _ HWw3.out 4 _ rfl
   have kw35 : w3.cell? ⟨w.heap.size, 5, none⟩ = some (.int .i64 mx) := HC.out _ HWw3.out 5 _ rfl
   go_wp2_with fail
   go_ret
   exact ⟨ret_int (by rw [← HX.out]; rfl), HB3.out⟩
set_option maxRecDepth 100000 in
set_option maxHeartbeats 4000000 in
theorem rshape_6 (rs : List (UInt8 × UInt8)) (nm : List UInt8) (n : Nat) (mn mx : Int) (ra : Option Addr) (rc : Nat) (a : Option Addr) (c : Nat) (w : World) (hr : RgAt w rs (.slice ra rs.length rc)) (_ : nm.length ≤ 9223372036854775807) :
  Calls Tryz.prog 94 #[.agg #[.int .i64 6, .slice ra rs.length rc, .string ⟨nm.toArray⟩, .slice a n c, .int .i64 mn, .int .i64 mx]] w fun e w' => e = .returned (.int .i64 (shE 6 rs nm n mn mx)) ∧ Below w.heap.size w w' := by
 obtain ⟨B, hB⟩ : ∃ B, shE 6 rs nm n mn mx = B := ⟨_, rfl⟩
 rw [hB]
 have HB := Lib.hid hB
 have HB0 := Lib.hid ((Below.refl _ w).alloc (Nat.le_refl _) (.cells #[.int .i64 6, .slice ra rs.length rc, .string ⟨nm.toArray⟩, .slice a n c, .int .i64 mn, .int .i64 mx] 38))
 have HS := Lib.hid fun W (hb : Below w.heap.size w W) => sorted_any rs (.slice ra rs.length rc) W (hr.later hb)
 have HC : Hid (∀ W, Below (w.heap.size + 1) (w.alloc (.cells #[.int .i64 6, .slice ra rs.length rc, .string ⟨nm.toArray⟩, .slice a n c, .int .i64 mn, .int .i64 mx] 38)) W → ∀ i u, (#[.int .i64 6, .slice ra rs.length rc, .string ⟨nm.toArray⟩, .slice a n c, .int .i64 mn, .int .i64 mx] : Array Value)[i]? = some u → W.cell? ⟨w.heap.size, i, none⟩ = some u) := Lib.hid (fun W hb i u hu => (hb.cell (p := ⟨w.heap.size, i, none⟩) (Nat.lt_succ_self _)).trans (by simp [go_sem]; simpa using hu))
 have HSH := Lib.hid (shp_6 rs nm n mn mx)
 clear hB hr
 by_cases k0 : n = 0
 ·have y1 : ((n : Int) != 0) = false := by rw [bne_eq_false_iff_eq]; omega
  have HBR := Lib.hid (bare_any 6 rs nm n mn mx ra rc a c)
  cases b0 : bareB 6 rs nm mn mx
  ·rw [b0] at HBR
   have HX : Hid (1 = B) := Lib.hid (by rw [← HB.out]; unfold shE; rw [HSH.out]; simp [*])
   (try clear kk); (try clear k0); (try clear r0); (try clear b0); (try clear e0); (try clear m0); (try clear m1); (try clear m2); (try clear m3); (try clear m4)
   go_enter Tryz.func94, Tryz.ntmps94
   go_wp2_with fail
   refine (HBR.out _).mono ?_
   rintro e w3 ⟨rfl, hb3⟩
   have HWw3 : Hid (Below (w.heap.size + 1) (w.alloc (.cells #[.int .i64 6, .slice ra rs.length rc, .string ⟨nm.toArray⟩, .slice a n c, .int .i64 mn, .int .i64 mx] 38)) w3) := Lib.hid (by simpa using hb3)
   have HB3 := Lib.hid (HB0.out.trans (hb3.mono HB0.out.size))
   clear hb3
   have kw30 : w3.cell? ⟨w.heap.size, 0, none⟩ = some (.int .i64 6) := HC.out _ HWw3.out 0 _ rfl
   have kw31 : w3.cell? ⟨w.heap.size, 1, none⟩ = some (.slice ra rs.length rc) := HC.out _ HWw3.out 1 _ rfl
   have kw32 : w3.cell? ⟨w.heap.size, 2, none⟩ = some (.string ⟨nm.toArray⟩) := HC.out _ HWw3.out 2 _ rfl
   have kw33 : w3.cell? ⟨w.heap.size, 3, none⟩ = some (.slice a n c) := HC.out _ HWw3.out 3 _ rfl
   have kw34 : w3.cell? ⟨w.heap.size, 4, none⟩ = some (.int .i64 mn) := HC.out _ HWw3.out 4 _ rfl
   have kw35 : w3.cell? ⟨w.heap.size, 5, none⟩ = some (.int .i64 mx) := HC.out _ HWw3.out 5 _ rfl
   go_wp2_with fail
   go_ret
   exact ⟨ret_int (by rw [← HX.out]; rfl), HB3.out⟩
  ·rw [b0] at HBR
   have HX : Hid (0 = B) := Lib.hid (by rw [← HB.out]; unfold shE; rw [HSH.out]; simp [*])
   (try clear kk); (try clear k0); (try clear r0); (try clear b0); (try clear e0); (try clear m0); (try clear m1); (try clear m2); (try clear m3); (try clear m4)
   go_enter Tryz.func94, Tryz.ntmps94
   go_wp2_with fail
   refine (HBR.out _).mono ?_
   rintro e w3 ⟨rfl, hb3⟩
   have HWw3 : Hid (Below (w.heap.size + 1) (w.alloc (.cells #[.int .i64 6, .slice ra rs.length rc, .string ⟨nm.toArray⟩, .slice a n c, .int .i64 mn, .int .i64 mx] 38)) w3) := Lib.hid (by simpa using hb3)
   have HB3 := Lib.hid (HB0.out.trans (hb3.mono HB0.out.size))
   clear hb3
   have kw30 : w3.cell? ⟨w.heap.size, 0, none⟩ = some (.int .i64 6) := HC.out _ HWw3.out 0 _ rfl
   have kw31 : w3.cell? ⟨w.heap.size, 1, none⟩ = some (.slice ra rs.length rc) := HC.out _ HWw3.out 1 _ rfl
   have kw32 : w3.cell? ⟨w.heap.size, 2, none⟩ = some (.string ⟨nm.toArray⟩) := HC.out _ HWw3.out 2 _ rfl
   have kw33 : w3.cell? ⟨w.heap.size, 3, none⟩ = some (.slice a n c) := HC.out _ HWw3.out 3 _ rfl
   have kw34 : w3.cell? ⟨w.heap.size, 4, none⟩ = some (.int .i64 mn) := HC.out _ HWw3.out 4 _ rfl
   have kw35 : w3.cell? ⟨w.heap.size, 5, none⟩ = some (.int .i64 mx) := HC.out _ HWw3.out 5 _ rfl
   go_wp2_with fail
   go_ret
   exact ⟨ret_int (by rw [← HX.out]; rfl), HB3.out⟩
 ·have y1 : ((n : Int) != 0) = true := by rw [bne_iff_ne]; omega
  have HX : Hid (1 = B) := Lib.hid (by rw [← HB.out]; unfold shE; rw [HSH.out]; simp [*])
  (try clear kk); (try clear k0); (try clear r0); (try clear b0); (try clear e0); (try clear m0); (try clear m1); (try clear m2); (try clear m3); (try clear m4)
  go_enter Tryz.func94, Tryz.ntmps94
  go_wp2_with fail
  go_ret
  exact ⟨ret_int (by rw [← HX.out]; rfl), HB0.out⟩
set_option maxRecDepth 100000 in
set_option maxHeartbeats 4000000 in
theorem rshape_7 (rs : List (UInt8 × UInt8)) (nm : List UInt8) (n : Nat) (mn mx : Int) (ra : Option Addr) (rc : Nat) (a : Option Addr) (c : Nat) (w : World) (hr : RgAt w rs (.slice ra rs.length rc)) (_ : nm.length ≤ 9223372036854775807) :
  Calls Tryz.prog 94 #[.agg #[.int .i64 7, .slice ra rs.length rc, .string ⟨nm.toArray⟩, .slice a n c, .int .i64 mn, .int .i64 mx]] w fun e w' => e = .returned (.int .i64 (shE 7 rs nm n mn mx)) ∧ Below w.heap.size w w' := by
 obtain ⟨B, hB⟩ : ∃ B, shE 7 rs nm n mn mx = B := ⟨_, rfl⟩
 rw [hB]
 have HB := Lib.hid hB
 have HB0 := Lib.hid ((Below.refl _ w).alloc (Nat.le_refl _) (.cells #[.int .i64 7, .slice ra rs.length rc, .string ⟨nm.toArray⟩, .slice a n c, .int .i64 mn, .int .i64 mx] 38))
 have HS := Lib.hid fun W (hb : Below w.heap.size w W) => sorted_any rs (.slice ra rs.length rc) W (hr.later hb)
 have HC : Hid (∀ W, Below (w.heap.size + 1) (w.alloc (.cells #[.int .i64 7, .slice ra rs.length rc, .string ⟨nm.toArray⟩, .slice a n c, .int .i64 mn, .int .i64 mx] 38)) W → ∀ i u, (#[.int .i64 7, .slice ra rs.length rc, .string ⟨nm.toArray⟩, .slice a n c, .int .i64 mn, .int .i64 mx] : Array Value)[i]? = some u → W.cell? ⟨w.heap.size, i, none⟩ = some u) := Lib.hid (fun W hb i u hu => (hb.cell (p := ⟨w.heap.size, i, none⟩) (Nat.lt_succ_self _)).trans (by simp [go_sem]; simpa using hu))
 have HSH := Lib.hid (shp_7 rs nm n mn mx)
 clear hB hr
 by_cases k0 : n = 0
 ·have y1 : ((n : Int) != 0) = false := by rw [bne_eq_false_iff_eq]; omega
  have HBR := Lib.hid (bare_any 7 rs nm n mn mx ra rc a c)
  cases b0 : bareB 7 rs nm mn mx
  ·rw [b0] at HBR
   have HX : Hid (1 = B) := Lib.hid (by rw [← HB.out]; unfold shE; rw [HSH.out]; simp [*])
   (try clear kk); (try clear k0); (try clear r0); (try clear b0); (try clear e0); (try clear m0); (try clear m1); (try clear m2); (try clear m3); (try clear m4)
   go_enter Tryz.func94, Tryz.ntmps94
   go_wp2_with fail
   refine (HBR.out _).mono ?_
   rintro e w3 ⟨rfl, hb3⟩
   have HWw3 : Hid (Below (w.heap.size + 1) (w.alloc (.cells #[.int .i64 7, .slice ra rs.length rc, .string ⟨nm.toArray⟩, .slice a n c, .int .i64 mn, .int .i64 mx] 38)) w3) := Lib.hid (by simpa using hb3)
   have HB3 := Lib.hid (HB0.out.trans (hb3.mono HB0.out.size))
   clear hb3
   have kw30 : w3.cell? ⟨w.heap.size, 0, none⟩ = some (.int .i64 7) := HC.out _ HWw3.out 0 _ rfl
   have kw31 : w3.cell? ⟨w.heap.size, 1, none⟩ = some (.slice ra rs.length rc) := HC.out _ HWw3.out 1 _ rfl
   have kw32 : w3.cell? ⟨w.heap.size, 2, none⟩ = some (.string ⟨nm.toArray⟩) := HC.out _ HWw3.out 2 _ rfl
   have kw33 : w3.cell? ⟨w.heap.size, 3, none⟩ = some (.slice a n c) := HC.out _ HWw3.out 3 _ rfl
   have kw34 : w3.cell? ⟨w.heap.size, 4, none⟩ = some (.int .i64 mn) := HC.out _ HWw3.out 4 _ rfl
   have kw35 : w3.cell? ⟨w.heap.size, 5, none⟩ = some (.int .i64 mx) := HC.out _ HWw3.out 5 _ rfl
   go_wp2_with fail
   go_ret
   exact ⟨ret_int (by rw [← HX.out]; rfl), HB3.out⟩
  ·rw [b0] at HBR
   have HX : Hid (0 = B) := Lib.hid (by rw [← HB.out]; unfold shE; rw [HSH.out]; simp [*])
   (try clear kk); (try clear k0); (try clear r0); (try clear b0); (try clear e0); (try clear m0); (try clear m1); (try clear m2); (try clear m3); (try clear m4)
   go_enter Tryz.func94, Tryz.ntmps94
   go_wp2_with fail
   refine (HBR.out _).mono ?_
   rintro e w3 ⟨rfl, hb3⟩
   have HWw3 : Hid (Below (w.heap.size + 1) (w.alloc (.cells #[.int .i64 7, .slice ra rs.length rc, .string ⟨nm.toArray⟩, .slice a n c, .int .i64 mn, .int .i64 mx] 38)) w3) := Lib.hid (by simpa using hb3)
   have HB3 := Lib.hid (HB0.out.trans (hb3.mono HB0.out.size))
   clear hb3
   have kw30 : w3.cell? ⟨w.heap.size, 0, none⟩ = some (.int .i64 7) := HC.out _ HWw3.out 0 _ rfl
   have kw31 : w3.cell? ⟨w.heap.size, 1, none⟩ = some (.slice ra rs.length rc) := HC.out _ HWw3.out 1 _ rfl
   have kw32 : w3.cell? ⟨w.heap.size, 2, none⟩ = some (.string ⟨nm.toArray⟩) := HC.out _ HWw3.out 2 _ rfl
   have kw33 : w3.cell? ⟨w.heap.size, 3, none⟩ = some (.slice a n c) := HC.out _ HWw3.out 3 _ rfl
   have kw34 : w3.cell? ⟨w.heap.size, 4, none⟩ = some (.int .i64 mn) := HC.out _ HWw3.out 4 _ rfl
   have kw35 : w3.cell? ⟨w.heap.size, 5, none⟩ = some (.int .i64 mx) := HC.out _ HWw3.out 5 _ rfl
   go_wp2_with fail
   go_ret
   exact ⟨ret_int (by rw [← HX.out]; rfl), HB3.out⟩
 ·have y1 : ((n : Int) != 0) = true := by rw [bne_iff_ne]; omega
  have HX : Hid (1 = B) := Lib.hid (by rw [← HB.out]; unfold shE; rw [HSH.out]; simp [*])
  (try clear kk); (try clear k0); (try clear r0); (try clear b0); (try clear e0); (try clear m0); (try clear m1); (try clear m2); (try clear m3); (try clear m4)
  go_enter Tryz.func94, Tryz.ntmps94
  go_wp2_with fail
  go_ret
  exact ⟨ret_int (by rw [← HX.out]; rfl), HB0.out⟩
set_option maxRecDepth 100000 in
set_option maxHeartbeats 4000000 in
theorem rshape_no (op : Int) (rs : List (UInt8 × UInt8)) (nm : List UInt8) (n : Nat) (mn mx : Int) (ra : Option Addr) (rc : Nat) (a : Option Addr) (c : Nat) (w : World) (hop : op ≠ 0 ∧ op ≠ 1 ∧ op ≠ 2 ∧ op ≠ 3 ∧ op ≠ 4 ∧ op ≠ 5 ∧ op ≠ 6 ∧ op ≠ 7) :
  Calls Tryz.prog 94 #[.agg #[.int .i64 op, .slice ra rs.length rc, .string ⟨nm.toArray⟩, .slice a n c, .int .i64 mn, .int .i64 mx]] w fun e w' => e = .returned (.int .i64 (shE op rs nm n mn mx)) ∧ Below w.heap.size w w' := by
 obtain ⟨B, hB⟩ : ∃ B, shE op rs nm n mn mx = B := ⟨_, rfl⟩
 rw [hB]
 have HB := Lib.hid hB
 have HB0 := Lib.hid ((Below.refl _ w).alloc (Nat.le_refl _) (.cells #[.int .i64 op, .slice ra rs.length rc, .string ⟨nm.toArray⟩, .slice a n c, .int .i64 mn, .int .i64 mx] 38))
 have HX : Hid (1 = B) := Lib.hid (by rw [← HB.out]; unfold shE shpB; simp [hop])
 have o0 : (op == 0) = false := by rw [beq_eq_false_iff_ne]; exact hop.1
 have o1 : (op == 1) = false := by rw [beq_eq_false_iff_ne]; exact hop.2.1
 have o2 : (op == 2) = false := by rw [beq_eq_false_iff_ne]; exact hop.2.2.1
 have o3 : (op == 3) = false := by rw [beq_eq_false_iff_ne]; exact hop.2.2.2.1
 have o4 : (op == 4) = false := by rw [beq_eq_false_iff_ne]; exact hop.2.2.2.2.1
 have o5 : (op == 5) = false := by rw [beq_eq_false_iff_ne]; exact hop.2.2.2.2.2.1
 have o6 : (op == 6) = false := by rw [beq_eq_false_iff_ne]; exact hop.2.2.2.2.2.2.1
 have o7 : (op == 7) = false := by rw [beq_eq_false_iff_ne]; exact hop.2.2.2.2.2.2.2
 clear hB hop
 go_enter Tryz.func94, Tryz.ntmps94
 go_wp2_with fail
 go_ret
 exact ⟨ret_int (by rw [← HX.out]; rfl), HB0.out⟩
set_option maxRecDepth 100000 in
set_option maxHeartbeats 4000000 in
theorem rshape_4 (rs : List (UInt8 × UInt8)) (nm : List UInt8) (n : Nat) (mn mx : Int) (ra : Option Addr) (rc : Nat) (a : Option Addr) (c : Nat) (w : World) (hr : RgAt w rs (.slice ra rs.length rc)) (_ : nm.length ≤ 9223372036854775807) :
  Calls Tryz.prog 94 #[.agg #[.int .i64 4, .slice ra rs.length rc, .string ⟨nm.toArray⟩, .slice a n c, .int .i64 mn, .int .i64 mx]] w fun e w' => e = .returned (.int .i64 (shE 4 rs nm n mn mx)) ∧ Below w.heap.size w w' := by
 obtain ⟨B, hB⟩ : ∃ B, shE 4 rs nm n mn mx = B := ⟨_, rfl⟩
 rw [hB]
 have HB := Lib.hid hB
 have HB0 := Lib.hid ((Below.refl _ w).alloc (Nat.le_refl _) (.cells #[.int .i64 4, .slice ra rs.length rc, .string ⟨nm.toArray⟩, .slice a n c, .int .i64 mn, .int .i64 mx] 38))
 have HS := Lib.hid fun W (hb : Below w.heap.size w W) => sorted_any rs (.slice ra rs.length rc) W (hr.later hb)
 have HC : Hid (∀ W, Below (w.heap.size + 1) (w.alloc (.cells #[.int .i64 4, .slice ra rs.length rc, .string ⟨nm.toArray⟩, .slice a n c, .int .i64 mn, .int .i64 mx] 38)) W → ∀ i u, (#[.int .i64 4, .slice ra rs.length rc, .string ⟨nm.toArray⟩, .slice a n c, .int .i64 mn, .int .i64 mx] : Array Value)[i]? = some u → W.cell? ⟨w.heap.size, i, none⟩ = some u) := Lib.hid (fun W hb i u hu => (hb.cell (p := ⟨w.heap.size, i, none⟩) (Nat.lt_succ_self _)).trans (by simp [go_sem]; simpa using hu))
 have HSH := Lib.hid (shp_4 rs nm n mn mx)
 clear hB hr
 by_cases k0 : n = 1
 ·have y1 : ((n : Int) != 1) = false := by rw [bne_eq_false_iff_eq]; omega
  have HBR := Lib.hid (bare_any 4 rs nm n mn mx ra rc a c)
  cases b0 : bareB 4 rs nm mn mx
  ·rw [b0] at HBR
   have HX : Hid (1 = B) := Lib.hid (by rw [← HB.out]; unfold shE; rw [HSH.out]; simp [*])
   (try clear kk); (try clear k0); (try clear r0); (try clear b0); (try clear e0); (try clear m0); (try clear m1); (try clear m2); (try clear m3); (try clear m4)
   go_enter Tryz.func94, Tryz.ntmps94
   go_wp2_with fail
   refine (HBR.out _).mono ?_
   rintro e w3 ⟨rfl, hb3⟩
   have HWw3 : Hid (Below (w.heap.size + 1) (w.alloc (.cells #[.int .i64 4, .slice ra rs.length rc, .string ⟨nm.toArray⟩, .slice a n c, .int .i64 mn, .int .i64 mx] 38)) w3) := Lib.hid (by simpa using hb3)
   have HB3 := Lib.hid (HB0.out.trans (hb3.mono HB0.out.size))
   clear hb3
   have kw30 : w3.cell? ⟨w.heap.size, 0, none⟩ = some (.int .i64 4) := HC.out _ HWw3.out 0 _ rfl
   have kw31 : w3.cell? ⟨w.heap.size, 1, none⟩ = some (.slice ra rs.length rc) := HC.out _ HWw3.out 1 _ rfl
   have kw32 : w3.cell? ⟨w.heap.size, 2, none⟩ = some (.string ⟨nm.toArray⟩) := HC.out _ HWw3.out 2 _ rfl
   have kw33 : w3.cell? ⟨w.heap.size, 3, none⟩ = some (.slice a n c) := HC.out _ HWw3.out 3 _ rfl
   have kw34 : w3.cell? ⟨w.heap.size, 4, none⟩ = some (.int .i64 mn) := HC.out _ HWw3.out 4 _ rfl
   have kw35 : w3.cell? ⟨w.heap.size, 5, none⟩ = some (.int .i64 mx) := HC.out _ HWw3.out 5 _ rfl
   go_wp2_with fail
   go_ret
   exact ⟨ret_int (by rw [← HX.out]; rfl), HB3.out⟩
  ·rw [b0] at HBR
   by_cases m0 : mn < 0
   ·have z0 : decide (mn < 0) = true := decide_eq_true m0
    have hbad : badR mn mx = true := by unfold badR; simp; omega
    have HX : Hid (2 = B) := Lib.hid (by rw [← HB.out]; unfold shE; rw [HSH.out, hbad]; simp [k0, b0])
    clear hbad
    (try clear kk); (try clear k0); (try clear r0); (try clear b0); (try clear e0); (try clear m0); (try clear m1); (try clear m2); (try clear m3); (try clear m4)
    go_enter Tryz.func94, Tryz.ntmps94
    go_wp2_with fail
    refine (HBR.out _).mono ?_
    rintro e w3 ⟨rfl, hb3⟩
    have HWw3 : Hid (Below (w.heap.size + 1) (w.alloc (.cells #[.int .i64 4, .slice ra rs.length rc, .string ⟨nm.toArray⟩, .slice a n c, .int .i64 mn, .int .i64 mx] 38)) w3) := Lib.hid (by simpa using hb3)
    have HB3 := Lib.hid (HB0.out.trans (hb3.mono HB0.out.size))
    clear hb3
    have kw30 : w3.cell? ⟨w.heap.size, 0, none⟩ = some (.int .i64 4) := HC.out _ HWw3.out 0 _ rfl
    have kw31 : w3.cell? ⟨w.heap.size, 1, none⟩ = some (.slice ra rs.length rc) := HC.out _ HWw3.out 1 _ rfl
    have kw32 : w3.cell? ⟨w.heap.size, 2, none⟩ = some (.string ⟨nm.toArray⟩) := HC.out _ HWw3.out 2 _ rfl
    have kw33 : w3.cell? ⟨w.heap.size, 3, none⟩ = some (.slice a n c) := HC.out _ HWw3.out 3 _ rfl
    have kw34 : w3.cell? ⟨w.heap.size, 4, none⟩ = some (.int .i64 mn) := HC.out _ HWw3.out 4 _ rfl
    have kw35 : w3.cell? ⟨w.heap.size, 5, none⟩ = some (.int .i64 mx) := HC.out _ HWw3.out 5 _ rfl
    go_wp2_with fail
    go_ret
    exact ⟨ret_int (by rw [← HX.out]; rfl), HB3.out⟩
   ·have z0 : decide (mn < 0) = false := decide_eq_false m0
    by_cases m1 : 40 < mn
    ·have z1 : decide (40 < mn) = true := decide_eq_true m1
     have hbad : badR mn mx = true := by unfold badR; simp; omega
     have HX : Hid (2 = B) := Lib.hid (by rw [← HB.out]; unfold shE; rw [HSH.out, hbad]; simp [k0, b0])
     clear hbad
     (try clear kk); (try clear k0); (try clear r0); (try clear b0); (try clear e0); (try clear m0); (try clear m1); (try clear m2); (try clear m3); (try clear m4)
     go_enter Tryz.func94, Tryz.ntmps94
     go_wp2_with fail
     refine (HBR.out _).mono ?_
     rintro e w3 ⟨rfl, hb3⟩
     have HWw3 : Hid (Below (w.heap.size + 1) (w.alloc (.cells #[.int .i64 4, .slice ra rs.length rc, .string ⟨nm.toArray⟩, .slice a n c, .int .i64 mn, .int .i64 mx] 38)) w3) := Lib.hid (by simpa using hb3)
     have HB3 := Lib.hid (HB0.out.trans (hb3.mono HB0.out.size))
     clear hb3
     have kw30 : w3.cell? ⟨w.heap.size, 0, none⟩ = some (.int .i64 4) := HC.out _ HWw3.out 0 _ rfl
     have kw31 : w3.cell? ⟨w.heap.size, 1, none⟩ = some (.slice ra rs.length rc) := HC.out _ HWw3.out 1 _ rfl
     have kw32 : w3.cell? ⟨w.heap.size, 2, none⟩ = some (.string ⟨nm.toArray⟩) := HC.out _ HWw3.out 2 _ rfl
     have kw33 : w3.cell? ⟨w.heap.size, 3, none⟩ = some (.slice a n c) := HC.out _ HWw3.out 3 _ rfl
     have kw34 : w3.cell? ⟨w.heap.size, 4, none⟩ = some (.int .i64 mn) := HC.out _ HWw3.out 4 _ rfl
     have kw35 : w3.cell? ⟨w.heap.size, 5, none⟩ = some (.int .i64 mx) := HC.out _ HWw3.out 5 _ rfl
     go_wp2_with fail
     go_ret
     exact ⟨ret_int (by rw [← HX.out]; rfl), HB3.out⟩
    ·have z1 : decide (40 < mn) = false := decide_eq_false m1
     by_cases m2 : mx = -1
     ·have z2 : (mx != -1) = false := by rw [bne_eq_false_iff_eq]; exact m2
      have hbad : badR mn mx = false := by unfold badR; simp; omega
      have HX : Hid (0 = B) := Lib.hid (by rw [← HB.out]; unfold shE; rw [HSH.out, hbad]; simp [k0, b0])
      clear hbad
      (try clear kk); (try clear k0); (try clear r0); (try clear b0); (try clear e0); (try clear m0); (try clear m1); (try clear m2); (try clear m3); (try clear m4)
      go_enter Tryz.func94, Tryz.ntmps94
      go_wp2_with fail
      refine (HBR.out _).mono ?_
      rintro e w3 ⟨rfl, hb3⟩
      have HWw3 : Hid (Below (w.heap.size + 1) (w.alloc (.cells #[.int .i64 4, .slice ra rs.length rc, .string ⟨nm.toArray⟩, .slice a n c, .int .i64 mn, .int .i64 mx] 38)) w3) := Lib.hid (by simpa using hb3)
      have HB3 := Lib.hid (HB0.out.trans (hb3.mono HB0.out.size))
      clear hb3
      have kw30 : w3.cell? ⟨w.heap.size, 0, none⟩ = some (.int .i64 4) := HC.out _ HWw3.out 0 _ rfl
      have kw31 : w3.cell? ⟨w.heap.size, 1, none⟩ = some (.slice ra rs.length rc) := HC.out _ HWw3.out 1 _ rfl
      have kw32 : w3.cell? ⟨w.heap.size, 2, none⟩ = some (.string ⟨nm.toArray⟩) := HC.out _ HWw3.out 2 _ rfl
      have kw33 : w3.cell? ⟨w.heap.size, 3, none⟩ = some (.slice a n c) := HC.out _ HWw3.out 3 _ rfl
      have kw34 : w3.cell? ⟨w.heap.size, 4, none⟩ = some (.int .i64 mn) := HC.out _ HWw3.out 4 _ rfl
      have kw35 : w3.cell? ⟨w.heap.size, 5, none⟩ = some (.int .i64 mx) := HC.out _ HWw3.out 5 _ rfl
      go_wp2_with fail
      go_ret
      exact ⟨ret_int (by rw [← HX.out]; rfl), HB3.out⟩
     ·have z2 : (mx != -1) = true := by rw [bne_iff_ne]; exact m2
      by_cases m3 : mx < mn
      ·have z3 : decide (mx < mn) = true := decide_eq_true m3
       have hbad : badR mn mx = true := by unfold badR; simp; omega
       have HX : Hid (2 = B) := Lib.hid (by rw [← HB.out]; unfold shE; rw [HSH.out, hbad]; simp [k0, b0])
       clear hbad
       (try clear kk); (try clear k0); (try clear r0); (try clear b0); (try clear e0); (try clear m0); (try clear m1); (try clear m2); (try clear m3); (try clear m4)
       go_enter Tryz.func94, Tryz.ntmps94
       go_wp2_with fail
       refine (HBR.out _).mono ?_
       rintro e w3 ⟨rfl, hb3⟩
       have HWw3 : Hid (Below (w.heap.size + 1) (w.alloc (.cells #[.int .i64 4, .slice ra rs.length rc, .string ⟨nm.toArray⟩, .slice a n c, .int .i64 mn, .int .i64 mx] 38)) w3) := Lib.hid (by simpa using hb3)
       have HB3 := Lib.hid (HB0.out.trans (hb3.mono HB0.out.size))
       clear hb3
       have kw30 : w3.cell? ⟨w.heap.size, 0, none⟩ = some (.int .i64 4) := HC.out _ HWw3.out 0 _ rfl
       have kw31 : w3.cell? ⟨w.heap.size, 1, none⟩ = some (.slice ra rs.length rc) := HC.out _ HWw3.out 1 _ rfl
       have kw32 : w3.cell? ⟨w.heap.size, 2, none⟩ = some (.string ⟨nm.toArray⟩) := HC.out _ HWw3.out 2 _ rfl
       have kw33 : w3.cell? ⟨w.heap.size, 3, none⟩ = some (.slice a n c) := HC.out _ HWw3.out 3 _ rfl
       have kw34 : w3.cell? ⟨w.heap.size, 4, none⟩ = some (.int .i64 mn) := HC.out _ HWw3.out 4 _ rfl
       have kw35 : w3.cell? ⟨w.heap.size, 5, none⟩ = some (.int .i64 mx) := HC.out _ HWw3.out 5 _ rfl
       go_wp2_with fail
       go_ret
       exact ⟨ret_int (by rw [← HX.out]; rfl), HB3.out⟩
      ·have z3 : decide (mx < mn) = false := decide_eq_false m3
       by_cases m4 : 40 < mx
       ·have z4 : decide (40 < mx) = true := decide_eq_true m4
        have hbad : badR mn mx = true := by unfold badR; simp; omega
        have HX : Hid (2 = B) := Lib.hid (by rw [← HB.out]; unfold shE; rw [HSH.out, hbad]; simp [k0, b0])
        clear hbad
        (try clear kk); (try clear k0); (try clear r0); (try clear b0); (try clear e0); (try clear m0); (try clear m1); (try clear m2); (try clear m3); (try clear m4)
        go_enter Tryz.func94, Tryz.ntmps94
        go_wp2_with fail
        refine (HBR.out _).mono ?_
        rintro e w3 ⟨rfl, hb3⟩
        have HWw3 : Hid (Below (w.heap.size + 1) (w.alloc (.cells #[.int .i64 4, .slice ra rs.length rc, .string ⟨nm.toArray⟩, .slice a n c, .int .i64 mn, .int .i64 mx] 38)) w3) := Lib.hid (by simpa using hb3)
        have HB3 := Lib.hid (HB0.out.trans (hb3.mono HB0.out.size))
        clear hb3
        have kw30 : w3.cell? ⟨w.heap.size, 0, none⟩ = some (.int .i64 4) := HC.out _ HWw3.out 0 _ rfl
        have kw31 : w3.cell? ⟨w.heap.size, 1, none⟩ = some (.slice ra rs.length rc) := HC.out _ HWw3.out 1 _ rfl
        have kw32 : w3.cell? ⟨w.heap.size, 2, none⟩ = some (.string ⟨nm.toArray⟩) := HC.out _ HWw3.out 2 _ rfl
        have kw33 : w3.cell? ⟨w.heap.size, 3, none⟩ = some (.slice a n c) := HC.out _ HWw3.out 3 _ rfl
        have kw34 : w3.cell? ⟨w.heap.size, 4, none⟩ = some (.int .i64 mn) := HC.out _ HWw3.out 4 _ rfl
        have kw35 : w3.cell? ⟨w.heap.size, 5, none⟩ = some (.int .i64 mx) := HC.out _ HWw3.out 5 _ rfl
        go_wp2_with fail
        go_ret
        exact ⟨ret_int (by rw [← HX.out]; rfl), HB3.out⟩
       ·have z4 : decide (40 < mx) = false := decide_eq_false m4
        have hbad : badR mn mx = false := by unfold badR; simp; omega
        have HX : Hid (0 = B) := Lib.hid (by rw [← HB.out]; unfold shE; rw [HSH.out, hbad]; simp [k0, b0])
        clear hbad
        (try clear kk); (try clear k0); (try clear r0); (try clear b0); (try clear e0); (try clear m0); (try clear m1); (try clear m2); (try clear m3); (try clear m4)
        go_enter Tryz.func94, Tryz.ntmps94
        go_wp2_with fail
        refine (HBR.out _).mono ?_
        rintro e w3 ⟨rfl, hb3⟩
        have HWw3 : Hid (Below (w.heap.size + 1) (w.alloc (.cells #[.int .i64 4, .slice ra rs.length rc, .string ⟨nm.toArray⟩, .slice a n c, .int .i64 mn, .int .i64 mx] 38)) w3) := Lib.hid (by simpa using hb3)
        have HB3 := Lib.hid (HB0.out.trans (hb3.mono HB0.out.size))
        clear hb3
        have kw30 : w3.cell? ⟨w.heap.size, 0, none⟩ = some (.int .i64 4) := HC.out _ HWw3.out 0 _ rfl
        have kw31 : w3.cell? ⟨w.heap.size, 1, none⟩ = some (.slice ra rs.length rc) := HC.out _ HWw3.out 1 _ rfl
        have kw32 : w3.cell? ⟨w.heap.size, 2, none⟩ = some (.string ⟨nm.toArray⟩) := HC.out _ HWw3.out 2 _ rfl
        have kw33 : w3.cell? ⟨w.heap.size, 3, none⟩ = some (.slice a n c) := HC.out _ HWw3.out 3 _ rfl
        have kw34 : w3.cell? ⟨w.heap.size, 4, none⟩ = some (.int .i64 mn) := HC.out _ HWw3.out 4 _ rfl
        have kw35 : w3.cell? ⟨w.heap.size, 5, none⟩ = some (.int .i64 mx) := HC.out _ HWw3.out 5 _ rfl
        go_wp2_with fail
        go_ret
        exact ⟨ret_int (by rw [← HX.out]; rfl), HB3.out⟩
 ·have y1 : ((n : Int) != 1) = true := by rw [bne_iff_ne]; omega
  have HX : Hid (1 = B) := Lib.hid (by rw [← HB.out]; unfold shE; rw [HSH.out]; simp [*])
  (try clear kk); (try clear k0); (try clear r0); (try clear b0); (try clear e0); (try clear m0); (try clear m1); (try clear m2); (try clear m3); (try clear m4)
  go_enter Tryz.func94, Tryz.ntmps94
  go_wp2_with fail
  go_ret
  exact ⟨ret_int (by rw [← HX.out]; rfl), HB0.out⟩
set_option maxRecDepth 100000 in
set_option maxHeartbeats 4000000 in
theorem rshape_5 (rs : List (UInt8 × UInt8)) (nm : List UInt8) (n : Nat) (mn mx : Int) (ra : Option Addr) (rc : Nat) (a : Option Addr) (c : Nat) (w : World) (hr : RgAt w rs (.slice ra rs.length rc)) (hml : nm.length ≤ 9223372036854775807) :
  Calls Tryz.prog 94 #[.agg #[.int .i64 5, .slice ra rs.length rc, .string ⟨nm.toArray⟩, .slice a n c, .int .i64 mn, .int .i64 mx]] w fun e w' => e = .returned (.int .i64 (shE 5 rs nm n mn mx)) ∧ Below w.heap.size w w' := by
 obtain ⟨B, hB⟩ : ∃ B, shE 5 rs nm n mn mx = B := ⟨_, rfl⟩
 rw [hB]
 have HB := Lib.hid hB
 have HB0 := Lib.hid ((Below.refl _ w).alloc (Nat.le_refl _) (.cells #[.int .i64 5, .slice ra rs.length rc, .string ⟨nm.toArray⟩, .slice a n c, .int .i64 mn, .int .i64 mx] 38))
 have HS := Lib.hid fun W (hb : Below w.heap.size w W) => sorted_any rs (.slice ra rs.length rc) W (hr.later hb)
 have HC : Hid (∀ W, Below (w.heap.size + 1) (w.alloc (.cells #[.int .i64 5, .slice ra rs.length rc, .string ⟨nm.toArray⟩, .slice a n c, .int .i64 mn, .int .i64 mx] 38)) W → ∀ i u, (#[.int .i64 5, .slice ra rs.length rc, .string ⟨nm.toArray⟩, .slice a n c, .int .i64 mn, .int .i64 mx] : Array Value)[i]? = some u → W.cell? ⟨w.heap.size, i, none⟩ = some u) := Lib.hid (fun W hb i u hu => (hb.cell (p := ⟨w.heap.size, i, none⟩) (Nat.lt_succ_self _)).trans (by simp [go_sem]; simpa using hu))
 have HSH := Lib.hid (shp_5 rs nm n mn mx)
 clear hB hr
 by_cases k0 : n = 1
 ·have y1 : ((n : Int) != 1) = false := by rw [bne_eq_false_iff_eq]; omega
  have HBR := Lib.hid (bare_any 5 rs nm n mn mx ra rc a c)
  cases b0 : bareB 5 rs nm mn mx
  ·rw [b0] at HBR
   have HX : Hid (1 = B) := Lib.hid (by rw [← HB.out]; unfold shE; rw [HSH.out]; simp [*])
   (try clear kk); (try clear k0); (try clear r0); (try clear b0); (try clear e0); (try clear m0); (try clear m1); (try clear m2); (try clear m3); (try clear m4)
   go_enter Tryz.func94, Tryz.ntmps94
   go_wp2_with fail
   refine (HBR.out _).mono ?_
   rintro e w3 ⟨rfl, hb3⟩
   have HWw3 : Hid (Below (w.heap.size + 1) (w.alloc (.cells #[.int .i64 5, .slice ra rs.length rc, .string ⟨nm.toArray⟩, .slice a n c, .int .i64 mn, .int .i64 mx] 38)) w3) := Lib.hid (by simpa using hb3)
   have HB3 := Lib.hid (HB0.out.trans (hb3.mono HB0.out.size))
   clear hb3
   have kw30 : w3.cell? ⟨w.heap.size, 0, none⟩ = some (.int .i64 5) := HC.out _ HWw3.out 0 _ rfl
   have kw31 : w3.cell? ⟨w.heap.size, 1, none⟩ = some (.slice ra rs.length rc) := HC.out _ HWw3.out 1 _ rfl
   have kw32 : w3.cell? ⟨w.heap.size, 2, none⟩ = some (.string ⟨nm.toArray⟩) := HC.out _ HWw3.out 2 _ rfl
   have kw33 : w3.cell? ⟨w.heap.size, 3, none⟩ = some (.slice a n c) := HC.out _ HWw3.out 3 _ rfl
   have kw34 : w3.cell? ⟨w.heap.size, 4, none⟩ = some (.int .i64 mn) := HC.out _ HWw3.out 4 _ rfl
   have kw35 : w3.cell? ⟨w.heap.size, 5, none⟩ = some (.int .i64 mx) := HC.out _ HWw3.out 5 _ rfl
   go_wp2_with fail
   go_ret
   exact ⟨ret_int (by rw [← HX.out]; rfl), HB3.out⟩
  ·rw [b0] at HBR
   have HNM := Lib.hid fun W => rname_any nm W hml
   cases e0 : nmB nm
   ·rw [e0] at HNM
    have HX : Hid (6 = B) := Lib.hid (by rw [← HB.out]; unfold shE; rw [HSH.out]; simp [*])
    (try clear kk); (try clear k0); (try clear r0); (try clear b0); (try clear e0); (try clear m0); (try clear m1); (try clear m2); (try clear m3); (try clear m4)
    go_enter Tryz.func94, Tryz.ntmps94
    go_wp2_with fail
    refine (HBR.out _).mono ?_
    rintro e w3 ⟨rfl, hb3⟩
    have HWw3 : Hid (Below (w.heap.size + 1) (w.alloc (.cells #[.int .i64 5, .slice ra rs.length rc, .string ⟨nm.toArray⟩, .slice a n c, .int .i64 mn, .int .i64 mx] 38)) w3) := Lib.hid (by simpa using hb3)
    have HB3 := Lib.hid (HB0.out.trans (hb3.mono HB0.out.size))
    clear hb3
    have kw30 : w3.cell? ⟨w.heap.size, 0, none⟩ = some (.int .i64 5) := HC.out _ HWw3.out 0 _ rfl
    have kw31 : w3.cell? ⟨w.heap.size, 1, none⟩ = some (.slice ra rs.length rc) := HC.out _ HWw3.out 1 _ rfl
    have kw32 : w3.cell? ⟨w.heap.size, 2, none⟩ = some (.string ⟨nm.toArray⟩) := HC.out _ HWw3.out 2 _ rfl
    have kw33 : w3.cell? ⟨w.heap.size, 3, none⟩ = some (.slice a n c) := HC.out _ HWw3.out 3 _ rfl
    have kw34 : w3.cell? ⟨w.heap.size, 4, none⟩ = some (.int .i64 mn) := HC.out _ HWw3.out 4 _ rfl
    have kw35 : w3.cell? ⟨w.heap.size, 5, none⟩ = some (.int .i64 mx) := HC.out _ HWw3.out 5 _ rfl
    go_wp2_with fail
    refine (HNM.out w3).mono ?_
    rintro e w4 ⟨rfl, rfl⟩
    go_wp2_with fail
    go_ret
    exact ⟨ret_int (by rw [← HX.out]; rfl), HB3.out⟩
   ·rw [e0] at HNM
    have HX : Hid (0 = B) := Lib.hid (by rw [← HB.out]; unfold shE; rw [HSH.out]; simp [*])
    (try clear kk); (try clear k0); (try clear r0); (try clear b0); (try clear e0); (try clear m0); (try clear m1); (try clear m2); (try clear m3); (try clear m4)
    go_enter Tryz.func94, Tryz.ntmps94
    go_wp2_with fail
    refine (HBR.out _).mono ?_
    rintro e w3 ⟨rfl, hb3⟩
    have HWw3 : Hid (Below (w.heap.size + 1) (w.alloc (.cells #[.int .i64 5, .slice ra rs.length rc, .string ⟨nm.toArray⟩, .slice a n c, .int .i64 mn, .int .i64 mx] 38)) w3) := Lib.hid (by simpa using hb3)
    have HB3 := Lib.hid (HB0.out.trans (hb3.mono HB0.out.size))
    clear hb3
    have kw30 : w3.cell? ⟨w.heap.size, 0, none⟩ = some (.int .i64 5) := HC.out _ HWw3.out 0 _ rfl
    have kw31 : w3.cell? ⟨w.heap.size, 1, none⟩ = some (.slice ra rs.length rc) := HC.out _ HWw3.out 1 _ rfl
    have kw32 : w3.cell? ⟨w.heap.size, 2, none⟩ = some (.string ⟨nm.toArray⟩) := HC.out _ HWw3.out 2 _ rfl
    have kw33 : w3.cell? ⟨w.heap.size, 3, none⟩ = some (.slice a n c) := HC.out _ HWw3.out 3 _ rfl
    have kw34 : w3.cell? ⟨w.heap.size, 4, none⟩ = some (.int .i64 mn) := HC.out _ HWw3.out 4 _ rfl
    have kw35 : w3.cell? ⟨w.heap.size, 5, none⟩ = some (.int .i64 mx) := HC.out _ HWw3.out 5 _ rfl
    go_wp2_with fail
    refine (HNM.out w3).mono ?_
    rintro e w4 ⟨rfl, rfl⟩
    go_wp2_with fail
    go_ret
    exact ⟨ret_int (by rw [← HX.out]; rfl), HB3.out⟩
 ·have y1 : ((n : Int) != 1) = true := by rw [bne_iff_ne]; omega
  have HX : Hid (1 = B) := Lib.hid (by rw [← HB.out]; unfold shE; rw [HSH.out]; simp [*])
  (try clear kk); (try clear k0); (try clear r0); (try clear b0); (try clear e0); (try clear m0); (try clear m1); (try clear m2); (try clear m3); (try clear m4)
  go_enter Tryz.func94, Tryz.ntmps94
  go_wp2_with fail
  go_ret
  exact ⟨ret_int (by rw [← HX.out]; rfl), HB0.out⟩
theorem rshape_any (op : Int) (rs : List (UInt8 × UInt8)) (nm : List UInt8) (n : Nat) (mn mx : Int) (ra : Option Addr) (rc : Nat) (a : Option Addr) (c : Nat) (w : World) (hr : RgAt w rs (.slice ra rs.length rc)) (hml : nm.length ≤ 9223372036854775807) :
  Calls Tryz.prog 94 #[.agg #[.int .i64 op, .slice ra rs.length rc, .string ⟨nm.toArray⟩, .slice a n c, .int .i64 mn, .int .i64 mx]] w fun e w' => e = .returned (.int .i64 (shE op rs nm n mn mx)) ∧ Below w.heap.size w w' := by
 by_cases h0 : op = 0
 ·subst h0; exact rshape_0 rs nm n mn mx ra rc a c w hr hml
 by_cases h1 : op = 1
 ·subst h1; exact rshape_1 rs nm n mn mx ra rc a c w hr hml
 by_cases h2 : op = 2
 ·subst h2; exact rshape_2 rs nm n mn mx ra rc a c w hr hml
 by_cases h3 : op = 3
 ·subst h3; exact rshape_3 rs nm n mn mx ra rc a c w hr hml
 by_cases h4 : op = 4
 ·subst h4; exact rshape_4 rs nm n mn mx ra rc a c w hr hml
 by_cases h5 : op = 5
 ·subst h5; exact rshape_5 rs nm n mn mx ra rc a c w hr hml
 by_cases h6 : op = 6
 ·subst h6; exact rshape_6 rs nm n mn mx ra rc a c w hr hml
 by_cases h7 : op = 7
 ·subst h7; exact rshape_7 rs nm n mn mx ra rc a c w hr hml
 exact rshape_no op rs nm n mn mx ra rc a c w ⟨h0, h1, h2, h3, h4, h5, h6, h7⟩
set_option maxRecDepth 100000 in
set_option maxHeartbeats 16000000 in
theorem walk_aux (N : Nat) : ∀ (t : NT) (v : Value) (w0 w : World) (B d c : Nat) (ns : List (List UInt8)) (vn : Value), SizeOf.sizeOf t < N → NAt w0 t v → Below w0.heap.size w0 w → w0.heap.size ≤ B → B ≤ w.heap.size → w.ownsRow B 9 1 vn ns.length (strCellsL ns) → c ≤ 400 → ns.length ≤ c → d ≤ 21 →
  Calls Tryz.prog 80 #[v, .int .i64 d, .int .i64 c, vn] w (WalkP w0 w B vn (ckN t d c ns)) := by
 induction N with
 | zero => intro t v w0 w B d c ns vn h; omega
 | succ N ih =>
 intro t v w0 w B d c ns vn hN h hB hB0 hBw hrow hc hn hd
 obtain ⟨op, rs, nm, kids, mn, mx, ra, rc, a, cp, rfl, rfl, hr, ⟨hml, hnm⟩, hk⟩ := h.open
 have IH := Lib.hid fun (i : Nat) (hi : i < kids.length) (W : World) (u : Value) (d c : Nat) (ns : List (List UInt8)) (vn : Value) (h1 : NAt w0 kids[i] u) (h2 : Below w0.heap.size w0 W) (h7 : B ≤ W.heap.size) (h3 : W.ownsRow B 9 1 vn ns.length (strCellsL ns)) (h4 : c ≤ 400) (h5 : ns.length ≤ c) (h6 : d ≤ 21) => ih kids[i] u w0 W B d c ns vn (by have := kid_lt (op := op) (rs := rs) (nm := nm) (mn := mn) (mx := mx) i hi; omega) h1 h2 hB0 h7 h3 h4 h5 h6
 have HK := Lib.hid hk
 have HR0 := Lib.hid hr
 have HNM := Lib.hid hnm
 have hal := (Below.refl _ w).alloc (Nat.le_refl _) (.cells #[.int .i64 op, .slice ra rs.length rc, .string ⟨nm.toArray⟩, .slice a kids.length cp, .int .i64 mn, .int .i64 mx] 38)
 have HS0 : Hid (WKS w0 (w.alloc (.cells #[.int .i64 op, .slice ra rs.length rc, .string ⟨nm.toArray⟩, .slice a kids.length cp, .int .i64 mn, .int .i64 mx] 38)) B vn ns vn (w.alloc (.cells #[.int .i64 op, .slice ra rs.length rc, .string ⟨nm.toArray⟩, .slice a kids.length cp, .int .i64 mn, .int .i64 mx] 38))) := Lib.hid ⟨own_at hrow fun k hk => hal.block k (hrow.lt k hk).2, CF.refl _ _ _, hB.trans (hal.mono hB.size), Nat.le_trans hBw hal.size, hB0⟩
 have HCW : Hid (CF (fun _ => False) vn vn w (w.alloc (.cells #[.int .i64 op, .slice ra rs.length rc, .string ⟨nm.toArray⟩, .slice a kids.length cp, .int .i64 mn, .int .i64 mx] 38))) := Lib.hid (CF.of_below hal)
 have HBK := Lib.hid (BK.new w #[.int .i64 op, .slice ra rs.length rc, .string ⟨nm.toArray⟩, .slice a kids.length cp, .int .i64 mn, .int .i64 mx] 38 (nE op ra rs.length rc nm a kids.length cp mn mx) 6 (fun i hi => by
  match i, hi with
  | 0, _ => rfl
  | 1, _ => rfl
  | 2, _ => rfl
  | 3, _ => rfl
  | 4, _ => rfl
  | 5, _ => rfl))
 have HVN : Hid (vn.ownBlock ≠ some w.heap.size) := Lib.hid (fun e => by have := (hrow.lt _ e).2; omega)
 have HSH := Lib.hid (rshape_any op rs nm kids.length mn mx ra rc a cp (w.alloc (.cells #[.int .i64 op, .slice ra rs.length rc, .string ⟨nm.toArray⟩, .slice a kids.length cp, .int .i64 mn, .int .i64 mx] 38)) (hr.later HS0.out.bl) hnm)
 obtain ⟨R, hR⟩ : ∃ R, ckN (.node op rs nm kids mn mx) d c ns = R := ⟨_, rfl⟩
 rw [hR]
 rw [ckN] at hR
 have HR := Lib.hid hR
 clear h hk hr hB ih hN hR hnm hal hrow
 by_cases t1 : 400 < c + 1
 ·have HX := Lib.hid (show (c + 1, ns, 4) = R by rw [← HR.out, if_pos t1])
  have z1 : decide ((400 : Int) < (c : Int) + 1) = true := decide_eq_true (by omega)
  go_enter Tryz.func80, Tryz.ntmps80
  go_wp2_with fail
  go_ret3
  exact ⟨vn, by rw [← HX.out]; rfl, by rw [← HX.out]; exact HS0.out.row, HCW.out.trans HS0.out.cf, HS0.out.bl⟩
 ·have z1 : decide ((400 : Int) < (c : Int) + 1) = false := decide_eq_false (by omega)
  by_cases t2 : 20 < d
  ·have HX := Lib.hid (show (c + 1, ns, 5) = R by rw [← HR.out, if_neg t1, if_pos t2])
   have z2 : decide ((20 : Int) < (d : Int)) = true := decide_eq_true (by omega)
   go_enter Tryz.func80, Tryz.ntmps80
   go_wp2_with fail
   go_ret3
   exact ⟨vn, by rw [← HX.out]; rfl, by rw [← HX.out]; exact HS0.out.row, HCW.out.trans HS0.out.cf, HS0.out.bl⟩
  ·have z2 : decide ((20 : Int) < (d : Int)) = false := decide_eq_false (by omega)
   have HR2 := Lib.hid (show (if shE op rs nm kids.length mn mx ≠ 0 then (c + 1, ns, shE op rs nm kids.length mn mx) else ckNs kids (d + 1) (c + 1) (if op = 5 then ns ++ [nm] else ns)) = R by rw [← HR.out, if_neg t1, if_neg t2])
   clear HR
   have t1' : c + 1 ≤ 400 := by omega
   have t2' : d + 1 ≤ 21 := by omega
   clear t1 t2
   obtain ⟨s, hs⟩ : ∃ s, shE op rs nm kids.length mn mx = s := ⟨_, rfl⟩
   rw [hs] at HSH HR2
   clear hs
   by_cases s0 : s = 0
   ·subst s0
    by_cases h5 : op = 5
    ·have HX := Lib.hid (show ckNs kids (d + 1) (c + 1) (ns ++ [nm]) = R by rw [← HR2.out]; simp [h5])
     have y5 : (op == 5) = true := by rw [beq_iff_eq]; exact h5
     clear h5
     go_enter Tryz.func80, Tryz.ntmps80
     go_wp2_with fail
     refine HSH.out.mono ?_
     rintro e w3 ⟨rfl, hb3⟩
     have HS3 := Lib.hid (HS0.out.below hb3)
     have HB3 := Lib.hid (HS3.out.box HBK.out HVN.out)
     clear hb3
     have k0 : w3.cell? ⟨w.heap.size, 0, none⟩ = some (.int .i64 op) := HB3.out.ev 0 (by omega)
     have k2 : w3.cell? ⟨w.heap.size, 2, none⟩ = some (.string ⟨nm.toArray⟩) := HB3.out.ev 2 (by omega)
     obtain ⟨i0, hi, hz0, hz1, hz2⟩ := info_parts infoStr
     have hown := HS3.out.row
     have hBw3 : B ≤ w3.heap.size := HS3.out.BW
     go_wp2_with (at_builtin; refine wpList_append_lies _ rfl _ _ 32 rfl B 9 i0 (.string ⟨#[]⟩) 1 16 Tryz.underlying32 hi hz0 hz1 hz2 rfl (by decide) vn ns.length (strCellsL ns) rfl (hown.alloc _) ⟨w3.heap.size, 0, none⟩ 1 1 [.string ⟨nm.toArray⟩] rfl rfl (World.news_of_block (heap_alloc_new w3 _)) (str_one nm) (by omega) (by unfold maxLen; omega) (by omega) (Nat.le_trans hBw3 (by simp)) _ rfl ?_; intro g9 cap9 w9 hown9 hgr9 hat9 hlt9; have HS9 := Lib.hid (HS3.out.push hgr9 hat9 rfl nm hown9); clear hown9 hgr9 hat9 hown)
     clear k0 k2
     go_wp2_with fail
     go_loopw [2, 3, 12] (fun cc vv i wr => ∃ (k c2 : Nat) (ns2 : List (List UInt8)) (v2 : Value), i = .int .i64 k ∧ cc = .int .i64 c2 ∧ v2 = vv ∧ k ≤ kids.length ∧ c2 ≤ 400 ∧ ns2.length ≤ c2 ∧ ckNs (kids.drop k) (d + 1) c2 ns2 = R ∧ WKS w0 (w.alloc (.cells #[.int .i64 op, .slice ra rs.length rc, .string ⟨nm.toArray⟩, .slice a kids.length cp, .int .i64 mn, .int .i64 mx] 38)) B vn ns2 v2 wr) (fun _ _ i _ => kids.length - (intOf i).toNat)
     case atStart => exact ⟨0, c + 1, (ns ++ [nm]), _, rfl, rfl, rfl, by omega, by omega, by simp only [List.length_append, List.length_cons, List.length_nil]; omega, HX.out, HS9.out⟩
     case round =>
      obtain ⟨k, c2, ns2, v2, rfl, rfl, rfl, hkl, hc2, hn2, hq, hs2⟩ := hrel
      have HQ := Lib.hid hq
      have HS2 := Lib.hid hs2
      clear hq hs2
      have HBR := Lib.hid (HS2.out.box HBK.out HVN.out)
      have kb3 : wr.cell? ⟨w.heap.size, 3, none⟩ = some (.slice a kids.length cp) := HBR.out.ev 3 (by omega)
      by_cases hlt : k < kids.length
      ·obtain ⟨blk, off, op', ra', rn', rc', nm', a', n', c1', mn', mx', rfl, hl, c0, c1, c2x, c3, c4, c5, ht⟩ := HK.out k hlt
       have e0 := (HS2.out.bl.cell (p := ⟨blk, off + k * 6, none⟩) hl).trans c0
       have e1 := (HS2.out.bl.cell (p := ⟨blk, off + k * 6 + 1, none⟩) hl).trans c1
       have e2 := (HS2.out.bl.cell (p := ⟨blk, off + k * 6 + 2, none⟩) hl).trans c2x
       have e3 := (HS2.out.bl.cell (p := ⟨blk, off + k * 6 + 3, none⟩) hl).trans c3
       have e4 := (HS2.out.bl.cell (p := ⟨blk, off + k * 6 + 4, none⟩) hl).trans c4
       have e5 := (HS2.out.bl.cell (p := ⟨blk, off + k * 6 + 5, none⟩) hl).trans c5
       have i1 : (k : Int) < (kids.length : Int) := by omega
       have i2 : (0 : Int) ≤ (k : Int) := by omega
       have hok := ckN_ok _ kids[k] (d + 1) c2 ns2 (Nat.lt_succ_self _) hc2 hn2
       have HI : Hid (Calls Tryz.prog 80 #[.agg #[.int .i64 op', .slice ra' rn' rc', .string ⟨nm'.toArray⟩, .slice a' n' c1', .int .i64 mn', .int .i64 mx'], .int .i64 ((d : Int) + 1), .int .i64 c2, v2] wr (WalkP w0 wr B v2 (ckN kids[k] (d + 1) c2 ns2))) := Lib.hid (IH.out k hlt _ _ (d + 1) c2 ns2 v2 ht HS2.out.bl HS2.out.BW HS2.out.row hc2 hn2 (by omega))
       have HST := Lib.hid (ckNs_step hlt (d + 1) c2 ns2)
       obtain ⟨r, hr⟩ : ∃ r, ckN kids[k] (d + 1) c2 ns2 = r := ⟨_, rfl⟩
       rw [hr] at HI HST hok
       obtain ⟨r1, r2, r3⟩ := r
       simp only at HST
       have HOK := Lib.hid hok
       clear c0 c1 c2x c3 c4 c5 ht hr hok
       by_cases h0 : r3 = 0
       ·have HZ := Lib.hid (show ckNs (kids.drop (k + 1)) (d + 1) r1 r2 = R by rw [← HQ.out, HST.out, if_neg (by simpa using h0)])
        have HC1 : Hid (r1 ≤ 400 ∧ r2.length ≤ r1) := Lib.hid ⟨HOK.out.2.2.1 h0, HOK.out.2.1⟩
        subst h0
        go_wp2_with fail
        refine HI.out.mono ?_
        rintro e w4 ⟨v4, rfl, hrow4, hcf4, hb4⟩
        have HS4 := Lib.hid (HS2.out.call hrow4 hcf4 hb4)
        clear hrow4 hcf4 hb4
        go_wp2_with fail
        go_roundw
        case rel => exact ⟨k + 1, r1, r2, v4, by go_num, rfl, rfl, by omega, HC1.out.1, HC1.out.2, HZ.out, HS4.out⟩
        case measure => simp [intOf]; omega
       ·have HZ := Lib.hid (show (r1, r2, r3) = R by rw [← HQ.out, HST.out, if_pos (by simpa using h0)])
        have y1 : ((r3 : Int) != 0) = true := by rw [bne_iff_ne]; omega
        go_wp2_with fail
        refine HI.out.mono ?_
        rintro e w4 ⟨v4, rfl, hrow4, hcf4, hb4⟩
        have HS4 := Lib.hid (HS2.out.call hrow4 hcf4 hb4)
        clear hrow4 hcf4 hb4
        go_wp2_with fail
        go_ret3
        exact ⟨v4, by rw [← HZ.out]; rfl, by rw [← HZ.out]; exact HS4.out.row, HCW.out.trans HS4.out.cf, HS4.out.bl⟩
      ·obtain rfl : k = kids.length := by omega
       have HZ := Lib.hid (show (c2, ns2, 0) = R by rw [← HQ.out, List.drop_length, ckNs])
       go_wp2_with fail
       go_ret3
       exact ⟨v2, by rw [← HZ.out]; rfl, by rw [← HZ.out]; exact HS2.out.row, HCW.out.trans HS2.out.cf, HS2.out.bl⟩
    ·have HX := Lib.hid (show ckNs kids (d + 1) (c + 1) ns = R by rw [← HR2.out]; simp [h5])
     have y5 : (op == 5) = false := by rw [beq_eq_false_iff_ne]; exact h5
     clear h5
     go_enter Tryz.func80, Tryz.ntmps80
     go_wp2_with fail
     refine HSH.out.mono ?_
     rintro e w3 ⟨rfl, hb3⟩
     have HS3 := Lib.hid (HS0.out.below hb3)
     have HB3 := Lib.hid (HS3.out.box HBK.out HVN.out)
     clear hb3
     have k0 : w3.cell? ⟨w.heap.size, 0, none⟩ = some (.int .i64 op) := HB3.out.ev 0 (by omega)
     have k2 : w3.cell? ⟨w.heap.size, 2, none⟩ = some (.string ⟨nm.toArray⟩) := HB3.out.ev 2 (by omega)
     go_wp2_with fail
     go_loopw [2, 3, 12] (fun cc vv i wr => ∃ (k c2 : Nat) (ns2 : List (List UInt8)) (v2 : Value), i = .int .i64 k ∧ cc = .int .i64 c2 ∧ v2 = vv ∧ k ≤ kids.length ∧ c2 ≤ 400 ∧ ns2.length ≤ c2 ∧ ckNs (kids.drop k) (d + 1) c2 ns2 = R ∧ WKS w0 (w.alloc (.cells #[.int .i64 op, .slice ra rs.length rc, .string ⟨nm.toArray⟩, .slice a kids.length cp, .int .i64 mn, .int .i64 mx] 38)) B vn ns2 v2 wr) (fun _ _ i _ => kids.length - (intOf i).toNat)
     case atStart => exact ⟨0, c + 1, ns, _, rfl, rfl, rfl, by omega, by omega, by omega, HX.out, HS3.out⟩
     case round =>
      obtain ⟨k, c2, ns2, v2, rfl, rfl, rfl, hkl, hc2, hn2, hq, hs2⟩ := hrel
      have HQ := Lib.hid hq
      have HS2 := Lib.hid hs2
      clear hq hs2
      have HBR := Lib.hid (HS2.out.box HBK.out HVN.out)
      have kb3 : wr.cell? ⟨w.heap.size, 3, none⟩ = some (.slice a kids.length cp) := HBR.out.ev 3 (by omega)
      by_cases hlt : k < kids.length
      ·obtain ⟨blk, off, op', ra', rn', rc', nm', a', n', c1', mn', mx', rfl, hl, c0, c1, c2x, c3, c4, c5, ht⟩ := HK.out k hlt
       have e0 := (HS2.out.bl.cell (p := ⟨blk, off + k * 6, none⟩) hl).trans c0
       have e1 := (HS2.out.bl.cell (p := ⟨blk, off + k * 6 + 1, none⟩) hl).trans c1
       have e2 := (HS2.out.bl.cell (p := ⟨blk, off + k * 6 + 2, none⟩) hl).trans c2x
       have e3 := (HS2.out.bl.cell (p := ⟨blk, off + k * 6 + 3, none⟩) hl).trans c3
       have e4 := (HS2.out.bl.cell (p := ⟨blk, off + k * 6 + 4, none⟩) hl).trans c4
       have e5 := (HS2.out.bl.cell (p := ⟨blk, off + k * 6 + 5, none⟩) hl).trans c5
       have i1 : (k : Int) < (kids.length : Int) := by omega
       have i2 : (0 : Int) ≤ (k : Int) := by omega
       have hok := ckN_ok _ kids[k] (d + 1) c2 ns2 (Nat.lt_succ_self _) hc2 hn2
       have HI : Hid (Calls Tryz.prog 80 #[.agg #[.int .i64 op', .slice ra' rn' rc', .string ⟨nm'.toArray⟩, .slice a' n' c1', .int .i64 mn', .int .i64 mx'], .int .i64 ((d : Int) + 1), .int .i64 c2, v2] wr (WalkP w0 wr B v2 (ckN kids[k] (d + 1) c2 ns2))) := Lib.hid (IH.out k hlt _ _ (d + 1) c2 ns2 v2 ht HS2.out.bl HS2.out.BW HS2.out.row hc2 hn2 (by omega))
       have HST := Lib.hid (ckNs_step hlt (d + 1) c2 ns2)
       obtain ⟨r, hr⟩ : ∃ r, ckN kids[k] (d + 1) c2 ns2 = r := ⟨_, rfl⟩
       rw [hr] at HI HST hok
       obtain ⟨r1, r2, r3⟩ := r
       simp only at HST
       have HOK := Lib.hid hok
       clear c0 c1 c2x c3 c4 c5 ht hr hok
       by_cases h0 : r3 = 0
       ·have HZ := Lib.hid (show ckNs (kids.drop (k + 1)) (d + 1) r1 r2 = R by rw [← HQ.out, HST.out, if_neg (by simpa using h0)])
        have HC1 : Hid (r1 ≤ 400 ∧ r2.length ≤ r1) := Lib.hid ⟨HOK.out.2.2.1 h0, HOK.out.2.1⟩
        subst h0
        go_wp2_with fail
        refine HI.out.mono ?_
        rintro e w4 ⟨v4, rfl, hrow4, hcf4, hb4⟩
        have HS4 := Lib.hid (HS2.out.call hrow4 hcf4 hb4)
        clear hrow4 hcf4 hb4
        go_wp2_with fail
        go_roundw
        case rel => exact ⟨k + 1, r1, r2, v4, by go_num, rfl, rfl, by omega, HC1.out.1, HC1.out.2, HZ.out, HS4.out⟩
        case measure => simp [intOf]; omega
       ·have HZ := Lib.hid (show (r1, r2, r3) = R by rw [← HQ.out, HST.out, if_pos (by simpa using h0)])
        have y1 : ((r3 : Int) != 0) = true := by rw [bne_iff_ne]; omega
        go_wp2_with fail
        refine HI.out.mono ?_
        rintro e w4 ⟨v4, rfl, hrow4, hcf4, hb4⟩
        have HS4 := Lib.hid (HS2.out.call hrow4 hcf4 hb4)
        clear hrow4 hcf4 hb4
        go_wp2_with fail
        go_ret3
        exact ⟨v4, by rw [← HZ.out]; rfl, by rw [← HZ.out]; exact HS4.out.row, HCW.out.trans HS4.out.cf, HS4.out.bl⟩
      ·obtain rfl : k = kids.length := by omega
       have HZ := Lib.hid (show (c2, ns2, 0) = R by rw [← HQ.out, List.drop_length, ckNs])
       go_wp2_with fail
       go_ret3
       exact ⟨v2, by rw [← HZ.out]; rfl, by rw [← HZ.out]; exact HS2.out.row, HCW.out.trans HS2.out.cf, HS2.out.bl⟩
   ·have HX := Lib.hid (show (c + 1, ns, s) = R by rw [← HR2.out, if_pos s0])
    have y0 : ((s : Int) != 0) = true := by rw [bne_iff_ne]; omega
    clear s0
    go_enter Tryz.func80, Tryz.ntmps80
    go_wp2_with fail
    refine HSH.out.mono ?_
    rintro e w3 ⟨rfl, hb3⟩
    have HS3 := Lib.hid (HS0.out.below hb3)
    clear hb3
    go_wp2_with fail
    go_ret3
    exact ⟨vn, by rw [← HX.out]; rfl, by rw [← HX.out]; exact HS3.out.row, HCW.out.trans HS3.out.cf, HS3.out.bl⟩
set_option maxRecDepth 100000 in
set_option maxHeartbeats 4000000 in
theorem rcheck_any (t : NT) (v : Value) (w : World) (h : NAt w t v) :
  Calls Tryz.prog 60 #[v] w fun e w' => e = .returned (.int .i64 (ckE t)) ∧ Below w.heap.size w w' := by
 obtain ⟨op, rs, nm, kids, mn, mx, ra, rc, a, cp, ht, rfl, _⟩ := h.open
 have hb1 := (Below.refl _ w).alloc (Nat.le_refl _) (.cells #[.int .i64 op, .slice ra rs.length rc, .string ⟨nm.toArray⟩, .slice a kids.length cp, .int .i64 mn, .int .i64 mx] 38)
 have HI := Lib.hid (walk_aux _ t _ w _ (w.heap.size + 1) 0 0 [] (.slice none 0 0) (Nat.lt_succ_self _) h hb1 (by omega) (by simp) (World.ownsRow_nil _ _ _ _) (by omega) (by simp) (by omega))
 have hok := ckN_ok _ t 0 0 [] (Nat.lt_succ_self _) (by omega) (by simp)
 obtain ⟨r, hr⟩ : ∃ r, ckN t 0 0 [] = r := ⟨_, rfl⟩
 rw [hr] at HI hok
 obtain ⟨c, ns, e⟩ := r
 have HE := Lib.hid (ckE_of hr)
 have HOK := Lib.hid hok
 obtain ⟨Z, hZ⟩ : ∃ Z, ckE t = Z := ⟨_, rfl⟩
 rw [hZ] at HE ⊢
 clear h hb1 hr hok hZ ht
 go_enter Tryz.func60, Tryz.ntmps60
 go_wp2_with fail
 refine HI.out.mono ?_
 rintro q w2 ⟨v2, rfl, hrow, hcf, hb⟩
 have HROW := Lib.hid hrow
 have HB2 := Lib.hid hb
 clear hrow hcf hb HI
 have hlen : ns.length ≤ 401 := Nat.le_trans HOK.out.2.1 HOK.out.1
 by_cases e0 : e = 0
 ·have HE2 : Hid ((Dup ns → Z = 7) ∧ (¬ Dup ns → 16 < ns.length → Z = 4) ∧ (¬ Dup ns → ¬ 16 < ns.length → Z = 0)) := Lib.hid ⟨HE.out.2.1 e0, HE.out.2.2.1 e0, HE.out.2.2.2 e0⟩
  subst e0
  rcases Nat.eq_zero_or_pos ns.length with l0 | l0
  ·have hns : ns = [] := List.length_eq_zero_iff.1 l0
   subst hns
   have hv : v2 = .slice none 0 0 ∨ ∃ g cap, v2 = .slice (some ⟨g, 0, none⟩) 0 cap := by
    rcases HROW.out.2 with ⟨h1, _⟩ | ⟨g, cap, cur, h1, _⟩
    ·exact .inl h1
    ·exact .inr ⟨g, cap, h1⟩
   have HZ : Hid (Z = 0) := Lib.hid (HE2.out.2.2 (fun ⟨i, h, _⟩ => by simp at h) (by simp))
   rcases hv with rfl | ⟨g, cap, rfl⟩
   all_goals
    go_wp2_with fail
    go_loop [6] (fun q => q = .int .i64 0) (fun _ => 0)
    case atStart => rfl
    case round =>
     obtain rfl := hrel
     go_wp2_with fail
     go_ret
     exact ⟨ret_int (by rw [HZ.out]; rfl), HB2.out⟩
  ·obtain ⟨g, cap, rfl, hcap, hcm, hgl, hcell⟩ := own_row HROW.out l0
   have HC := Lib.hid fun W (hb : Below w2.heap.size w2 W) i hi => (hb.cell (p := ⟨g, i, none⟩) hgl).trans (hcell i hi)
   clear hcell HROW
   go_wp2_with fail
   go_loopw [6] (fun q wr => ∃ i : Nat, i ≤ ns.length ∧ q = .int .i64 i ∧ Hid (∀ j (h : j < ns.length), j < i → ns[j] ∉ ns.take j) ∧ Below w2.heap.size w2 wr) (fun q _ => ns.length - (intOf q).toNat)
   case atStart => exact ⟨0, by omega, rfl, Lib.hid (fun _ _ _ => by omega), Below.refl _ _⟩
   case round =>
    obtain ⟨i, hil, rfl, HNO, hb⟩ := hrel
    have HBO := Lib.hid hb
    clear hb
    by_cases hlt : i < ns.length
    ·have i1 : (i : Int) < (ns.length : Int) := by omega
     have i2 : (0 : Int) ≤ (i : Int) := by omega
     obtain ⟨x, hx⟩ : ∃ x, ns[i] = x := ⟨_, rfl⟩
     have HX := Lib.hid hx
     have HCX := Lib.hid fun W hb => (HC.out W hb i hlt).trans (by rw [hx])
     clear hx
     go_wp2_with fail
     obtain ⟨wo, rfl⟩ : ∃ wo : World, wo = wr := ⟨_, rfl⟩
     go_loopw [7] (fun q wr => ∃ k : Nat, k ≤ i ∧ q = .int .i64 k ∧ Hid (x ∉ ns.take k) ∧ Below w2.heap.size w2 wr) (fun q _ => i - (intOf q).toNat)
     case atStart => exact ⟨0, by omega, rfl, Lib.hid (by simp), HBO.out⟩
     case round =>
      obtain ⟨k, hki, rfl, HNX, hb⟩ := hrel
      have HBI := Lib.hid hb
      by_cases hlk : k < i
      ·have j1 : (k : Int) < (i : Int) := by omega
       have j2 : (0 : Int) ≤ (k : Int) := by omega
       have j3 : (k : Int) < (ns.length : Int) := by omega
       have hkf : k < ns.length := by omega
       have ci := HCX.out wr hb
       have ck := HC.out wr hb k hkf
       have HY := Lib.hid (take_yes (fs := ns) (k := k) (n := i) hkf hlk)
       have HN : Hid (x ≠ ns[k] → x ∉ ns.take (k + 1)) := Lib.hid (fun hx => take_not hkf HNX.out hx)
       clear hb
       generalize ns[k] = y at *
       by_cases he : x = y
       ·have HZ : Hid (Z = 7) := Lib.hid (HE2.out.1 ⟨i, hlt, by rw [HX.out, he]; exact HY.out⟩)
        subst he
        go_wp2_with fail
        go_quiet (fail)
        go_wp2_with fail
        go_ret
        exact ⟨ret_int (by rw [HZ.out]; rfl), HB2.out.trans ((below_drewN HBI.out _).mono HB2.out.size)⟩
       ·have b1 : (y == x) = false := beq_eq_false_iff_ne.2 (fun h => he h.symm)
        have HN2 := Lib.hid (HN.out he)
        clear he HN HY
        go_wp2_with fail
        go_quiet (fail)
        go_wp2_with fail
        go_roundw
        case rel => exact ⟨k + 1, by omega, by go_num, HN2, below_drewN HBI.out _⟩
        case measure => simp [intOf]; omega
      ·obtain rfl : k = i := by omega
       have HN2 : Hid (∀ j (h : j < ns.length), j < k + 1 → ns[j] ∉ ns.take j) := Lib.hid (fun j h h2 => by
        by_cases e : j = k
        ·subst e; rw [HX.out]; exact HNX.out
        ·exact HNO.out j h (by omega))
       go_wp2_with fail
       go_roundw
       case rel => exact ⟨k + 1, by omega, by go_num, HN2, HBI.out⟩
       case measure => simp [intOf]; omega
    ·obtain rfl : i = ns.length := by omega
     have HND : Hid (¬ Dup ns) := Lib.hid (fun ⟨i, h, hm⟩ => HNO.out i h h hm)
     by_cases h16 : 16 < ns.length
     ·have z1 : decide ((16 : Int) < (ns.length : Int)) = true := decide_eq_true (by omega)
      have HZ : Hid (Z = 4) := Lib.hid (HE2.out.2.1 HND.out h16)
      go_wp2_with fail
      go_ret
      exact ⟨ret_int (by rw [HZ.out]; rfl), HB2.out.trans (HBO.out.mono HB2.out.size)⟩
     ·have z1 : decide ((16 : Int) < (ns.length : Int)) = false := decide_eq_false (by omega)
      have HZ : Hid (Z = 0) := Lib.hid (HE2.out.2.2 HND.out h16)
      go_wp2_with fail
      go_ret
      exact ⟨ret_int (by rw [HZ.out]; rfl), HB2.out.trans (HBO.out.mono HB2.out.size)⟩
 ·have HZ : Hid (Z = e) := Lib.hid (HE.out.1 e0)
  have y1 : ((e : Int) != 0) = true := by rw [bne_iff_ne]; omega
  go_wp2_with fail
  go_ret
  exact ⟨ret_int (by rw [HZ.out]), HB2.out⟩
end Go.Proofs.YtgcpinnnfoanjaaGreatDoor

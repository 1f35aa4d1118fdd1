/-
 Joined: PatEc, PatF.
-/
import Derived.Test.YtmpbjaodgajnfaaGreatDoorEhB
import Derived.BigQuiet
import Derived.Test.YtmpbjaodgajnfaaGreatDoorEhC
namespace Go.Proofs.YtmpbjaodgajnfaaGreatDoor
open Go.RowKit
set_option maxRecDepth 100000 in
set_option maxHeartbeats 4000000 in
theorem shape_3 (rs : List (UInt8 × UInt8)) (nm : List UInt8) (n : Nat) (mn mx : Int) (ra : Option Addr) (rc : Nat) (a : Option Addr) (c : Nat) (w : World) (hr : RgAt w rs (.slice ra rs.length rc)) :
  Calls Tryz.prog 104 #[.agg #[.int .i64 3, .slice ra rs.length rc, .string ⟨nm.toArray⟩, .slice a n c, .int .i64 mn, .int .i64 mx]] w fun e w' => e = .returned (.bool (shpB 3 rs nm n mn mx)) ∧ Below w.heap.size w w' := by
 have HRG := Lib.hid fun W (hb : Below w.heap.size w W) => right_any rs (.slice ra rs.length rc) W (hr.later hb)
 obtain ⟨B, hB⟩ : ∃ B, shpB 3 rs nm n mn mx = B := ⟨_, rfl⟩
 rw [hB]
 have HB := Lib.hid hB
 have HB0 := Lib.hid ((Below.refl _ w).alloc (Nat.le_refl _) (.cells #[.int .i64 3, .slice ra rs.length rc, .string ⟨nm.toArray⟩, .slice a n c, .int .i64 mn, .int .i64 mx] 33))
 have hrl : rs.length ≤ 9223372036854775807 := by obtain ⟨_, _, e, h, _⟩ := hr; exact h
 clear hB hr
 by_cases m0 : mn = 0
 ·have b1 : (mn == 0) = true := by simpa using m0
  by_cases m1 : mx = 0
  ·have b2 : (mx == 0) = true := by simpa using m1
   by_cases k0 : 2 ≤ n
   ·have y1 : decide ((2 : Int) ≤ (n : Int)) = true := decide_eq_true (by omega)
    by_cases r0 : rs.length = 0
    ·have y2 : ((rs.length : Int) == 0) = true := by rw [beq_iff_eq]; omega
     cases nm with
     | nil =>
      have HX : Hid (true = B) := Lib.hid (by rw [← HB.out]; unfold shpB; simp [*])
      (try clear k0); (try clear m0); (try clear m1); (try clear r0)
      go_enter Tryz.func104, Tryz.ntmps104
      go_wp2_with fail
      go_quiet (fail)
      go_wp2_with fail
      go_ret
      exact ⟨ret_bool (by first | exact HX.out | (rw [← HX.out]; simp [*])), below_drewN HB0.out _⟩
     | cons x xs =>
      have HX : Hid (false = B) := Lib.hid (by rw [← HB.out]; unfold shpB; simp [*])
      (try clear k0); (try clear m0); (try clear m1); (try clear r0)
      go_enter Tryz.func104, Tryz.ntmps104
      go_wp2_with fail
      go_quiet (fail)
      go_wp2_with fail
      go_ret
      exact ⟨ret_bool (by first | exact HX.out | (rw [← HX.out]; simp [*])), below_drewN HB0.out _⟩
    ·have y2 : ((rs.length : Int) == 0) = false := by rw [beq_eq_false_iff_ne]; omega
     have HX : Hid (false = B) := Lib.hid (by rw [← HB.out]; unfold shpB; simp [*])
     (try clear k0); (try clear m0); (try clear m1); (try clear r0)
     go_enter Tryz.func104, Tryz.ntmps104
     go_wp2_with fail
     go_quiet (fail)
     go_wp2_with fail
     go_ret
     exact ⟨ret_bool (by first | exact HX.out | (rw [← HX.out]; simp [*])), below_drewN HB0.out _⟩
   ·have y1 : decide ((2 : Int) ≤ (n : Int)) = false := decide_eq_false (by omega)
    have HX : Hid (false = B) := Lib.hid (by rw [← HB.out]; unfold shpB; simp [*])
    (try clear k0); (try clear m0); (try clear m1); (try clear r0)
    go_enter Tryz.func104, Tryz.ntmps104
    go_wp2_with fail
    go_quiet (fail)
    go_wp2_with fail
    go_ret
    exact ⟨ret_bool (by first | exact HX.out | (rw [← HX.out]; simp [*])), below_drewN HB0.out _⟩
  ·have b2 : (mx == 0) = false := by simpa using m1
   by_cases k0 : 2 ≤ n
   ·have y1 : decide ((2 : Int) ≤ (n : Int)) = true := decide_eq_true (by omega)
    by_cases r0 : rs.length = 0
    ·have y2 : ((rs.length : Int) == 0) = true := by rw [beq_iff_eq]; omega
     cases nm with
     | nil =>
      have HX : Hid (false = B) := Lib.hid (by rw [← HB.out]; unfold shpB; simp [*])
      (try clear k0); (try clear m0); (try clear m1); (try clear r0)
      go_enter Tryz.func104, Tryz.ntmps104
      go_wp2_with fail
      go_quiet (fail)
      go_wp2_with fail
      go_ret
      exact ⟨ret_bool (by first | exact HX.out | (rw [← HX.out]; simp [*])), below_drewN HB0.out _⟩
     | cons x xs =>
      have HX : Hid (false = B) := Lib.hid (by rw [← HB.out]; unfold shpB; simp [*])
      (try clear k0); (try clear m0); (try clear m1); (try clear r0)
      go_enter Tryz.func104, Tryz.ntmps104
      go_wp2_with fail
      go_quiet (fail)
      go_wp2_with fail
      go_ret
      exact ⟨ret_bool (by first | exact HX.out | (rw [← HX.out]; simp [*])), below_drewN HB0.out _⟩
    ·have y2 : ((rs.length : Int) == 0) = false := by rw [beq_eq_false_iff_ne]; omega
     have HX : Hid (false = B) := Lib.hid (by rw [← HB.out]; unfold shpB; simp [*])
     (try clear k0); (try clear m0); (try clear m1); (try clear r0)
     go_enter Tryz.func104, Tryz.ntmps104
     go_wp2_with fail
     go_quiet (fail)
     go_wp2_with fail
     go_ret
     exact ⟨ret_bool (by first | exact HX.out | (rw [← HX.out]; simp [*])), below_drewN HB0.out _⟩
   ·have y1 : decide ((2 : Int) ≤ (n : Int)) = false := decide_eq_false (by omega)
    have HX : Hid (false = B) := Lib.hid (by rw [← HB.out]; unfold shpB; simp [*])
    (try clear k0); (try clear m0); (try clear m1); (try clear r0)
    go_enter Tryz.func104, Tryz.ntmps104
    go_wp2_with fail
    go_quiet (fail)
    go_wp2_with fail
    go_ret
    exact ⟨ret_bool (by first | exact HX.out | (rw [← HX.out]; simp [*])), below_drewN HB0.out _⟩
 ·have b1 : (mn == 0) = false := by simpa using m0
  by_cases k0 : 2 ≤ n
  ·have y1 : decide ((2 : Int) ≤ (n : Int)) = true := decide_eq_true (by omega)
   by_cases r0 : rs.length = 0
   ·have y2 : ((rs.length : Int) == 0) = true := by rw [beq_iff_eq]; omega
    cases nm with
    | nil =>
     have HX : Hid (false = B) := Lib.hid (by rw [← HB.out]; unfold shpB; simp [*])
     (try clear k0); (try clear m0); (try clear m1); (try clear r0)
     go_enter Tryz.func104, Tryz.ntmps104
     go_wp2_with fail
     go_quiet (fail)
     go_wp2_with fail
     go_ret
     exact ⟨ret_bool (by first | exact HX.out | (rw [← HX.out]; simp [*])), below_drewN HB0.out _⟩
    | cons x xs =>
     have HX : Hid (false = B) := Lib.hid (by rw [← HB.out]; unfold shpB; simp [*])
     (try clear k0); (try clear m0); (try clear m1); (try clear r0)
     go_enter Tryz.func104, Tryz.ntmps104
     go_wp2_with fail
     go_quiet (fail)
     go_wp2_with fail
     go_ret
     exact ⟨ret_bool (by first | exact HX.out | (rw [← HX.out]; simp [*])), below_drewN HB0.out _⟩
   ·have y2 : ((rs.length : Int) == 0) = false := by rw [beq_eq_false_iff_ne]; omega
    have HX : Hid (false = B) := Lib.hid (by rw [← HB.out]; unfold shpB; simp [*])
    (try clear k0); (try clear m0); (try clear m1); (try clear r0)
    go_enter Tryz.func104, Tryz.ntmps104
    go_wp2_with fail
    go_quiet (fail)
    go_wp2_with fail
    go_ret
    exact ⟨ret_bool (by first | exact HX.out | (rw [← HX.out]; simp [*])), below_drewN HB0.out _⟩
  ·have y1 : decide ((2 : Int) ≤ (n : Int)) = false := decide_eq_false (by omega)
   have HX : Hid (false = B) := Lib.hid (by rw [← HB.out]; unfold shpB; simp [*])
   (try clear k0); (try clear m0); (try clear m1); (try clear r0)
   go_enter Tryz.func104, Tryz.ntmps104
   go_wp2_with fail
   go_quiet (fail)
   go_wp2_with fail
   go_ret
   exact ⟨ret_bool (by first | exact HX.out | (rw [← HX.out]; simp [*])), below_drewN HB0.out _⟩
set_option maxRecDepth 100000 in
set_option maxHeartbeats 4000000 in
theorem shape_4 (rs : List (UInt8 × UInt8)) (nm : List UInt8) (n : Nat) (mn mx : Int) (ra : Option Addr) (rc : Nat) (a : Option Addr) (c : Nat) (w : World) (hr : RgAt w rs (.slice ra rs.length rc)) :
  Calls Tryz.prog 104 #[.agg #[.int .i64 4, .slice ra rs.length rc, .string ⟨nm.toArray⟩, .slice a n c, .int .i64 mn, .int .i64 mx]] w fun e w' => e = .returned (.bool (shpB 4 rs nm n mn mx)) ∧ Below w.heap.size w w' := by
 have HRG := Lib.hid fun W (hb : Below w.heap.size w W) => right_any rs (.slice ra rs.length rc) W (hr.later hb)
 obtain ⟨B, hB⟩ : ∃ B, shpB 4 rs nm n mn mx = B := ⟨_, rfl⟩
 rw [hB]
 have HB := Lib.hid hB
 have HB0 := Lib.hid ((Below.refl _ w).alloc (Nat.le_refl _) (.cells #[.int .i64 4, .slice ra rs.length rc, .string ⟨nm.toArray⟩, .slice a n c, .int .i64 mn, .int .i64 mx] 33))
 have hrl : rs.length ≤ 9223372036854775807 := by obtain ⟨_, _, e, h, _⟩ := hr; exact h
 clear hB hr
 by_cases m0 : mn = 0
 ·have b1 : (mn == 0) = true := by simpa using m0
  by_cases m1 : mx = 0
  ·have b2 : (mx == 0) = true := by simpa using m1
   by_cases k0 : n = 1
   ·have y1 : ((n : Int) == 1) = true := by rw [beq_iff_eq]; omega
    by_cases r0 : rs.length = 0
    ·have y2 : ((rs.length : Int) == 0) = true := by rw [beq_iff_eq]; omega
     cases nm with
     | nil =>
      have HX : Hid (true = B) := Lib.hid (by rw [← HB.out]; unfold shpB; simp [*])
      (try clear k0); (try clear m0); (try clear m1); (try clear r0)
      go_enter Tryz.func104, Tryz.ntmps104
      go_wp2_with fail
      go_quiet (fail)
      go_wp2_with fail
      go_ret
      exact ⟨ret_bool (by first | exact HX.out | (rw [← HX.out]; simp [*])), below_drewN HB0.out _⟩
     | cons x xs =>
      have HX : Hid (false = B) := Lib.hid (by rw [← HB.out]; unfold shpB; simp [*])
      (try clear k0); (try clear m0); (try clear m1); (try clear r0)
      go_enter Tryz.func104, Tryz.ntmps104
      go_wp2_with fail
      go_quiet (fail)
      go_wp2_with fail
      go_ret
      exact ⟨ret_bool (by first | exact HX.out | (rw [← HX.out]; simp [*])), below_drewN HB0.out _⟩
    ·have y2 : ((rs.length : Int) == 0) = false := by rw [beq_eq_false_iff_ne]; omega
     have HX : Hid (false = B) := Lib.hid (by rw [← HB.out]; unfold shpB; simp [*])
     (try clear k0); (try clear m0); (try clear m1); (try clear r0)
     go_enter Tryz.func104, Tryz.ntmps104
     go_wp2_with fail
     go_quiet (fail)
     go_wp2_with fail
     go_ret
     exact ⟨ret_bool (by first | exact HX.out | (rw [← HX.out]; simp [*])), below_drewN HB0.out _⟩
   ·have y1 : ((n : Int) == 1) = false := by rw [beq_eq_false_iff_ne]; omega
    have HX : Hid (false = B) := Lib.hid (by rw [← HB.out]; unfold shpB; simp [*])
    (try clear k0); (try clear m0); (try clear m1); (try clear r0)
    go_enter Tryz.func104, Tryz.ntmps104
    go_wp2_with fail
    go_quiet (fail)
    go_wp2_with fail
    go_ret
    exact ⟨ret_bool (by first | exact HX.out | (rw [← HX.out]; simp [*])), below_drewN HB0.out _⟩
  ·have b2 : (mx == 0) = false := by simpa using m1
   by_cases k0 : n = 1
   ·have y1 : ((n : Int) == 1) = true := by rw [beq_iff_eq]; omega
    by_cases r0 : rs.length = 0
    ·have y2 : ((rs.length : Int) == 0) = true := by rw [beq_iff_eq]; omega
     cases nm with
     | nil =>
      have HX : Hid (true = B) := Lib.hid (by rw [← HB.out]; unfold shpB; simp [*])
      (try clear k0); (try clear m0); (try clear m1); (try clear r0)
      go_enter Tryz.func104, Tryz.ntmps104
      go_wp2_with fail
      go_quiet (fail)
      go_wp2_with fail
      go_ret
      exact ⟨ret_bool (by first | exact HX.out | (rw [← HX.out]; simp [*])), below_drewN HB0.out _⟩
     | cons x xs =>
      have HX : Hid (false = B) := Lib.hid (by rw [← HB.out]; unfold shpB; simp [*])
      (try clear k0); (try clear m0); (try clear m1); (try clear r0)
      go_enter Tryz.func104, Tryz.ntmps104
      go_wp2_with fail
      go_quiet (fail)
      go_wp2_with fail
      go_ret
      exact ⟨ret_bool (by first | exact HX.out | (rw [← HX.out]; simp [*])), below_drewN HB0.out _⟩
    ·have y2 : ((rs.length : Int) == 0) = false := by rw [beq_eq_false_iff_ne]; omega
     have HX : Hid (false = B) := Lib.hid (by rw [← HB.out]; unfold shpB; simp [*])
     (try clear k0); (try clear m0); (try clear m1); (try clear r0)
     go_enter Tryz.func104, Tryz.ntmps104
     go_wp2_with fail
     go_quiet (fail)
     go_wp2_with fail
     go_ret
     exact ⟨ret_bool (by first | exact HX.out | (rw [← HX.out]; simp [*])), below_drewN HB0.out _⟩
   ·have y1 : ((n : Int) == 1) = false := by rw [beq_eq_false_iff_ne]; omega
    have HX : Hid (false = B) := Lib.hid (by rw [← HB.out]; unfold shpB; simp [*])
    (try clear k0); (try clear m0); (try clear m1); (try clear r0)
    go_enter Tryz.func104, Tryz.ntmps104
    go_wp2_with fail
    go_quiet (fail)
    go_wp2_with fail
    go_ret
    exact ⟨ret_bool (by first | exact HX.out | (rw [← HX.out]; simp [*])), below_drewN HB0.out _⟩
 ·have b1 : (mn == 0) = false := by simpa using m0
  by_cases k0 : n = 1
  ·have y1 : ((n : Int) == 1) = true := by rw [beq_iff_eq]; omega
   by_cases r0 : rs.length = 0
   ·have y2 : ((rs.length : Int) == 0) = true := by rw [beq_iff_eq]; omega
    cases nm with
    | nil =>
     have HX : Hid (true = B) := Lib.hid (by rw [← HB.out]; unfold shpB; simp [*])
     (try clear k0); (try clear m0); (try clear m1); (try clear r0)
     go_enter Tryz.func104, Tryz.ntmps104
     go_wp2_with fail
     go_quiet (fail)
     go_wp2_with fail
     go_ret
     exact ⟨ret_bool (by first | exact HX.out | (rw [← HX.out]; simp [*])), below_drewN HB0.out _⟩
    | cons x xs =>
     have HX : Hid (false = B) := Lib.hid (by rw [← HB.out]; unfold shpB; simp [*])
     (try clear k0); (try clear m0); (try clear m1); (try clear r0)
     go_enter Tryz.func104, Tryz.ntmps104
     go_wp2_with fail
     go_quiet (fail)
     go_wp2_with fail
     go_ret
     exact ⟨ret_bool (by first | exact HX.out | (rw [← HX.out]; simp [*])), below_drewN HB0.out _⟩
   ·have y2 : ((rs.length : Int) == 0) = false := by rw [beq_eq_false_iff_ne]; omega
    have HX : Hid (false = B) := Lib.hid (by rw [← HB.out]; unfold shpB; simp [*])
    (try clear k0); (try clear m0); (try clear m1); (try clear r0)
    go_enter Tryz.func104, Tryz.ntmps104
    go_wp2_with fail
    go_quiet (fail)
    go_wp2_with fail
    go_ret
    exact ⟨ret_bool (by first | exact HX.out | (rw [← HX.out]; simp [*])), below_drewN HB0.out _⟩
  ·have y1 : ((n : Int) == 1) = false := by rw [beq_eq_false_iff_ne]; omega
   have HX : Hid (false = B) := Lib.hid (by rw [← HB.out]; unfold shpB; simp [*])
   (try clear k0); (try clear m0); (try clear m1); (try clear r0)
   go_enter Tryz.func104, Tryz.ntmps104
   go_wp2_with fail
   go_quiet (fail)
   go_wp2_with fail
   go_ret
   exact ⟨ret_bool (by first | exact HX.out | (rw [← HX.out]; simp [*])), below_drewN HB0.out _⟩
set_option maxRecDepth 100000 in
set_option maxHeartbeats 4000000 in
theorem shape_5 (rs : List (UInt8 × UInt8)) (nm : List UInt8) (n : Nat) (mn mx : Int) (ra : Option Addr) (rc : Nat) (a : Option Addr) (c : Nat) (w : World) (hr : RgAt w rs (.slice ra rs.length rc)) :
  Calls Tryz.prog 104 #[.agg #[.int .i64 5, .slice ra rs.length rc, .string ⟨nm.toArray⟩, .slice a n c, .int .i64 mn, .int .i64 mx]] w fun e w' => e = .returned (.bool (shpB 5 rs nm n mn mx)) ∧ Below w.heap.size w w' := by
 have HRG := Lib.hid fun W (hb : Below w.heap.size w W) => right_any rs (.slice ra rs.length rc) W (hr.later hb)
 obtain ⟨B, hB⟩ : ∃ B, shpB 5 rs nm n mn mx = B := ⟨_, rfl⟩
 rw [hB]
 have HB := Lib.hid hB
 have HB0 := Lib.hid ((Below.refl _ w).alloc (Nat.le_refl _) (.cells #[.int .i64 5, .slice ra rs.length rc, .string ⟨nm.toArray⟩, .slice a n c, .int .i64 mn, .int .i64 mx] 33))
 have hrl : rs.length ≤ 9223372036854775807 := by obtain ⟨_, _, e, h, _⟩ := hr; exact h
 clear hB hr
 by_cases m0 : mn = 0
 ·have b1 : (mn == 0) = true := by simpa using m0
  by_cases m1 : mx = 0
  ·have b2 : (mx == 0) = true := by simpa using m1
   by_cases k0 : n = 1
   ·have y1 : ((n : Int) == 1) = true := by rw [beq_iff_eq]; omega
    by_cases r0 : rs.length = 0
    ·have y2 : ((rs.length : Int) == 0) = true := by rw [beq_iff_eq]; omega
     have HX : Hid (true = B) := Lib.hid (by rw [← HB.out]; unfold shpB; simp [*])
     (try clear k0); (try clear m0); (try clear m1); (try clear r0)
     go_enter Tryz.func104, Tryz.ntmps104
     go_wp2_with fail
     go_quiet (fail)
     go_wp2_with fail
     go_ret
     exact ⟨ret_bool (by first | exact HX.out | (rw [← HX.out]; simp [*])), below_drewN HB0.out _⟩
    ·have y2 : ((rs.length : Int) == 0) = false := by rw [beq_eq_false_iff_ne]; omega
     have HX : Hid (false = B) := Lib.hid (by rw [← HB.out]; unfold shpB; simp [*])
     (try clear k0); (try clear m0); (try clear m1); (try clear r0)
     go_enter Tryz.func104, Tryz.ntmps104
     go_wp2_with fail
     go_quiet (fail)
     go_wp2_with fail
     go_ret
     exact ⟨ret_bool (by first | exact HX.out | (rw [← HX.out]; simp [*])), below_drewN HB0.out _⟩
   ·have y1 : ((n : Int) == 1) = false := by rw [beq_eq_false_iff_ne]; omega
    have HX : Hid (false = B) := Lib.hid (by rw [← HB.out]; unfold shpB; simp [*])
    (try clear k0); (try clear m0); (try clear m1); (try clear r0)
    go_enter Tryz.func104, Tryz.ntmps104
    go_wp2_with fail
    go_quiet (fail)
    go_wp2_with fail
    go_ret
    exact ⟨ret_bool (by first | exact HX.out | (rw [← HX.out]; simp [*])), below_drewN HB0.out _⟩
  ·have b2 : (mx == 0) = false := by simpa using m1
   by_cases k0 : n = 1
   ·have y1 : ((n : Int) == 1) = true := by rw [beq_iff_eq]; omega
    by_cases r0 : rs.length = 0
    ·have y2 : ((rs.length : Int) == 0) = true := by rw [beq_iff_eq]; omega
     have HX : Hid (false = B) := Lib.hid (by rw [← HB.out]; unfold shpB; simp [*])
     (try clear k0); (try clear m0); (try clear m1); (try clear r0)
     go_enter Tryz.func104, Tryz.ntmps104
     go_wp2_with fail
     go_quiet (fail)
     go_wp2_with fail
     go_ret
     exact ⟨ret_bool (by first | exact HX.out | (rw [← HX.out]; simp [*])), below_drewN HB0.out _⟩
    ·have y2 : ((rs.length : Int) == 0) = false := by rw [beq_eq_false_iff_ne]; omega
     have HX : Hid (false = B) := Lib.hid (by rw [← HB.out]; unfold shpB; simp [*])
     (try clear k0); (try clear m0); (try clear m1); (try clear r0)
     go_enter Tryz.func104, Tryz.ntmps104
     go_wp2_with fail
     go_quiet (fail)
     go_wp2_with fail
     go_ret
     exact ⟨ret_bool (by first | exact HX.out | (rw [← HX.out]; simp [*])), below_drewN HB0.out _⟩
   ·have y1 : ((n : Int) == 1) = false := by rw [beq_eq_false_iff_ne]; omega
    have HX : Hid (false = B) := Lib.hid (by rw [← HB.out]; unfold shpB; simp [*])
    (try clear k0); (try clear m0); (try clear m1); (try clear r0)
    go_enter Tryz.func104, Tryz.ntmps104
    go_wp2_with fail
    go_quiet (fail)
    go_wp2_with fail
    go_ret
    exact ⟨ret_bool (by first | exact HX.out | (rw [← HX.out]; simp [*])), below_drewN HB0.out _⟩
 ·have b1 : (mn == 0) = false := by simpa using m0
  by_cases k0 : n = 1
  ·have y1 : ((n : Int) == 1) = true := by rw [beq_iff_eq]; omega
   by_cases r0 : rs.length = 0
   ·have y2 : ((rs.length : Int) == 0) = true := by rw [beq_iff_eq]; omega
    have HX : Hid (false = B) := Lib.hid (by rw [← HB.out]; unfold shpB; simp [*])
    (try clear k0); (try clear m0); (try clear m1); (try clear r0)
    go_enter Tryz.func104, Tryz.ntmps104
    go_wp2_with fail
    go_quiet (fail)
    go_wp2_with fail
    go_ret
    exact ⟨ret_bool (by first | exact HX.out | (rw [← HX.out]; simp [*])), below_drewN HB0.out _⟩
   ·have y2 : ((rs.length : Int) == 0) = false := by rw [beq_eq_false_iff_ne]; omega
    have HX : Hid (false = B) := Lib.hid (by rw [← HB.out]; unfold shpB; simp [*])
    (try clear k0); (try clear m0); (try clear m1); (try clear r0)
    go_enter Tryz.func104, Tryz.ntmps104
    go_wp2_with fail
    go_quiet (fail)
    go_wp2_with fail
    go_ret
    exact ⟨ret_bool (by first | exact HX.out | (rw [← HX.out]; simp [*])), below_drewN HB0.out _⟩
  ·have y1 : ((n : Int) == 1) = false := by rw [beq_eq_false_iff_ne]; omega
   have HX : Hid (false = B) := Lib.hid (by rw [← HB.out]; unfold shpB; simp [*])
   (try clear k0); (try clear m0); (try clear m1); (try clear r0)
   go_enter Tryz.func104, Tryz.ntmps104
   go_wp2_with fail
   go_quiet (fail)
   go_wp2_with fail
   go_ret
   exact ⟨ret_bool (by first | exact HX.out | (rw [← HX.out]; simp [*])), below_drewN HB0.out _⟩
set_option maxRecDepth 100000 in
set_option maxHeartbeats 4000000 in
theorem shape_no (op : Int) (rs : List (UInt8 × UInt8)) (nm : List UInt8) (n : Nat) (mn mx : Int) (ra : Option Addr) (rc : Nat) (a : Option Addr) (c : Nat) (w : World) (hop : op ≠ 0 ∧ op ≠ 1 ∧ op ≠ 2 ∧ op ≠ 3 ∧ op ≠ 4 ∧ op ≠ 5 ∧ op ≠ 6 ∧ op ≠ 7) :
  Calls Tryz.prog 104 #[.agg #[.int .i64 op, .slice ra rs.length rc, .string ⟨nm.toArray⟩, .slice a n c, .int .i64 mn, .int .i64 mx]] w fun e w' => e = .returned (.bool (shpB op rs nm n mn mx)) ∧ Below w.heap.size w w' := by
 have HX : shpB op rs nm n mn mx = false := by unfold shpB; simp [hop]
 rw [HX]
 have o0 : (op == 0) = false := by rw [beq_eq_false_iff_ne]; exact hop.1
 have o1 : (op == 1) = false := by rw [beq_eq_false_iff_ne]; exact hop.2.1
 have o2 : (op == 2) = false := by rw [beq_eq_false_iff_ne]; exact hop.2.2.1
 have o3 : (op == 3) = false := by rw [beq_eq_false_iff_ne]; exact hop.2.2.2.1
 have o4 : (op == 4) = false := by rw [beq_eq_false_iff_ne]; exact hop.2.2.2.2.1
 have o5 : (op == 5) = false := by rw [beq_eq_false_iff_ne]; exact hop.2.2.2.2.2.1
 have o6 : (op == 6) = false := by rw [beq_eq_false_iff_ne]; exact hop.2.2.2.2.2.2.1
 have o7 : (op == 7) = false := by rw [beq_eq_false_iff_ne]; exact hop.2.2.2.2.2.2.2
 have HB0 := Lib.hid ((Below.refl _ w).alloc (Nat.le_refl _) (.cells #[.int .i64 op, .slice ra rs.length rc, .string ⟨nm.toArray⟩, .slice a n c, .int .i64 mn, .int .i64 mx] 33))
 clear HX hop
 by_cases m0 : mn = 0
 ·have b1 : (mn == 0) = true := by simpa using m0
  by_cases m1 : mx = 0
  ·have b2 : (mx == 0) = true := by simpa using m1
   (try clear m0); (try clear m1)
   go_enter Tryz.func104, Tryz.ntmps104
   go_wp2_with fail
   go_quiet (fail)
   go_wp2_with fail
   go_ret
   exact ⟨rfl, below_drewN HB0.out _⟩
  ·have b2 : (mx == 0) = false := by simpa using m1
   (try clear m0); (try clear m1)
   go_enter Tryz.func104, Tryz.ntmps104
   go_wp2_with fail
   go_quiet (fail)
   go_wp2_with fail
   go_ret
   exact ⟨rfl, below_drewN HB0.out _⟩
 ·have b1 : (mn == 0) = false := by simpa using m0
  (try clear m0); (try clear m1)
  go_enter Tryz.func104, Tryz.ntmps104
  go_wp2_with fail
  go_quiet (fail)
  go_wp2_with fail
  go_ret
  exact ⟨rfl, below_drewN HB0.out _⟩
end Go.Proofs.YtmpbjaodgajnfaaGreatDoor
namespace Go.Proofs.YtmpbjaodgajnfaaGreatDoor
open Go.RowKit
theorem shape_any (op : Int) (rs : List (UInt8 × UInt8)) (nm : List UInt8) (n : Nat) (mn mx : Int) (ra : Option Addr) (rc : Nat) (a : Option Addr) (c : Nat) (w : World) (hr : RgAt w rs (.slice ra rs.length rc)) :
  Calls Tryz.prog 104 #[.agg #[.int .i64 op, .slice ra rs.length rc, .string ⟨nm.toArray⟩, .slice a n c, .int .i64 mn, .int .i64 mx]] w fun e w' => e = .returned (.bool (shpB op rs nm n mn mx)) ∧ Below w.heap.size w w' := by
 by_cases h0 : op = 0
 ·subst h0; exact shape_0 rs nm n mn mx ra rc a c w hr
 by_cases h1 : op = 1
 ·subst h1; exact shape_1 rs nm n mn mx ra rc a c w hr
 by_cases h2 : op = 2
 ·subst h2; exact shape_2 rs nm n mn mx ra rc a c w hr
 by_cases h3 : op = 3
 ·subst h3; exact shape_3 rs nm n mn mx ra rc a c w hr
 by_cases h4 : op = 4
 ·subst h4; exact shape_4 rs nm n mn mx ra rc a c w hr
 by_cases h5 : op = 5
 ·subst h5; exact shape_5 rs nm n mn mx ra rc a c w hr
 by_cases h6 : op = 6
 ·subst h6; exact shape_6 rs nm n mn mx ra rc a c w hr
 by_cases h7 : op = 7
 ·subst h7; exact shape_7 rs nm n mn mx ra rc a c w hr
 exact shape_no op rs nm n mn mx ra rc a c w ⟨h0, h1, h2, h3, h4, h5, h6, h7⟩
end Go.Proofs.YtmpbjaodgajnfaaGreatDoor

/-
 Joined: PatE, PatG, PatEa.
-/
import Derived.Test.YtmpbjaodgajnfaaGreatDoorEhA
import Derived.BigQuiet
namespace Go.Proofs.YtmpbjaodgajnfaaGreatDoor
open Go.RowKit
noncomputable def shpB (op : Int) (rs : List (UInt8 × UInt8)) (nm : List UInt8) (n : Nat) (mn mx : Int) : Bool :=
 if op = 0 ∨ op = 6 ∨ op = 7 then decide (n = 0) && (decide (rs.length = 0) && (decide (nm.length = 0) && decide (mn = 0 ∧ mx = 0)))
 else if op = 1 then decide (n = 0) && (srtB rs && (decide (nm.length = 0) && decide (mn = 0 ∧ mx = 0)))
 else if op = 2 ∨ op = 3 then decide (2 ≤ n) && (decide (rs.length = 0) && (decide (nm.length = 0) && decide (mn = 0 ∧ mx = 0)))
 else if op = 4 then decide (n = 1) && (decide (rs.length = 0) && decide (nm.length = 0))
 else if op = 5 then decide (n = 1) && (decide (rs.length = 0) && decide (mn = 0 ∧ mx = 0))
 else false
end Go.Proofs.YtmpbjaodgajnfaaGreatDoor
namespace Go.Proofs.YtmpbjaodgajnfaaGreatDoor
open Go.RowKit
noncomputable def bareB (op : Int) (rs : List (UInt8 × UInt8)) (nm : List UInt8) (mn mx : Int) : Bool :=
 (decide (op = 1) || decide (rs.length = 0)) && ((decide (op = 5) || decide (nm.length = 0)) && (decide (op = 4) || decide (mn = 0 ∧ mx = 0)))
end Go.Proofs.YtmpbjaodgajnfaaGreatDoor
namespace Go.Proofs.YtmpbjaodgajnfaaGreatDoor
open Go.RowKit
set_option maxRecDepth 100000 in
set_option maxHeartbeats 4000000 in
theorem shape_0 (rs : List (UInt8 × UInt8)) (nm : List UInt8) (n : Nat) (mn mx : Int) (ra : Option Addr) (rc : Nat) (a : Option Addr) (c : Nat) (w : World) (hr : RgAt w rs (.slice ra rs.length rc)) :
  Calls Tryz.prog 104 #[.agg #[.int .i64 0, .slice ra rs.length rc, .string ⟨nm.toArray⟩, .slice a n c, .int .i64 mn, .int .i64 mx]] w fun e w' => e = .returned (.bool (shpB 0 rs nm n mn mx)) ∧ Below w.heap.size w w' := by
 have HRG := Lib.hid fun W (hb : Below w.heap.size w W) => right_any rs (.slice ra rs.length rc) W (hr.later hb)
 obtain ⟨B, hB⟩ : ∃ B, shpB 0 rs nm n mn mx = B := ⟨_, rfl⟩
 rw [hB]
 have HB := Lib.hid hB
 have HB0 := Lib.hid ((Below.refl _ w).alloc (Nat.le_refl _) (.cells #[.int .i64 0, .slice ra rs.length rc, .string ⟨nm.toArray⟩, .slice a n c, .int .i64 mn, .int .i64 mx] 33))
 have hrl : rs.length ≤ 9223372036854775807 := by obtain ⟨_, _, e, h, _⟩ := hr; exact h
 clear hB hr
 by_cases m0 : mn = 0
 ·have b1 : (mn == 0) = true := by simpa using m0
  by_cases m1 : mx = 0
  ·have b2 : (mx == 0) = true := by simpa using m1
   by_cases k0 : n = 0
   ·have y1 : ((n : Int) == 0) = true := by rw [beq_iff_eq]; omega
    by_cases r0 : rs.length = 0
    ·have y2 : ((rs.length : Int) == 0) = true := by rw [beq_iff_eq]; omega
     cases nm with
     | nil =>
      have HX : Hid (true = B) := Lib.hid (by rw [← HB.out]; unfold shpB; simp [*])
      (try clear k0); (try clear m0); (try clear m1); (try clear r0)
      go_enter Tryz.func104, Tryz.ntmps104
      go_wp2_with fail
      go_quiet (fail)
      go_wp2_with fail
      go_ret
      exact ⟨ret_bool (by first | exact HX.out | (rw [← HX.out]; simp [*])), below_drewN HB0.out _⟩
     | cons x xs =>
      have HX : Hid (false = B) := Lib.hid (by rw [← HB.out]; unfold shpB; simp [*])
      (try clear k0); (try clear m0); (try clear m1); (try clear r0)
      go_enter Tryz.func104, Tryz.ntmps104
      go_wp2_with fail
      go_quiet (fail)
      go_wp2_with fail
      go_ret
      exact ⟨ret_bool (by first | exact HX.out | (rw [← HX.out]; simp [*])), below_drewN HB0.out _⟩
    ·have y2 : ((rs.length : Int) == 0) = false := by rw [beq_eq_false_iff_ne]; omega
     have HX : Hid (false = B) := Lib.hid (by rw [← HB.out]; unfold shpB; simp [*])
     (try clear k0); (try clear m0); (try clear m1); (try clear r0)
     go_enter Tryz.func104, Tryz.ntmps104
     go_wp2_with fail
     go_quiet (fail)
     go_wp2_with fail
     go_ret
     exact ⟨ret_bool (by first | exact HX.out | (rw [← HX.out]; simp [*])), below_drewN HB0.out _⟩
   ·have y1 : ((n : Int) == 0) = false := by rw [beq_eq_false_iff_ne]; omega
    have HX : Hid (false = B) := Lib.hid (by rw [← HB.out]; unfold shpB; simp [*])
    (try clear k0); (try clear m0); (try clear m1); (try clear r0)
    go_enter Tryz.func104, Tryz.ntmps104
    go_wp2_with fail
    go_quiet (fail)
    go_wp2_with fail
    go_ret
    exact ⟨ret_bool (by first | exact HX.out | (rw [← HX.out]; simp [*])), below_drewN HB0.out _⟩
  ·have b2 : (mx == 0) = false := by simpa using m1
   by_cases k0 : n = 0
   ·have y1 : ((n : Int) == 0) = true := by rw [beq_iff_eq]; omega
    by_cases r0 : rs.length = 0
    ·have y2 : ((rs.length : Int) == 0) = true := by rw [beq_iff_eq]; omega
     cases nm with
     | nil =>
      have HX : Hid (false = B) := Lib.hid (by rw [← HB.out]; unfold shpB; simp [*])
      (try clear k0); (try clear m0); (try clear m1); (try clear r0)
      go_enter Tryz.func104, Tryz.ntmps104
      go_wp2_with fail
      go_quiet (fail)
      go_wp2_with fail
      go_ret
      exact ⟨ret_bool (by first | exact HX.out | (rw [← HX.out]; simp [*])), below_drewN HB0.out _⟩
     | cons x xs =>
      have HX : Hid (false = B) := Lib.hid (by rw [← HB.out]; unfold shpB; simp [*])
      (try clear k0); (try clear m0); (try clear m1); (try clear r0)
      go_enter Tryz.func104, Tryz.ntmps104
      go_wp2_with fail
      go_quiet (fail)
      go_wp2_with fail
      go_ret
      exact ⟨ret_bool (by first | exact HX.out | (rw [← HX.out]; simp [*])), below_drewN HB0.out _⟩
    ·have y2 : ((rs.length : Int) == 0) = false := by rw [beq_eq_false_iff_ne]; omega
     have HX : Hid (false = B) := Lib.hid (by rw [← HB.out]; unfold shpB; simp [*])
     (try clear k0); (try clear m0); (try clear m1); (try clear r0)
     go_enter Tryz.func104, Tryz.ntmps104
     go_wp2_with fail
     go_quiet (fail)
     go_wp2_with fail
     go_ret
     exact ⟨ret_bool (by first | exact HX.out | (rw [← HX.out]; simp [*])), below_drewN HB0.out _⟩
   ·have y1 : ((n : Int) == 0) = false := by rw [beq_eq_false_iff_ne]; omega
    have HX : Hid (false = B) := Lib.hid (by rw [← HB.out]; unfold shpB; simp [*])
    (try clear k0); (try clear m0); (try clear m1); (try clear r0)
    go_enter Tryz.func104, Tryz.ntmps104
    go_wp2_with fail
    go_quiet (fail)
    go_wp2_with fail
    go_ret
    exact ⟨ret_bool (by first | exact HX.out | (rw [← HX.out]; simp [*])), below_drewN HB0.out _⟩
 ·have b1 : (mn == 0) = false := by simpa using m0
  by_cases k0 : n = 0
  ·have y1 : ((n : Int) == 0) = true := by rw [beq_iff_eq]; omega
   by_cases r0 : rs.length = 0
   ·have y2 : ((rs.length : Int) == 0) = true := by rw [beq_iff_eq]; omega
    cases nm with
    | nil =>
     have HX : Hid (false = B) := Lib.hid (by rw [← HB.out]; unfold shpB; simp [*])
     (try clear k0); (try clear m0); (try clear m1); (try clear r0)
     go_enter Tryz.func104, Tryz.ntmps104
     go_wp2_with fail
     go_quiet (fail)
     go_wp2_with fail
     go_ret
     exact ⟨ret_bool (by first | exact HX.out | (rw [← HX.out]; simp [*])), below_drewN HB0.out _⟩
    | cons x xs =>
     have HX : Hid (false = B) := Lib.hid (by rw [← HB.out]; unfold shpB; simp [*])
     (try clear k0); (try clear m0); (try clear m1); (try clear r0)
     go_enter Tryz.func104, Tryz.ntmps104
     go_wp2_with fail
     go_quiet (fail)
     go_wp2_with fail
     go_ret
     exact ⟨ret_bool (by first | exact HX.out | (rw [← HX.out]; simp [*])), below_drewN HB0.out _⟩
   ·have y2 : ((rs.length : Int) == 0) = false := by rw [beq_eq_false_iff_ne]; omega
    have HX : Hid (false = B) := Lib.hid (by rw [← HB.out]; unfold shpB; simp [*])
    (try clear k0); (try clear m0); (try clear m1); (try clear r0)
    go_enter Tryz.func104, Tryz.ntmps104
    go_wp2_with fail
    go_quiet (fail)
    go_wp2_with fail
    go_ret
    exact ⟨ret_bool (by first | exact HX.out | (rw [← HX.out]; simp [*])), below_drewN HB0.out _⟩
  ·have y1 : ((n : Int) == 0) = false := by rw [beq_eq_false_iff_ne]; omega
   have HX : Hid (false = B) := Lib.hid (by rw [← HB.out]; unfold shpB; simp [*])
   (try clear k0); (try clear m0); (try clear m1); (try clear r0)
   go_enter Tryz.func104, Tryz.ntmps104
   go_wp2_with fail
   go_quiet (fail)
   go_wp2_with fail
   go_ret
   exact ⟨ret_bool (by first | exact HX.out | (rw [← HX.out]; simp [*])), below_drewN HB0.out _⟩
set_option maxRecDepth 100000 in
set_option maxHeartbeats 4000000 in
theorem shape_6 (rs : List (UInt8 × UInt8)) (nm : List UInt8) (n : Nat) (mn mx : Int) (ra : Option Addr) (rc : Nat) (a : Option Addr) (c : Nat) (w : World) (hr : RgAt w rs (.slice ra rs.length rc)) :
  Calls Tryz.prog 104 #[.agg #[.int .i64 6, .slice ra rs.length rc, .string ⟨nm.toArray⟩, .slice a n c, .int .i64 mn, .int .i64 mx]] w fun e w' => e = .returned (.bool (shpB 6 rs nm n mn mx)) ∧ Below w.heap.size w w' := by
 have HRG := Lib.hid fun W (hb : Below w.heap.size w W) => right_any rs (.slice ra rs.length rc) W (hr.later hb)
 obtain ⟨B, hB⟩ : ∃ B, shpB 6 rs nm n mn mx = B := ⟨_, rfl⟩
 rw [hB]
 have HB := Lib.hid hB
 have HB0 := Lib.hid ((Below.refl _ w).alloc (Nat.le_refl _) (.cells #[.int .i64 6, .slice ra rs.length rc, .string ⟨nm.toArray⟩, .slice a n c, .int .i64 mn, .int .i64 mx] 33))
 have hrl : rs.length ≤ 9223372036854775807 := by obtain ⟨_, _, e, h, _⟩ := hr; exact h
 clear hB hr
 by_cases m0 : mn = 0
 ·have b1 : (mn == 0) = true := by simpa using m0
  by_cases m1 : mx = 0
  ·have b2 : (mx == 0) = true := by simpa using m1
   by_cases k0 : n = 0
   ·have y1 : ((n : Int) == 0) = true := by rw [beq_iff_eq]; omega
    by_cases r0 : rs.length = 0
    ·have y2 : ((rs.length : Int) == 0) = true := by rw [beq_iff_eq]; omega
     cases nm with
     | nil =>
      have HX : Hid (true = B) := Lib.hid (by rw [← HB.out]; unfold shpB; simp [*])
      (try clear k0); (try clear m0); (try clear m1); (try clear r0)
      go_enter Tryz.func104, Tryz.ntmps104
      go_wp2_with fail
      go_quiet (fail)
      go_wp2_with fail
      go_ret
      exact ⟨ret_bool (by first | exact HX.out | (rw [← HX.out]; simp [*])), below_drewN HB0.out _⟩
     | cons x xs =>
      have HX : Hid (false = B) := Lib.hid (by rw [← HB.out]; unfold shpB; simp [*])
      (try clear k0); (try clear m0); (try clear m1); (try clear r0)
      go_enter Tryz.func104, Tryz.ntmps104
      go_wp2_with fail
      go_quiet (fail)
      go_wp2_with fail
      go_ret
      exact ⟨ret_bool (by first | exact HX.out | (rw [← HX.out]; simp [*])), below_drewN HB0.out _⟩
    ·have y2 : ((rs.length : Int) == 0) = false := by rw [beq_eq_false_iff_ne]; omega
     have HX : Hid (false = B) := Lib.hid (by rw [← HB.out]; unfold shpB; simp [*])
     (try clear k0); (try clear m0); (try clear m1); (try clear r0)
     go_enter Tryz.func104, Tryz.ntmps104
     go_wp2_with fail
     go_quiet (fail)
     go_wp2_with fail
     go_ret
     exact ⟨ret_bool (by first | exact HX.out | (rw [← HX.out]; simp [*])), below_drewN HB0.out _⟩
   ·have y1 : ((n : Int) == 0) = false := by rw [beq_eq_false_iff_ne]; omega
    have HX : Hid (false = B) := Lib.hid (by rw [← HB.out]; unfold shpB; simp [*])
    (try clear k0); (try clear m0); (try clear m1); (try clear r0)
    go_enter Tryz.func104, Tryz.ntmps104
    go_wp2_with fail
    go_quiet (fail)
    go_wp2_with fail
    go_ret
    exact ⟨ret_bool (by first | exact HX.out | (rw [← HX.out]; simp [*])), below_drewN HB0.out _⟩
  ·have b2 : (mx == 0) = false := by simpa using m1
   by_cases k0 : n = 0
   ·have y1 : ((n : Int) == 0) = true := by rw [beq_iff_eq]; omega
    by_cases r0 : rs.length = 0
    ·have y2 : ((rs.length : Int) == 0) = true := by rw [beq_iff_eq]; omega
     cases nm with
     | nil =>
      have HX : Hid (false = B) := Lib.hid (by rw [← HB.out]; unfold shpB; simp [*])
      (try clear k0); (try clear m0); (try clear m1); (try clear r0)
      go_enter Tryz.func104, Tryz.ntmps104
      go_wp2_with fail
      go_quiet (fail)
      go_wp2_with fail
      go_ret
      exact ⟨ret_bool (by first | exact HX.out | (rw [← HX.out]; simp [*])), below_drewN HB0.out _⟩
     | cons x xs =>
      have HX : Hid (false = B) := Lib.hid (by rw [← HB.out]; unfold shpB; simp [*])
      (try clear k0); (try clear m0); (try clear m1); (try clear r0)
      go_enter Tryz.func104, Tryz.ntmps104
      go_wp2_with fail
      go_quiet (fail)
      go_wp2_with fail
      go_ret
      exact ⟨ret_bool (by first | exact HX.out | (rw [← HX.out]; simp [*])), below_drewN HB0.out _⟩
    ·have y2 : ((rs.length : Int) == 0) = false := by rw [beq_eq_false_iff_ne]; omega
     have HX : Hid (false = B) := Lib.hid (by rw [← HB.out]; unfold shpB; simp [*])
     (try clear k0); (try clear m0); (try clear m1); (try clear r0)
     go_enter Tryz.func104, Tryz.ntmps104
     go_wp2_with fail
     go_quiet (fail)
     go_wp2_with fail
     go_ret
     exact ⟨ret_bool (by first | exact HX.out | (rw [← HX.out]; simp [*])), below_drewN HB0.out _⟩
   ·have y1 : ((n : Int) == 0) = false := by rw [beq_eq_false_iff_ne]; omega
    have HX : Hid (false = B) := Lib.hid (by rw [← HB.out]; unfold shpB; simp [*])
    (try clear k0); (try clear m0); (try clear m1); (try clear r0)
    go_enter Tryz.func104, Tryz.ntmps104
    go_wp2_with fail
    go_quiet (fail)
    go_wp2_with fail
    go_ret
    exact ⟨ret_bool (by first | exact HX.out | (rw [← HX.out]; simp [*])), below_drewN HB0.out _⟩
 ·have b1 : (mn == 0) = false := by simpa using m0
  by_cases k0 : n = 0
  ·have y1 : ((n : Int) == 0) = true := by rw [beq_iff_eq]; omega
   by_cases r0 : rs.length = 0
   ·have y2 : ((rs.length : Int) == 0) = true := by rw [beq_iff_eq]; omega
    cases nm with
    | nil =>
     have HX : Hid (false = B) := Lib.hid (by rw [← HB.out]; unfold shpB; simp [*])
     (try clear k0); (try clear m0); (try clear m1); (try clear r0)
     go_enter Tryz.func104, Tryz.ntmps104
     go_wp2_with fail
     go_quiet (fail)
     go_wp2_with fail
     go_ret
     exact ⟨ret_bool (by first | exact HX.out | (rw [← HX.out]; simp [*])), below_drewN HB0.out _⟩
    | cons x xs =>
     have HX : Hid (false = B) := Lib.hid (by rw [← HB.out]; unfold shpB; simp [*])
     (try clear k0); (try clear m0); (try clear m1); (try clear r0)
     go_enter Tryz.func104, Tryz.ntmps104
     go_wp2_with fail
     go_quiet (fail)
     go_wp2_with fail
     go_ret
     exact ⟨ret_bool (by first | exact HX.out | (rw [← HX.out]; simp [*])), below_drewN HB0.out _⟩
   ·have y2 : ((rs.length : Int) == 0) = false := by rw [beq_eq_false_iff_ne]; omega
    have HX : Hid (false = B) := Lib.hid (by rw [← HB.out]; unfold shpB; simp [*])
    (try clear k0); (try clear m0); (try clear m1); (try clear r0)
    go_enter Tryz.func104, Tryz.ntmps104
    go_wp2_with fail
    go_quiet (fail)
    go_wp2_with fail
    go_ret
    exact ⟨ret_bool (by first | exact HX.out | (rw [← HX.out]; simp [*])), below_drewN HB0.out _⟩
  ·have y1 : ((n : Int) == 0) = false := by rw [beq_eq_false_iff_ne]; omega
   have HX : Hid (false = B) := Lib.hid (by rw [← HB.out]; unfold shpB; simp [*])
   (try clear k0); (try clear m0); (try clear m1); (try clear r0)
   go_enter Tryz.func104, Tryz.ntmps104
   go_wp2_with fail
   go_quiet (fail)
   go_wp2_with fail
   go_ret
   exact ⟨ret_bool (by first | exact HX.out | (rw [← HX.out]; simp [*])), below_drewN HB0.out _⟩
set_option maxRecDepth 100000 in
set_option maxHeartbeats 4000000 in
theorem shape_7 (rs : List (UInt8 × UInt8)) (nm : List UInt8) (n : Nat) (mn mx : Int) (ra : Option Addr) (rc : Nat) (a : Option Addr) (c : Nat) (w : World) (hr : RgAt w rs (.slice ra rs.length rc)) :
  Calls Tryz.prog 104 #[.agg #[.int .i64 7, .slice ra rs.length rc, .string ⟨nm.toArray⟩, .slice a n c, .int .i64 mn, .int .i64 mx]] w fun e w' => e = .returned (.bool (shpB 7 rs nm n mn mx)) ∧ Below w.heap.size w w' := by
 have HRG := Lib.hid fun W (hb : Below w.heap.size w W) => right_any rs (.slice ra rs.length rc) W (hr.later hb)
 obtain ⟨B, hB⟩ : ∃ B, shpB 7 rs nm n mn mx = B := ⟨_, rfl⟩
 rw [hB]
 have HB := Lib.hid hB
 have HB0 := Lib.hid ((Below.refl _ w).alloc (Nat.le_refl _) (.cells #[.int .i64 7, .slice ra rs.length rc, .string ⟨nm.toArray⟩, .slice a n c, .int .i64 mn, .int .i64 mx] 33))
 have hrl : rs.length ≤ 9223372036854775807 := by obtain ⟨_, _, e, h, _⟩ := hr; exact h
 clear hB hr
 by_cases m0 : mn = 0
 ·have b1 : (mn == 0) = true := by simpa using m0
  by_cases m1 : mx = 0
  ·have b2 : (mx == 0) = true := by simpa using m1
   by_cases k0 : n = 0
   ·have y1 : ((n : Int) == 0) = true := by rw [beq_iff_eq]; omega
    by_cases r0 : rs.length = 0
    ·have y2 : ((rs.length : Int) == 0) = true := by rw [beq_iff_eq]; omega
     cases nm with
     | nil =>
      have HX : Hid (true = B) := Lib.hid (by rw [← HB.out]; unfold shpB; simp [*])
      (try clear k0); (try clear m0); (try clear m1); (try clear r0)
      go_enter Tryz.func104, Tryz.ntmps104
      go_wp2_with fail
      go_quiet (fail)
      go_wp2_with fail
      go_ret
      exact ⟨ret_bool (by first | exact HX.out | (rw [← HX.out]; simp [*])), below_drewN HB0.out _⟩
     | cons x xs =>
      have HX : Hid (false = B) := Lib.hid (by rw [← HB.out]; unfold shpB; simp [*])
      (try clear k0); (try clear m0); (try clear m1); (try clear r0)
      go_enter Tryz.func104, Tryz.ntmps104
      go_wp2_with fail
      go_quiet (fail)
      go_wp2_with fail
      go_ret
      exact ⟨ret_bool (by first | exact HX.out | (rw [← HX.out]; simp [*])), below_drewN HB0.out _⟩
    ·have y2 : ((rs.length : Int) == 0) = false := by rw [beq_eq_false_iff_ne]; omega
     have HX : Hid (false = B) := Lib.hid (by rw [← HB.out]; unfold shpB; simp [*])
     (try clear k0); (try clear m0); (try clear m1); (try clear r0)
     go_enter Tryz.func104, Tryz.ntmps104
     go_wp2_with fail
     go_quiet (fail)
     go_wp2_with fail
     go_ret
     exact ⟨ret_bool (by first | exact HX.out | (rw [← HX.out]; simp [*])), below_drewN HB0.out _⟩
   ·have y1 : ((n : Int) == 0) = false := by rw [beq_eq_false_iff_ne]; omega
    have HX : Hid (false = B) := Lib.hid (by rw [← HB.out]; unfold shpB; simp [*])
    (try clear k0); (try clear m0); (try clear m1); (try clear r0)
    go_enter Tryz.func104, Tryz.ntmps104
    go_wp2_with fail
    go_quiet (fail)
    go_wp2_with fail
    go_ret
    exact ⟨ret_bool (by first | exact HX.out | (rw [← HX.out]; simp [*])), below_drewN HB0.out _⟩
  ·have b2 : (mx == 0) = false := by simpa using m1
   by_cases k0 : n = 0
   ·have y1 : ((n : Int) == 0) = true := by rw [beq_iff_eq]; omega
    by_cases r0 : rs.length = 0
    ·have y2 : ((rs.length : Int) == 0) = true := by rw [beq_iff_eq]; omega
     cases nm with
     | nil =>
      have HX : Hid (false = B) := Lib.hid (by rw [← HB.out]; unfold shpB; simp [*])
      (try clear k0); (try clear m0); (try clear m1); (try clear r0)
      go_enter Tryz.func104, Tryz.ntmps104
      go_wp2_with fail
      go_quiet (fail)
      go_wp2_with fail
      go_ret
      exact ⟨ret_bool (by first | exact HX.out | (rw [← HX.out]; simp [*])), below_drewN HB0.out _⟩
     | cons x xs =>
      have HX : Hid (false = B) := Lib.hid (by rw [← HB.out]; unfold shpB; simp [*])
      (try clear k0); (try clear m0); (try clear m1); (try clear r0)
      go_enter Tryz.func104, Tryz.ntmps104
      go_wp2_with fail
      go_quiet (fail)
      go_wp2_with fail
      go_ret
      exact ⟨ret_bool (by first | exact HX.out | (rw [← HX.out]; simp [*])), below_drewN HB0.out _⟩
    ·have y2 : ((rs.length : Int) == 0) = false := by rw [beq_eq_false_iff_ne]; omega
     have HX : Hid (false = B) := Lib.hid (by rw [← HB.out]; unfold shpB; simp [*])
     (try clear k0); (try clear m0); (try clear m1); (try clear r0)
     go_enter Tryz.func104, Tryz.ntmps104
     go_wp2_with fail
     go_quiet (fail)
     go_wp2_with fail
     go_ret
     exact ⟨ret_bool (by first | exact HX.out | (rw [← HX.out]; simp [*])), below_drewN HB0.out _⟩
   ·have y1 : ((n : Int) == 0) = false := by rw [beq_eq_false_iff_ne]; omega
    have HX : Hid (false = B) := Lib.hid (by rw [← HB.out]; unfold shpB; simp [*])
    (try clear k0); (try clear m0); (try clear m1); (try clear r0)
    go_enter Tryz.func104, Tryz.ntmps104
    go_wp2_with fail
    go_quiet (fail)
    go_wp2_with fail
    go_ret
    exact ⟨ret_bool (by first | exact HX.out | (rw [← HX.out]; simp [*])), below_drewN HB0.out _⟩
 ·have b1 : (mn == 0) = false := by simpa using m0
  by_cases k0 : n = 0
  ·have y1 : ((n : Int) == 0) = true := by rw [beq_iff_eq]; omega
   by_cases r0 : rs.length = 0
   ·have y2 : ((rs.length : Int) == 0) = true := by rw [beq_iff_eq]; omega
    cases nm with
    | nil =>
     have HX : Hid (false = B) := Lib.hid (by rw [← HB.out]; unfold shpB; simp [*])
     (try clear k0); (try clear m0); (try clear m1); (try clear r0)
     go_enter Tryz.func104, Tryz.ntmps104
     go_wp2_with fail
     go_quiet (fail)
     go_wp2_with fail
     go_ret
     exact ⟨ret_bool (by first | exact HX.out | (rw [← HX.out]; simp [*])), below_drewN HB0.out _⟩
    | cons x xs =>
     have HX : Hid (false = B) := Lib.hid (by rw [← HB.out]; unfold shpB; simp [*])
     (try clear k0); (try clear m0); (try clear m1); (try clear r0)
     go_enter Tryz.func104, Tryz.ntmps104
     go_wp2_with fail
     go_quiet (fail)
     go_wp2_with fail
     go_ret
     exact ⟨ret_bool (by first | exact HX.out | (rw [← HX.out]; simp [*])), below_drewN HB0.out _⟩
   ·have y2 : ((rs.length : Int) == 0) = false := by rw [beq_eq_false_iff_ne]; omega
    have HX : Hid (false = B) := Lib.hid (by rw [← HB.out]; unfold shpB; simp [*])
    (try clear k0); (try clear m0); (try clear m1); (try clear r0)
    go_enter Tryz.func104, Tryz.ntmps104
    go_wp2_with fail
    go_quiet (fail)
    go_wp2_with fail
    go_ret
    exact ⟨ret_bool (by first | exact HX.out | (rw [← HX.out]; simp [*])), below_drewN HB0.out _⟩
  ·have y1 : ((n : Int) == 0) = false := by rw [beq_eq_false_iff_ne]; omega
   have HX : Hid (false = B) := Lib.hid (by rw [← HB.out]; unfold shpB; simp [*])
   (try clear k0); (try clear m0); (try clear m1); (try clear r0)
   go_enter Tryz.func104, Tryz.ntmps104
   go_wp2_with fail
   go_quiet (fail)
   go_wp2_with fail
   go_ret
   exact ⟨ret_bool (by first | exact HX.out | (rw [← HX.out]; simp [*])), below_drewN HB0.out _⟩
end Go.Proofs.YtmpbjaodgajnfaaGreatDoor

/-
 Joined: PatEb.
-/
import Derived.Test.YtmpbjaodgajnfaaGreatDoorEhB
import Derived.BigQuiet
namespace Go.Proofs.YtmpbjaodgajnfaaGreatDoor
open Go.RowKit
set_option maxRecDepth 100000 in
set_option maxHeartbeats 4000000 in
theorem shape_1 (rs : List (UInt8 × UInt8)) (nm : List UInt8) (n : Nat) (mn mx : Int) (ra : Option Addr) (rc : Nat) (a : Option Addr) (c : Nat) (w : World) (hr : RgAt w rs (.slice ra rs.length rc)) :
  Calls Tryz.prog 104 #[.agg #[.int .i64 1, .slice ra rs.length rc, .string ⟨nm.toArray⟩, .slice a n c, .int .i64 mn, .int .i64 mx]] w fun e w' => e = .returned (.bool (shpB 1 rs nm n mn mx)) ∧ Below w.heap.size w w' := by
 have HRG := Lib.hid fun W (hb : Below w.heap.size w W) => right_any rs (.slice ra rs.length rc) W (hr.later hb)
 obtain ⟨B, hB⟩ : ∃ B, shpB 1 rs nm n mn mx = B := ⟨_, rfl⟩
 rw [hB]
 have HB := Lib.hid hB
 have HB0 := Lib.hid ((Below.refl _ w).alloc (Nat.le_refl _) (.cells #[.int .i64 1, .slice ra rs.length rc, .string ⟨nm.toArray⟩, .slice a n c, .int .i64 mn, .int .i64 mx] 33))
 have hrl : rs.length ≤ 9223372036854775807 := by obtain ⟨_, _, e, h, _⟩ := hr; exact h
 clear hB hr
 by_cases m0 : mn = 0
 ·have b1 : (mn == 0) = true := by simpa using m0
  by_cases m1 : mx = 0
  ·have b2 : (mx == 0) = true := by simpa using m1
   by_cases k0 : n = 0
   ·have y1 : ((n : Int) == 0) = true := by rw [beq_iff_eq]; omega
    cases r0 : srtB rs
    ·rw [r0] at HRG
     have HX : Hid (false = B) := Lib.hid (by rw [← HB.out]; unfold shpB; simp [*])
     (try clear k0); (try clear m0); (try clear m1); (try clear r0)
     go_enter Tryz.func104, Tryz.ntmps104
     go_wp2_with fail
     go_quiet (fail)
     go_wp2_with fail
     refine (HRG.out _ (below_drewN HB0.out nq)).mono ?_
     rintro e w2 ⟨rfl, hb2⟩
     have HB2 := Lib.hid ((below_drewN HB0.out nq).trans (hb2.mono HB0.out.size))
     go_wp2_with fail
     go_ret
     exact ⟨ret_bool (by first | exact HX.out | (rw [← HX.out]; simp [*])), HB2.out⟩
    ·rw [r0] at HRG
     cases nm with
     | nil =>
      have HX : Hid (true = B) := Lib.hid (by rw [← HB.out]; unfold shpB; simp [*])
      (try clear k0); (try clear m0); (try clear m1); (try clear r0)
      go_enter Tryz.func104, Tryz.ntmps104
      go_wp2_with fail
      go_quiet (fail)
      go_wp2_with fail
      refine (HRG.out _ (below_drewN HB0.out nq)).mono ?_
      rintro e w2 ⟨rfl, hb2⟩
      have HB2 := Lib.hid ((below_drewN HB0.out nq).trans (hb2.mono HB0.out.size))
      go_wp2_with fail
      go_ret
      exact ⟨ret_bool (by first | exact HX.out | (rw [← HX.out]; simp [*])), HB2.out⟩
     | cons x xs =>
      have HX : Hid (false = B) := Lib.hid (by rw [← HB.out]; unfold shpB; simp [*])
      (try clear k0); (try clear m0); (try clear m1); (try clear r0)
      go_enter Tryz.func104, Tryz.ntmps104
      go_wp2_with fail
      go_quiet (fail)
      go_wp2_with fail
      refine (HRG.out _ (below_drewN HB0.out nq)).mono ?_
      rintro e w2 ⟨rfl, hb2⟩
      have HB2 := Lib.hid ((below_drewN HB0.out nq).trans (hb2.mono HB0.out.size))
      go_wp2_with fail
      go_ret
      exact ⟨ret_bool (by first | exact HX.out | (rw [← HX.out]; simp [*])), HB2.out⟩
   ·have y1 : ((n : Int) == 0) = false := by rw [beq_eq_false_iff_ne]; omega
    have r0 : srtB rs = srtB rs := rfl
    clear r0
    have HX : Hid (false = B) := Lib.hid (by rw [← HB.out]; unfold shpB; simp [*])
    (try clear k0); (try clear m0); (try clear m1); (try clear r0)
    go_enter Tryz.func104, Tryz.ntmps104
    go_wp2_with fail
    go_quiet (fail)
    go_wp2_with fail
    refine (HRG.out _ (below_drewN HB0.out nq)).mono ?_
    rintro e w2 ⟨rfl, hb2⟩
    have HB2 := Lib.hid ((below_drewN HB0.out nq).trans (hb2.mono HB0.out.size))
    go_wp2_with fail
    go_ret
    exact ⟨ret_bool (by first | exact HX.out | (rw [← HX.out]; simp [*])), HB2.out⟩
  ·have b2 : (mx == 0) = false := by simpa using m1
   by_cases k0 : n = 0
   ·have y1 : ((n : Int) == 0) = true := by rw [beq_iff_eq]; omega
    cases r0 : srtB rs
    ·rw [r0] at HRG
     have HX : Hid (false = B) := Lib.hid (by rw [← HB.out]; unfold shpB; simp [*])
     (try clear k0); (try clear m0); (try clear m1); (try clear r0)
     go_enter Tryz.func104, Tryz.ntmps104
     go_wp2_with fail
     go_quiet (fail)
     go_wp2_with fail
     refine (HRG.out _ (below_drewN HB0.out nq)).mono ?_
     rintro e w2 ⟨rfl, hb2⟩
     have HB2 := Lib.hid ((below_drewN HB0.out nq).trans (hb2.mono HB0.out.size))
     go_wp2_with fail
     go_ret
     exact ⟨ret_bool (by first | exact HX.out | (rw [← HX.out]; simp [*])), HB2.out⟩
    ·rw [r0] at HRG
     cases nm with
     | nil =>
      have HX : Hid (false = B) := Lib.hid (by rw [← HB.out]; unfold shpB; simp [*])
      (try clear k0); (try clear m0); (try clear m1); (try clear r0)
      go_enter Tryz.func104, Tryz.ntmps104
      go_wp2_with fail
      go_quiet (fail)
      go_wp2_with fail
      refine (HRG.out _ (below_drewN HB0.out nq)).mono ?_
      rintro e w2 ⟨rfl, hb2⟩
      have HB2 := Lib.hid ((below_drewN HB0.out nq).trans (hb2.mono HB0.out.size))
      go_wp2_with fail
      go_ret
      exact ⟨ret_bool (by first | exact HX.out | (rw [← HX.out]; simp [*])), HB2.out⟩
     | cons x xs =>
      have HX : Hid (false = B) := Lib.hid (by rw [← HB.out]; unfold shpB; simp [*])
      (try clear k0); (try clear m0); (try clear m1); (try clear r0)
      go_enter Tryz.func104, Tryz.ntmps104
      go_wp2_with fail
      go_quiet (fail)
      go_wp2_with fail
      refine (HRG.out _ (below_drewN HB0.out nq)).mono ?_
      rintro e w2 ⟨rfl, hb2⟩
      have HB2 := Lib.hid ((below_drewN HB0.out nq).trans (hb2.mono HB0.out.size))
      go_wp2_with fail
      go_ret
      exact ⟨ret_bool (by first | exact HX.out | (rw [← HX.out]; simp [*])), HB2.out⟩
   ·have y1 : ((n : Int) == 0) = false := by rw [beq_eq_false_iff_ne]; omega
    have r0 : srtB rs = srtB rs := rfl
    clear r0
    have HX : Hid (false = B) := Lib.hid (by rw [← HB.out]; unfold shpB; simp [*])
    (try clear k0); (try clear m0); (try clear m1); (try clear r0)
    go_enter Tryz.func104, Tryz.ntmps104
    go_wp2_with fail
    go_quiet (fail)
    go_wp2_with fail
    refine (HRG.out _ (below_drewN HB0.out nq)).mono ?_
    rintro e w2 ⟨rfl, hb2⟩
    have HB2 := Lib.hid ((below_drewN HB0.out nq).trans (hb2.mono HB0.out.size))
    go_wp2_with fail
    go_ret
    exact ⟨ret_bool (by first | exact HX.out | (rw [← HX.out]; simp [*])), HB2.out⟩
 ·have b1 : (mn == 0) = false := by simpa using m0
  by_cases k0 : n = 0
  ·have y1 : ((n : Int) == 0) = true := by rw [beq_iff_eq]; omega
   cases r0 : srtB rs
   ·rw [r0] at HRG
    have HX : Hid (false = B) := Lib.hid (by rw [← HB.out]; unfold shpB; simp [*])
    (try clear k0); (try clear m0); (try clear m1); (try clear r0)
    go_enter Tryz.func104, Tryz.ntmps104
    go_wp2_with fail
    go_quiet (fail)
    go_wp2_with fail
    refine (HRG.out _ (below_drewN HB0.out nq)).mono ?_
    rintro e w2 ⟨rfl, hb2⟩
    have HB2 := Lib.hid ((below_drewN HB0.out nq).trans (hb2.mono HB0.out.size))
    go_wp2_with fail
    go_ret
    exact ⟨ret_bool (by first | exact HX.out | (rw [← HX.out]; simp [*])), HB2.out⟩
   ·rw [r0] at HRG
    cases nm with
    | nil =>
     have HX : Hid (false = B) := Lib.hid (by rw [← HB.out]; unfold shpB; simp [*])
     (try clear k0); (try clear m0); (try clear m1); (try clear r0)
     go_enter Tryz.func104, Tryz.ntmps104
     go_wp2_with fail
     go_quiet (fail)
     go_wp2_with fail
     refine (HRG.out _ (below_drewN HB0.out nq)).mono ?_
     rintro e w2 ⟨rfl, hb2⟩
     have HB2 := Lib.hid ((below_drewN HB0.out nq).trans (hb2.mono HB0.out.size))
     go_wp2_with fail
     go_ret
     exact ⟨ret_bool (by first | exact HX.out | (rw [← HX.out]; simp [*])), HB2.out⟩
    | cons x xs =>
     have HX : Hid (false = B) := Lib.hid (by rw [← HB.out]; unfold shpB; simp [*])
     (try clear k0); (try clear m0); (try clear m1); (try clear r0)
     go_enter Tryz.func104, Tryz.ntmps104
     go_wp2_with fail
     go_quiet (fail)
     go_wp2_with fail
     refine (HRG.out _ (below_drewN HB0.out nq)).mono ?_
     rintro e w2 ⟨rfl, hb2⟩
     have HB2 := Lib.hid ((below_drewN HB0.out nq).trans (hb2.mono HB0.out.size))
     go_wp2_with fail
     go_ret
     exact ⟨ret_bool (by first | exact HX.out | (rw [← HX.out]; simp [*])), HB2.out⟩
  ·have y1 : ((n : Int) == 0) = false := by rw [beq_eq_false_iff_ne]; omega
   have r0 : srtB rs = srtB rs := rfl
   clear r0
   have HX : Hid (false = B) := Lib.hid (by rw [← HB.out]; unfold shpB; simp [*])
   (try clear k0); (try clear m0); (try clear m1); (try clear r0)
   go_enter Tryz.func104, Tryz.ntmps104
   go_wp2_with fail
   go_quiet (fail)
   go_wp2_with fail
   refine (HRG.out _ (below_drewN HB0.out nq)).mono ?_
   rintro e w2 ⟨rfl, hb2⟩
   have HB2 := Lib.hid ((below_drewN HB0.out nq).trans (hb2.mono HB0.out.size))
   go_wp2_with fail
   go_ret
   exact ⟨ret_bool (by first | exact HX.out | (rw [← HX.out]; simp [*])), HB2.out⟩
set_option maxRecDepth 100000 in
set_option maxHeartbeats 4000000 in
theorem shape_2 (rs : List (UInt8 × UInt8)) (nm : List UInt8) (n : Nat) (mn mx : Int) (ra : Option Addr) (rc : Nat) (a : Option Addr) (c : Nat) (w : World) (hr : RgAt w rs (.slice ra rs.length rc)) :
  Calls Tryz.prog 104 #[.agg #[.int .i64 2, .slice ra rs.length rc, .string ⟨nm.toArray⟩, .slice a n c, .int .i64 mn, .int .i64 mx]] w fun e w' => e = .returned (.bool (shpB 2 rs nm n mn mx)) ∧ Below w.heap.size w w' := by
 have HRG := Lib.hid fun W (hb : Below w.heap.size w W) => right_any rs (.slice ra rs.length rc) W (hr.later hb)
 obtain ⟨B, hB⟩ : ∃ B, shpB 2 rs nm n mn mx = B := ⟨_, rfl⟩
 rw [hB]
 have HB := Lib.hid hB
 have HB0 := Lib.hid ((Below.refl _ w).alloc (Nat.le_refl _) (.cells #[.int .i64 2, .slice ra rs.length rc, .string ⟨nm.toArray⟩, .slice a n c, .int .i64 mn, .int .i64 mx] 33))
 have hrl : rs.length ≤ 9223372036854775807 := by obtain ⟨_, _, e, h, _⟩ := hr; exact h
 clear hB hr
 by_cases m0 : mn = 0
 ·have b1 : (mn == 0) = true := by simpa using m0
  by_cases m1 : mx = 0
  ·have b2 : (mx == 0) = true := by simpa using m1
   by_cases k0 : 2 ≤ n
   ·have y1 : decide ((2 : Int) ≤ (n : Int)) = true := decide_eq_true (by omega)
    by_cases r0 : rs.length = 0
    ·have y2 : ((rs.length : Int) == 0) = true := by rw [beq_iff_eq]; omega
     cases nm with
     | nil =>
      have HX : Hid (true = B) := Lib.hid (by rw [← HB.out]; unfold shpB; simp [*])
      (try clear k0); (try clear m0); (try clear m1); (try clear r0)
      go_enter Tryz.func104, Tryz.ntmps104
      go_wp2_with fail
      go_quiet (fail)
      go_wp2_with fail
      go_ret
      exact ⟨ret_bool (by first | exact HX.out | (rw [← HX.out]; simp [*])), below_drewN HB0.out _⟩
     | cons x xs =>
      have HX : Hid (false = B) := Lib.hid (by rw [← HB.out]; unfold shpB; simp [*])
      (try clear k0); (try clear m0); (try clear m1); (try clear r0)
      go_enter Tryz.func104, Tryz.ntmps104
      go_wp2_with fail
      go_quiet (fail)
      go_wp2_with fail
      go_ret
      exact ⟨ret_bool (by first | exact HX.out | (rw [← HX.out]; simp [*])), below_drewN HB0.out _⟩
    ·have y2 : ((rs.length : Int) == 0) = false := by rw [beq_eq_false_iff_ne]; omega
     have HX : Hid (false = B) := Lib.hid (by rw [← HB.out]; unfold shpB; simp [*])
     (try clear k0); (try clear m0); (try clear m1); (try clear r0)
     go_enter Tryz.func104, Tryz.ntmps104
     go_wp2_with fail
     go_quiet (fail)
     go_wp2_with fail
     go_ret
     exact ⟨ret_bool (by first | exact HX.out | (rw [← HX.out]; simp [*])), below_drewN HB0.out _⟩
   ·have y1 : decide ((2 : Int) ≤ (n : Int)) = false := decide_eq_false (by omega)
    have HX : Hid (false = B) := Lib.hid (by rw [← HB.out]; unfold shpB; simp [*])
    (try clear k0); (try clear m0); (try clear m1); (try clear r0)
    go_enter Tryz.func104, Tryz.ntmps104
    go_wp2_with fail
    go_quiet (fail)
    go_wp2_with fail
    go_ret
    exact ⟨ret_bool (by first | exact HX.out | (rw [← HX.out]; simp [*])), below_drewN HB0.out _⟩
  ·have b2 : (mx == 0) = false := by simpa using m1
   by_cases k0 : 2 ≤ n
   ·have y1 : decide ((2 : Int) ≤ (n : Int)) = true := decide_eq_true (by omega)
    by_cases r0 : rs.length = 0
    ·have y2 : ((rs.length : Int) == 0) = true := by rw [beq_iff_eq]; omega
     cases nm with
     | nil =>
      have HX : Hid (false = B) := Lib.hid (by rw [← HB.out]; unfold shpB; simp [*])
      (try clear k0); (try clear m0); (try clear m1); (try clear r0)
      go_enter Tryz.func104, Tryz.ntmps104
      go_wp2_with fail
      go_quiet (fail)
      go_wp2_with fail
      go_ret
      exact ⟨ret_bool (by first | exact HX.out | (rw [← HX.out]; simp [*])), below_drewN HB0.out _⟩
     | cons x xs =>
      have HX : Hid (false = B) := Lib.hid (by rw [← HB.out]; unfold shpB; simp [*])
      (try clear k0); (try clear m0); (try clear m1); (try clear r0)
      go_enter Tryz.func104, Tryz.ntmps104
      go_wp2_with fail
      go_quiet (fail)
      go_wp2_with fail
      go_ret
      exact ⟨ret_bool (by first | exact HX.out | (rw [← HX.out]; simp [*])), below_drewN HB0.out _⟩
    ·have y2 : ((rs.length : Int) == 0) = false := by rw [beq_eq_false_iff_ne]; omega
     have HX : Hid (false = B) := Lib.hid (by rw [← HB.out]; unfold shpB; simp [*])
     (try clear k0); (try clear m0); (try clear m1); (try clear r0)
     go_enter Tryz.func104, Tryz.ntmps104
     go_wp2_with fail
     go_quiet (fail)
     go_wp2_with fail
     go_ret
     exact ⟨ret_bool (by first | exact HX.out | (rw [← HX.out]; simp [*])), below_drewN HB0.out _⟩
   ·have y1 : decide ((2 : Int) ≤ (n : Int)) = false := decide_eq_false (by omega)
    have HX : Hid (false = B) := Lib.hid (by rw [← HB.out]; unfold shpB; simp [*])
    (try clear k0); (try clear m0); (try clear m1); (try clear r0)
    go_enter Tryz.func104, Tryz.ntmps104
    go_wp2_with fail
    go_quiet (fail)
    go_wp2_with fail
    go_ret
    exact ⟨ret_bool (by first | exact HX.out | (rw [← HX.out]; simp [*])), below_drewN HB0.out _⟩
 ·have b1 : (mn == 0) = false := by simpa using m0
  by_cases k0 : 2 ≤ n
  ·have y1 : decide ((2 : Int) ≤ (n : Int)) = true := decide_eq_true (by omega)
   by_cases r0 : rs.length = 0
   ·have y2 : ((rs.length : Int) == 0) = true := by rw [beq_iff_eq]; omega
    cases nm with
    | nil =>
     have HX : Hid (false = B) := Lib.hid (by rw [← HB.out]; unfold shpB; simp [*])
     (try clear k0); (try clear m0); (try clear m1); (try clear r0)
     go_enter Tryz.func104, Tryz.ntmps104
     go_wp2_with fail
     go_quiet (fail)
     go_wp2_with fail
     go_ret
     exact ⟨ret_bool (by first | exact HX.out | (rw [← HX.out]; simp [*])), below_drewN HB0.out _⟩
    | cons x xs =>
     have HX : Hid (false = B) := Lib.hid (by rw [← HB.out]; unfold shpB; simp [*])
     (try clear k0); (try clear m0); (try clear m1); (try clear r0)
     go_enter Tryz.func104, Tryz.ntmps104
     go_wp2_with fail
     go_quiet (fail)
     go_wp2_with fail
     go_ret
     exact ⟨ret_bool (by first | exact HX.out | (rw [← HX.out]; simp [*])), below_drewN HB0.out _⟩
   ·have y2 : ((rs.length : Int) == 0) = false := by rw [beq_eq_false_iff_ne]; omega
    have HX : Hid (false = B) := Lib.hid (by rw [← HB.out]; unfold shpB; simp [*])
    (try clear k0); (try clear m0); (try clear m1); (try clear r0)
    go_enter Tryz.func104, Tryz.ntmps104
    go_wp2_with fail
    go_quiet (fail)
    go_wp2_with fail
    go_ret
    exact ⟨ret_bool (by first | exact HX.out | (rw [← HX.out]; simp [*])), below_drewN HB0.out _⟩
  ·have y1 : decide ((2 : Int) ≤ (n : Int)) = false := decide_eq_false (by omega)
   have HX : Hid (false = B) := Lib.hid (by rw [← HB.out]; unfold shpB; simp [*])
   (try clear k0); (try clear m0); (try clear m1); (try clear r0)
   go_enter Tryz.func104, Tryz.ntmps104
   go_wp2_with fail
   go_quiet (fail)
   go_wp2_with fail
   go_ret
   exact ⟨ret_bool (by first | exact HX.out | (rw [← HX.out]; simp [*])), below_drewN HB0.out _⟩
end Go.Proofs.YtmpbjaodgajnfaaGreatDoor

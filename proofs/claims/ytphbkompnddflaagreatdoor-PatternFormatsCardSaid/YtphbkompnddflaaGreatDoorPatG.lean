/-
  What a node must not have, for the reference.
-/
import Derived.Test.YtphbkompnddflaaGreatDoorPatE
import Derived.BigQuiet
namespace Go.Proofs.YtphbkompnddflaaGreatDoor
open Go.RowKit

noncomputable def bareB (op : Int) (rs : List (UInt8 × UInt8)) (nm : List UInt8) (mn mx : Int) : Bool :=
  (decide (op = 1) || decide (rs.length = 0)) && ((decide (op = 5) || decide (nm.length = 0)) && (decide (op = 4) || decide (mn = 0 ∧ mx = 0)))
set_option maxRecDepth 100000 in
set_option maxHeartbeats 4000000 in
theorem bare_1 (rs : List (UInt8 × UInt8)) (nm : List UInt8) (n : Nat) (mn mx : Int) (ra : Option Addr) (rc : Nat) (a : Option Addr) (c : Nat) (w : World) :
    Calls Tryz.prog 70 #[.agg #[.int .i64 1, .slice ra rs.length rc, .string ⟨nm.toArray⟩, .slice a n c, .int .i64 mn, .int .i64 mx]] w fun e w' => e = .returned (.bool (bareB 1 rs nm mn mx)) ∧ Below w.heap.size w w' := by
  obtain ⟨B, hB⟩ : ∃ B, bareB 1 rs nm mn mx = B := ⟨_, rfl⟩
  rw [hB]
  have HB := Lib.hid hB
  have HB0 := Lib.hid ((Below.refl _ w).alloc (Nat.le_refl _) (.cells #[.int .i64 1, .slice ra rs.length rc, .string ⟨nm.toArray⟩, .slice a n c, .int .i64 mn, .int .i64 mx] 25))
  clear hB
  cases nm with
  | nil =>
    by_cases m0 : mn = 0
    · have b1 : (mn == 0) = true := by simpa using m0
      by_cases m1 : mx = 0
      · have b2 : (mx == 0) = true := by simpa using m1
        have HX : Hid (true = B) := Lib.hid (by rw [← HB.out]; unfold bareB; simp [*])
        (try clear r0); (try clear m0); (try clear m1)
        go_enter Tryz.func70, Tryz.ntmps70
        go_wp2_with fail
        go_ret
        exact ⟨ret_bool HX.out, HB0.out⟩
      · have b2 : (mx == 0) = false := by simpa using m1
        have HX : Hid (false = B) := Lib.hid (by rw [← HB.out]; unfold bareB; simp [*])
        (try clear r0); (try clear m0); (try clear m1)
        go_enter Tryz.func70, Tryz.ntmps70
        go_wp2_with fail
        go_ret
        exact ⟨ret_bool HX.out, HB0.out⟩
    · have b1 : (mn == 0) = false := by simpa using m0
      have HX : Hid (false = B) := Lib.hid (by rw [← HB.out]; unfold bareB; simp [*])
      (try clear r0); (try clear m0); (try clear m1)
      go_enter Tryz.func70, Tryz.ntmps70
      go_wp2_with fail
      go_ret
      exact ⟨ret_bool HX.out, HB0.out⟩
  | cons x xs =>
    have HX : Hid (false = B) := Lib.hid (by rw [← HB.out]; unfold bareB; simp [*])
    (try clear r0); (try clear m0); (try clear m1)
    go_enter Tryz.func70, Tryz.ntmps70
    go_wp2_with fail
    go_ret
    exact ⟨ret_bool HX.out, HB0.out⟩
set_option maxRecDepth 100000 in
set_option maxHeartbeats 4000000 in
theorem bare_4 (rs : List (UInt8 × UInt8)) (nm : List UInt8) (n : Nat) (mn mx : Int) (ra : Option Addr) (rc : Nat) (a : Option Addr) (c : Nat) (w : World) :
    Calls Tryz.prog 70 #[.agg #[.int .i64 4, .slice ra rs.length rc, .string ⟨nm.toArray⟩, .slice a n c, .int .i64 mn, .int .i64 mx]] w fun e w' => e = .returned (.bool (bareB 4 rs nm mn mx)) ∧ Below w.heap.size w w' := by
  obtain ⟨B, hB⟩ : ∃ B, bareB 4 rs nm mn mx = B := ⟨_, rfl⟩
  rw [hB]
  have HB := Lib.hid hB
  have HB0 := Lib.hid ((Below.refl _ w).alloc (Nat.le_refl _) (.cells #[.int .i64 4, .slice ra rs.length rc, .string ⟨nm.toArray⟩, .slice a n c, .int .i64 mn, .int .i64 mx] 25))
  clear hB
  by_cases r0 : rs.length = 0
  · have y2 : ((rs.length : Int) == 0) = true := by rw [beq_iff_eq]; omega
    cases nm with
    | nil =>
      have HX : Hid (true = B) := Lib.hid (by rw [← HB.out]; unfold bareB; simp [*])
      (try clear r0); (try clear m0); (try clear m1)
      go_enter Tryz.func70, Tryz.ntmps70
      go_wp2_with fail
      go_ret
      exact ⟨ret_bool HX.out, HB0.out⟩
    | cons x xs =>
      have HX : Hid (false = B) := Lib.hid (by rw [← HB.out]; unfold bareB; simp [*])
      (try clear r0); (try clear m0); (try clear m1)
      go_enter Tryz.func70, Tryz.ntmps70
      go_wp2_with fail
      go_ret
      exact ⟨ret_bool HX.out, HB0.out⟩
  · have y2 : ((rs.length : Int) == 0) = false := by rw [beq_eq_false_iff_ne]; omega
    have HX : Hid (false = B) := Lib.hid (by rw [← HB.out]; unfold bareB; simp [*])
    (try clear r0); (try clear m0); (try clear m1)
    go_enter Tryz.func70, Tryz.ntmps70
    go_wp2_with fail
    go_ret
    exact ⟨ret_bool HX.out, HB0.out⟩
set_option maxRecDepth 100000 in
set_option maxHeartbeats 4000000 in
theorem bare_5 (rs : List (UInt8 × UInt8)) (nm : List UInt8) (n : Nat) (mn mx : Int) (ra : Option Addr) (rc : Nat) (a : Option Addr) (c : Nat) (w : World) :
    Calls Tryz.prog 70 #[.agg #[.int .i64 5, .slice ra rs.length rc, .string ⟨nm.toArray⟩, .slice a n c, .int .i64 mn, .int .i64 mx]] w fun e w' => e = .returned (.bool (bareB 5 rs nm mn mx)) ∧ Below w.heap.size w w' := by
  obtain ⟨B, hB⟩ : ∃ B, bareB 5 rs nm mn mx = B := ⟨_, rfl⟩
  rw [hB]
  have HB := Lib.hid hB
  have HB0 := Lib.hid ((Below.refl _ w).alloc (Nat.le_refl _) (.cells #[.int .i64 5, .slice ra rs.length rc, .string ⟨nm.toArray⟩, .slice a n c, .int .i64 mn, .int .i64 mx] 25))
  clear hB
  by_cases r0 : rs.length = 0
  · have y2 : ((rs.length : Int) == 0) = true := by rw [beq_iff_eq]; omega
    by_cases m0 : mn = 0
    · have b1 : (mn == 0) = true := by simpa using m0
      by_cases m1 : mx = 0
      · have b2 : (mx == 0) = true := by simpa using m1
        have HX : Hid (true = B) := Lib.hid (by rw [← HB.out]; unfold bareB; simp [*])
        (try clear r0); (try clear m0); (try clear m1)
        go_enter Tryz.func70, Tryz.ntmps70
        go_wp2_with fail
        go_ret
        exact ⟨ret_bool HX.out, HB0.out⟩
      · have b2 : (mx == 0) = false := by simpa using m1
        have HX : Hid (false = B) := Lib.hid (by rw [← HB.out]; unfold bareB; simp [*])
        (try clear r0); (try clear m0); (try clear m1)
        go_enter Tryz.func70, Tryz.ntmps70
        go_wp2_with fail
        go_ret
        exact ⟨ret_bool HX.out, HB0.out⟩
    · have b1 : (mn == 0) = false := by simpa using m0
      have HX : Hid (false = B) := Lib.hid (by rw [← HB.out]; unfold bareB; simp [*])
      (try clear r0); (try clear m0); (try clear m1)
      go_enter Tryz.func70, Tryz.ntmps70
      go_wp2_with fail
      go_ret
      exact ⟨ret_bool HX.out, HB0.out⟩
  · have y2 : ((rs.length : Int) == 0) = false := by rw [beq_eq_false_iff_ne]; omega
    have HX : Hid (false = B) := Lib.hid (by rw [← HB.out]; unfold bareB; simp [*])
    (try clear r0); (try clear m0); (try clear m1)
    go_enter Tryz.func70, Tryz.ntmps70
    go_wp2_with fail
    go_ret
    exact ⟨ret_bool HX.out, HB0.out⟩
set_option maxRecDepth 100000 in
set_option maxHeartbeats 4000000 in
theorem bare_no (op : Int) (rs : List (UInt8 × UInt8)) (nm : List UInt8) (n : Nat) (mn mx : Int) (ra : Option Addr) (rc : Nat) (a : Option Addr) (c : Nat) (w : World) (h1 : op ≠ 1) (h4 : op ≠ 4) (h5 : op ≠ 5) :
    Calls Tryz.prog 70 #[.agg #[.int .i64 op, .slice ra rs.length rc, .string ⟨nm.toArray⟩, .slice a n c, .int .i64 mn, .int .i64 mx]] w fun e w' => e = .returned (.bool (bareB op rs nm mn mx)) ∧ Below w.heap.size w w' := by
  obtain ⟨B, hB⟩ : ∃ B, bareB op rs nm mn mx = B := ⟨_, rfl⟩
  rw [hB]
  have HB := Lib.hid hB
  have HB0 := Lib.hid ((Below.refl _ w).alloc (Nat.le_refl _) (.cells #[.int .i64 op, .slice ra rs.length rc, .string ⟨nm.toArray⟩, .slice a n c, .int .i64 mn, .int .i64 mx] 25))
  clear hB
  have o1 : (op == 1) = false := by rw [beq_eq_false_iff_ne]; exact h1
  have o4 : (op == 4) = false := by rw [beq_eq_false_iff_ne]; exact h4
  have o5 : (op == 5) = false := by rw [beq_eq_false_iff_ne]; exact h5
  by_cases r0 : rs.length = 0
  · have y2 : ((rs.length : Int) == 0) = true := by rw [beq_iff_eq]; omega
    cases nm with
    | nil =>
      by_cases m0 : mn = 0
      · have b1 : (mn == 0) = true := by simpa using m0
        by_cases m1 : mx = 0
        · have b2 : (mx == 0) = true := by simpa using m1
          have HX : Hid (true = B) := Lib.hid (by rw [← HB.out]; unfold bareB; simp [*])
          (try clear r0); (try clear m0); (try clear m1); clear h1 h4 h5
          go_enter Tryz.func70, Tryz.ntmps70
          go_wp2_with fail
          go_ret
          exact ⟨ret_bool HX.out, HB0.out⟩
        · have b2 : (mx == 0) = false := by simpa using m1
          have HX : Hid (false = B) := Lib.hid (by rw [← HB.out]; unfold bareB; simp [*])
          (try clear r0); (try clear m0); (try clear m1); clear h1 h4 h5
          go_enter Tryz.func70, Tryz.ntmps70
          go_wp2_with fail
          go_ret
          exact ⟨ret_bool HX.out, HB0.out⟩
      · have b1 : (mn == 0) = false := by simpa using m0
        have HX : Hid (false = B) := Lib.hid (by rw [← HB.out]; unfold bareB; simp [*])
        (try clear r0); (try clear m0); (try clear m1); clear h1 h4 h5
        go_enter Tryz.func70, Tryz.ntmps70
        go_wp2_with fail
        go_ret
        exact ⟨ret_bool HX.out, HB0.out⟩
    | cons x xs =>
      have HX : Hid (false = B) := Lib.hid (by rw [← HB.out]; unfold bareB; simp [*])
      (try clear r0); (try clear m0); (try clear m1); clear h1 h4 h5
      go_enter Tryz.func70, Tryz.ntmps70
      go_wp2_with fail
      go_ret
      exact ⟨ret_bool HX.out, HB0.out⟩
  · have y2 : ((rs.length : Int) == 0) = false := by rw [beq_eq_false_iff_ne]; omega
    have HX : Hid (false = B) := Lib.hid (by rw [← HB.out]; unfold bareB; simp [*])
    (try clear r0); (try clear m0); (try clear m1); clear h1 h4 h5
    go_enter Tryz.func70, Tryz.ntmps70
    go_wp2_with fail
    go_ret
    exact ⟨ret_bool HX.out, HB0.out⟩
theorem bare_any (op : Int) (rs : List (UInt8 × UInt8)) (nm : List UInt8) (n : Nat) (mn mx : Int) (ra : Option Addr) (rc : Nat) (a : Option Addr) (c : Nat) (w : World) :
    Calls Tryz.prog 70 #[.agg #[.int .i64 op, .slice ra rs.length rc, .string ⟨nm.toArray⟩, .slice a n c, .int .i64 mn, .int .i64 mx]] w fun e w' => e = .returned (.bool (bareB op rs nm mn mx)) ∧ Below w.heap.size w w' := by
  by_cases h1 : op = 1
  · subst h1; exact bare_1 rs nm n mn mx ra rc a c w
  by_cases h4 : op = 4
  · subst h4; exact bare_4 rs nm n mn mx ra rc a c w
  by_cases h5 : op = 5
  · subst h5; exact bare_5 rs nm n mn mx ra rc a c w
  exact bare_no op rs nm n mn mx ra rc a c w h1 h4 h5

end Go.Proofs.YtphbkompnddflaaGreatDoor

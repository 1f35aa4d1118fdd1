/-
  The shape of a node, for the reference (Choice, Begin, End, the rest).
-/
import Derived.Test.YtphbkompnddflaaGreatDoorPatH
import Derived.BigQuiet
namespace Go.Proofs.YtphbkompnddflaaGreatDoor
open Go.RowKit

set_option maxRecDepth 100000 in
set_option maxHeartbeats 4000000 in
theorem rshape_3 (rs : List (UInt8 × UInt8)) (nm : List UInt8) (n : Nat) (mn mx : Int) (ra : Option Addr) (rc : Nat) (a : Option Addr) (c : Nat) (w : World) (hr : RgAt w rs (.slice ra rs.length rc)) (_ : nm.length ≤ 9223372036854775807) :
    Calls Tryz.prog 56 #[.agg #[.int .i64 3, .slice ra rs.length rc, .string ⟨nm.toArray⟩, .slice a n c, .int .i64 mn, .int .i64 mx]] w fun e w' => e = .returned (.int .i64 (shE 3 rs nm n mn mx)) ∧ Below w.heap.size w w' := by
  obtain ⟨B, hB⟩ : ∃ B, shE 3 rs nm n mn mx = B := ⟨_, rfl⟩
  rw [hB]
  have HB := Lib.hid hB
  have HB0 := Lib.hid ((Below.refl _ w).alloc (Nat.le_refl _) (.cells #[.int .i64 3, .slice ra rs.length rc, .string ⟨nm.toArray⟩, .slice a n c, .int .i64 mn, .int .i64 mx] 25))
  have HS := Lib.hid fun W (hb : Below w.heap.size w W) => sorted_any rs (.slice ra rs.length rc) W (hr.later hb)
  have HC : Hid (∀ W, Below (w.heap.size + 1) (w.alloc (.cells #[.int .i64 3, .slice ra rs.length rc, .string ⟨nm.toArray⟩, .slice a n c, .int .i64 mn, .int .i64 mx] 25)) W → ∀ i u, (#[.int .i64 3, .slice ra rs.length rc, .string ⟨nm.toArray⟩, .slice a n c, .int .i64 mn, .int .i64 mx] : Array Value)[i]? = some u → W.cell? ⟨w.heap.size, i, none⟩ = some u) := Lib.hid (fun W hb i u hu => (hb.cell (p := ⟨w.heap.size, i, none⟩) (Nat.lt_succ_self _)).trans (by simp [go_sem]; simpa using hu))
  have HSH := Lib.hid (shp_3 rs nm n mn mx)
  clear hB hr
  rcases Nat.lt_trichotomy n 2 with k0 | k0 | k0
  · have y1 : (n : Int) < 2 := by omega
    have y2 : ((n : Int) != 2) = true := by rw [bne_iff_ne]; omega
    have kk : ¬ 2 ≤ n := by omega
    have HX : Hid (1 = B) := Lib.hid (by rw [← HB.out]; unfold shE; rw [HSH.out]; simp [*])
    (try clear kk); (try clear k0); (try clear r0); (try clear b0); (try clear e0); (try clear m0); (try clear m1); (try clear m2); (try clear m3); (try clear m4)
    go_enter Tryz.func56, Tryz.ntmps56
    go_wp2_with fail
    go_ret
    exact ⟨ret_int (by rw [← HX.out]; rfl), HB0.out⟩
  · subst k0
    have HBR := Lib.hid (bare_any 3 rs nm 2 mn mx ra rc a c)
    cases b0 : bareB 3 rs nm mn mx
    · rw [b0] at HBR
      have HX : Hid (1 = B) := Lib.hid (by rw [← HB.out]; unfold shE; rw [HSH.out]; simp [*])
      (try clear kk); (try clear k0); (try clear r0); (try clear b0); (try clear e0); (try clear m0); (try clear m1); (try clear m2); (try clear m3); (try clear m4)
      go_enter Tryz.func56, Tryz.ntmps56
      go_wp2_with fail
      refine (HBR.out _).mono ?_
      rintro e w3 ⟨rfl, hb3⟩
      have HWw3 : Hid (Below (w.heap.size + 1) (w.alloc (.cells #[.int .i64 3, .slice ra rs.length rc, .string ⟨nm.toArray⟩, .slice a 2 c, .int .i64 mn, .int .i64 mx] 25)) w3) := Lib.hid (by simpa using hb3)
      have HB3 := Lib.hid (HB0.out.trans (hb3.mono HB0.out.size))
      clear hb3
      have kw30 : w3.cell? ⟨w.heap.size, 0, none⟩ = some (.int .i64 3) := HC.out _ HWw3.out 0 _ rfl
      have kw31 : w3.cell? ⟨w.heap.size, 1, none⟩ = some (.slice ra rs.length rc) := HC.out _ HWw3.out 1 _ rfl
      have kw32 : w3.cell? ⟨w.heap.size, 2, none⟩ = some (.string ⟨nm.toArray⟩) := HC.out _ HWw3.out 2 _ rfl
      have kw33 : w3.cell? ⟨w.heap.size, 3, none⟩ = some (.slice a 2 c) := HC.out _ HWw3.out 3 _ rfl
      have kw34 : w3.cell? ⟨w.heap.size, 4, none⟩ = some (.int .i64 mn) := HC.out _ HWw3.out 4 _ rfl
      have kw35 : w3.cell? ⟨w.heap.size, 5, none⟩ = some (.int .i64 mx) := HC.out _ HWw3.out 5 _ rfl
      go_wp2_with fail
      go_ret
      exact ⟨ret_int (by rw [← HX.out]; rfl), HB3.out⟩
    · rw [b0] at HBR
      have HX : Hid (0 = B) := Lib.hid (by rw [← HB.out]; unfold shE; rw [HSH.out]; simp [*])
      (try clear kk); (try clear k0); (try clear r0); (try clear b0); (try clear e0); (try clear m0); (try clear m1); (try clear m2); (try clear m3); (try clear m4)
      go_enter Tryz.func56, Tryz.ntmps56
      go_wp2_with fail
      refine (HBR.out _).mono ?_
      rintro e w3 ⟨rfl, hb3⟩
      have HWw3 : Hid (Below (w.heap.size + 1) (w.alloc (.cells #[.int .i64 3, .slice ra rs.length rc, .string ⟨nm.toArray⟩, .slice a 2 c, .int .i64 mn, .int .i64 mx] 25)) w3) := Lib.hid (by simpa using hb3)
      have HB3 := Lib.hid (HB0.out.trans (hb3.mono HB0.out.size))
      clear hb3
      have kw30 : w3.cell? ⟨w.heap.size, 0, none⟩ = some (.int .i64 3) := HC.out _ HWw3.out 0 _ rfl
      have kw31 : w3.cell? ⟨w.heap.size, 1, none⟩ = some (.slice ra rs.length rc) := HC.out _ HWw3.out 1 _ rfl
      have kw32 : w3.cell? ⟨w.heap.size, 2, none⟩ = some (.string ⟨nm.toArray⟩) := HC.out _ HWw3.out 2 _ rfl
      have kw33 : w3.cell? ⟨w.heap.size, 3, none⟩ = some (.slice a 2 c) := HC.out _ HWw3.out 3 _ rfl
      have kw34 : w3.cell? ⟨w.heap.size, 4, none⟩ = some (.int .i64 mn) := HC.out _ HWw3.out 4 _ rfl
      have kw35 : w3.cell? ⟨w.heap.size, 5, none⟩ = some (.int .i64 mx) := HC.out _ HWw3.out 5 _ rfl
      go_wp2_with fail
      go_ret
      exact ⟨ret_int (by rw [← HX.out]; rfl), HB3.out⟩
  · have y1 : (2 : Int) < (n : Int) := by omega
    have kk : 2 ≤ n := by omega
    have HBR := Lib.hid (bare_any 3 rs nm n mn mx ra rc a c)
    cases b0 : bareB 3 rs nm mn mx
    · rw [b0] at HBR
      have HX : Hid (1 = B) := Lib.hid (by rw [← HB.out]; unfold shE; rw [HSH.out]; simp [*])
      (try clear kk); (try clear k0); (try clear r0); (try clear b0); (try clear e0); (try clear m0); (try clear m1); (try clear m2); (try clear m3); (try clear m4)
      go_enter Tryz.func56, Tryz.ntmps56
      go_wp2_with fail
      refine (HBR.out _).mono ?_
      rintro e w3 ⟨rfl, hb3⟩
      have HWw3 : Hid (Below (w.heap.size + 1) (w.alloc (.cells #[.int .i64 3, .slice ra rs.length rc, .string ⟨nm.toArray⟩, .slice a n c, .int .i64 mn, .int .i64 mx] 25)) w3) := Lib.hid (by simpa using hb3)
      have HB3 := Lib.hid (HB0.out.trans (hb3.mono HB0.out.size))
      clear hb3
      have kw30 : w3.cell? ⟨w.heap.size, 0, none⟩ = some (.int .i64 3) := HC.out _ HWw3.out 0 _ rfl
      have kw31 : w3.cell? ⟨w.heap.size, 1, none⟩ = some (.slice ra rs.length rc) := HC.out _ HWw3.out 1 _ rfl
      have kw32 : w3.cell? ⟨w.heap.size, 2, none⟩ = some (.string ⟨nm.toArray⟩) := HC.out _ HWw3.out 2 _ rfl
      have kw33 : w3.cell? ⟨w.heap.size, 3, none⟩ = some (.slice a n c) := HC.out _ HWw3.out 3 _ rfl
      have kw34 : w3.cell? ⟨w.heap.size, 4, none⟩ = some (.int .i64 mn) := HC.out _ HWw3.out 4 _ rfl
      have kw35 : w3.cell? ⟨w.heap.size, 5, none⟩ = some (.int .i64 mx) := HC.out _ HWw3.out 5 _ rfl
      go_wp2_with fail
      go_ret
      exact ⟨ret_int (by rw [← HX.out]; rfl), HB3.out⟩
    · rw [b0] at HBR
      have HX : Hid (0 = B) := Lib.hid (by rw [← HB.out]; unfold shE; rw [HSH.out]; simp [*])
      (try clear kk); (try clear k0); (try clear r0); (try clear b0); (try clear e0); (try clear m0); (try clear m1); (try clear m2); (try clear m3); (try clear m4)
      go_enter Tryz.func56, Tryz.ntmps56
      go_wp2_with fail
      refine (HBR.out _).mono ?_
      rintro e w3 ⟨rfl, hb3⟩
      have HWw3 : Hid (Below (w.heap.size + 1) (w.alloc (.cells #[.int .i64 3, .slice ra rs.length rc, .string ⟨nm.toArray⟩, .slice a n c, .int .i64 mn, .int .i64 mx] 25)) w3) := Lib.hid (by simpa using hb3)
      have HB3 := Lib.hid (HB0.out.trans (hb3.mono HB0.out.size))
      clear hb3
      have kw30 : w3.cell? ⟨w.heap.size, 0, none⟩ = some (.int .i64 3) := HC.out _ HWw3.out 0 _ rfl
      have kw31 : w3.cell? ⟨w.heap.size, 1, none⟩ = some (.slice ra rs.length rc) := HC.out _ HWw3.out 1 _ rfl
      have kw32 : w3.cell? ⟨w.heap.size, 2, none⟩ = some (.string ⟨nm.toArray⟩) := HC.out _ HWw3.out 2 _ rfl
      have kw33 : w3.cell? ⟨w.heap.size, 3, none⟩ = some (.slice a n c) := HC.out _ HWw3.out 3 _ rfl
      have kw34 : w3.cell? ⟨w.heap.size, 4, none⟩ = some (.int .i64 mn) := HC.out _ HWw3.out 4 _ rfl
      have kw35 : w3.cell? ⟨w.heap.size, 5, none⟩ = some (.int .i64 mx) := HC.out _ HWw3.out 5 _ rfl
      go_wp2_with fail
      go_ret
      exact ⟨ret_int (by rw [← HX.out]; rfl), HB3.out⟩
set_option maxRecDepth 100000 in
set_option maxHeartbeats 4000000 in
theorem rshape_6 (rs : List (UInt8 × UInt8)) (nm : List UInt8) (n : Nat) (mn mx : Int) (ra : Option Addr) (rc : Nat) (a : Option Addr) (c : Nat) (w : World) (hr : RgAt w rs (.slice ra rs.length rc)) (_ : nm.length ≤ 9223372036854775807) :
    Calls Tryz.prog 56 #[.agg #[.int .i64 6, .slice ra rs.length rc, .string ⟨nm.toArray⟩, .slice a n c, .int .i64 mn, .int .i64 mx]] w fun e w' => e = .returned (.int .i64 (shE 6 rs nm n mn mx)) ∧ Below w.heap.size w w' := by
  obtain ⟨B, hB⟩ : ∃ B, shE 6 rs nm n mn mx = B := ⟨_, rfl⟩
  rw [hB]
  have HB := Lib.hid hB
  have HB0 := Lib.hid ((Below.refl _ w).alloc (Nat.le_refl _) (.cells #[.int .i64 6, .slice ra rs.length rc, .string ⟨nm.toArray⟩, .slice a n c, .int .i64 mn, .int .i64 mx] 25))
  have HS := Lib.hid fun W (hb : Below w.heap.size w W) => sorted_any rs (.slice ra rs.length rc) W (hr.later hb)
  have HC : Hid (∀ W, Below (w.heap.size + 1) (w.alloc (.cells #[.int .i64 6, .slice ra rs.length rc, .string ⟨nm.toArray⟩, .slice a n c, .int .i64 mn, .int .i64 mx] 25)) W → ∀ i u, (#[.int .i64 6, .slice ra rs.length rc, .string ⟨nm.toArray⟩, .slice a n c, .int .i64 mn, .int .i64 mx] : Array Value)[i]? = some u → W.cell? ⟨w.heap.size, i, none⟩ = some u) := Lib.hid (fun W hb i u hu => (hb.cell (p := ⟨w.heap.size, i, none⟩) (Nat.lt_succ_self _)).trans (by simp [go_sem]; simpa using hu))
  have HSH := Lib.hid (shp_6 rs nm n mn mx)
  clear hB hr
  by_cases k0 : n = 0
  · have y1 : ((n : Int) != 0) = false := by rw [bne_eq_false_iff_eq]; omega
    have HBR := Lib.hid (bare_any 6 rs nm n mn mx ra rc a c)
    cases b0 : bareB 6 rs nm mn mx
    · rw [b0] at HBR
      have HX : Hid (1 = B) := Lib.hid (by rw [← HB.out]; unfold shE; rw [HSH.out]; simp [*])
      (try clear kk); (try clear k0); (try clear r0); (try clear b0); (try clear e0); (try clear m0); (try clear m1); (try clear m2); (try clear m3); (try clear m4)
      go_enter Tryz.func56, Tryz.ntmps56
      go_wp2_with fail
      refine (HBR.out _).mono ?_
      rintro e w3 ⟨rfl, hb3⟩
      have HWw3 : Hid (Below (w.heap.size + 1) (w.alloc (.cells #[.int .i64 6, .slice ra rs.length rc, .string ⟨nm.toArray⟩, .slice a n c, .int .i64 mn, .int .i64 mx] 25)) w3) := Lib.hid (by simpa using hb3)
      have HB3 := Lib.hid (HB0.out.trans (hb3.mono HB0.out.size))
      clear hb3
      have kw30 : w3.cell? ⟨w.heap.size, 0, none⟩ = some (.int .i64 6) := HC.out _ HWw3.out 0 _ rfl
      have kw31 : w3.cell? ⟨w.heap.size, 1, none⟩ = some (.slice ra rs.length rc) := HC.out _ HWw3.out 1 _ rfl
      have kw32 : w3.cell? ⟨w.heap.size, 2, none⟩ = some (.string ⟨nm.toArray⟩) := HC.out _ HWw3.out 2 _ rfl
      have kw33 : w3.cell? ⟨w.heap.size, 3, none⟩ = some (.slice a n c) := HC.out _ HWw3.out 3 _ rfl
      have kw34 : w3.cell? ⟨w.heap.size, 4, none⟩ = some (.int .i64 mn) := HC.out _ HWw3.out 4 _ rfl
      have kw35 : w3.cell? ⟨w.heap.size, 5, none⟩ = some (.int .i64 mx) := HC.out _ HWw3.out 5 _ rfl
      go_wp2_with fail
      go_ret
      exact ⟨ret_int (by rw [← HX.out]; rfl), HB3.out⟩
    · rw [b0] at HBR
      have HX : Hid (0 = B) := Lib.hid (by rw [← HB.out]; unfold shE; rw [HSH.out]; simp [*])
      (try clear kk); (try clear k0); (try clear r0); (try clear b0); (try clear e0); (try clear m0); (try clear m1); (try clear m2); (try clear m3); (try clear m4)
      go_enter Tryz.func56, Tryz.ntmps56
      go_wp2_with fail
      refine (HBR.out _).mono ?_
      rintro e w3 ⟨rfl, hb3⟩
      have HWw3 : Hid (Below (w.heap.size + 1) (w.alloc (.cells #[.int .i64 6, .slice ra rs.length rc, .string ⟨nm.toArray⟩, .slice a n c, .int .i64 mn, .int .i64 mx] 25)) w3) := Lib.hid (by simpa using hb3)
      have HB3 := Lib.hid (HB0.out.trans (hb3.mono HB0.out.size))
      clear hb3
      have kw30 : w3.cell? ⟨w.heap.size, 0, none⟩ = some (.int .i64 6) := HC.out _ HWw3.out 0 _ rfl
      have kw31 : w3.cell? ⟨w.heap.size, 1, none⟩ = some (.slice ra rs.length rc) := HC.out _ HWw3.out 1 _ rfl
      have kw32 : w3.cell? ⟨w.heap.size, 2, none⟩ = some (.string ⟨nm.toArray⟩) := HC.out _ HWw3.out 2 _ rfl
      have kw33 : w3.cell? ⟨w.heap.size, 3, none⟩ = some (.slice a n c) := HC.out _ HWw3.out 3 _ rfl
      have kw34 : w3.cell? ⟨w.heap.size, 4, none⟩ = some (.int .i64 mn) := HC.out _ HWw3.out 4 _ rfl
      have kw35 : w3.cell? ⟨w.heap.size, 5, none⟩ = some (.int .i64 mx) := HC.out _ HWw3.out 5 _ rfl
      go_wp2_with fail
      go_ret
      exact ⟨ret_int (by rw [← HX.out]; rfl), HB3.out⟩
  · have y1 : ((n : Int) != 0) = true := by rw [bne_iff_ne]; omega
    have HX : Hid (1 = B) := Lib.hid (by rw [← HB.out]; unfold shE; rw [HSH.out]; simp [*])
    (try clear kk); (try clear k0); (try clear r0); (try clear b0); (try clear e0); (try clear m0); (try clear m1); (try clear m2); (try clear m3); (try clear m4)
    go_enter Tryz.func56, Tryz.ntmps56
    go_wp2_with fail
    go_ret
    exact ⟨ret_int (by rw [← HX.out]; rfl), HB0.out⟩
set_option maxRecDepth 100000 in
set_option maxHeartbeats 4000000 in
theorem rshape_7 (rs : List (UInt8 × UInt8)) (nm : List UInt8) (n : Nat) (mn mx : Int) (ra : Option Addr) (rc : Nat) (a : Option Addr) (c : Nat) (w : World) (hr : RgAt w rs (.slice ra rs.length rc)) (_ : nm.length ≤ 9223372036854775807) :
    Calls Tryz.prog 56 #[.agg #[.int .i64 7, .slice ra rs.length rc, .string ⟨nm.toArray⟩, .slice a n c, .int .i64 mn, .int .i64 mx]] w fun e w' => e = .returned (.int .i64 (shE 7 rs nm n mn mx)) ∧ Below w.heap.size w w' := by
  obtain ⟨B, hB⟩ : ∃ B, shE 7 rs nm n mn mx = B := ⟨_, rfl⟩
  rw [hB]
  have HB := Lib.hid hB
  have HB0 := Lib.hid ((Below.refl _ w).alloc (Nat.le_refl _) (.cells #[.int .i64 7, .slice ra rs.length rc, .string ⟨nm.toArray⟩, .slice a n c, .int .i64 mn, .int .i64 mx] 25))
  have HS := Lib.hid fun W (hb : Below w.heap.size w W) => sorted_any rs (.slice ra rs.length rc) W (hr.later hb)
  have HC : Hid (∀ W, Below (w.heap.size + 1) (w.alloc (.cells #[.int .i64 7, .slice ra rs.length rc, .string ⟨nm.toArray⟩, .slice a n c, .int .i64 mn, .int .i64 mx] 25)) W → ∀ i u, (#[.int .i64 7, .slice ra rs.length rc, .string ⟨nm.toArray⟩, .slice a n c, .int .i64 mn, .int .i64 mx] : Array Value)[i]? = some u → W.cell? ⟨w.heap.size, i, none⟩ = some u) := Lib.hid (fun W hb i u hu => (hb.cell (p := ⟨w.heap.size, i, none⟩) (Nat.lt_succ_self _)).trans (by simp [go_sem]; simpa using hu))
  have HSH := Lib.hid (shp_7 rs nm n mn mx)
  clear hB hr
  by_cases k0 : n = 0
  · have y1 : ((n : Int) != 0) = false := by rw [bne_eq_false_iff_eq]; omega
    have HBR := Lib.hid (bare_any 7 rs nm n mn mx ra rc a c)
    cases b0 : bareB 7 rs nm mn mx
    · rw [b0] at HBR
      have HX : Hid (1 = B) := Lib.hid (by rw [← HB.out]; unfold shE; rw [HSH.out]; simp [*])
      (try clear kk); (try clear k0); (try clear r0); (try clear b0); (try clear e0); (try clear m0); (try clear m1); (try clear m2); (try clear m3); (try clear m4)
      go_enter Tryz.func56, Tryz.ntmps56
      go_wp2_with fail
      refine (HBR.out _).mono ?_
      rintro e w3 ⟨rfl, hb3⟩
      have HWw3 : Hid (Below (w.heap.size + 1) (w.alloc (.cells #[.int .i64 7, .slice ra rs.length rc, .string ⟨nm.toArray⟩, .slice a n c, .int .i64 mn, .int .i64 mx] 25)) w3) := Lib.hid (by simpa using hb3)
      have HB3 := Lib.hid (HB0.out.trans (hb3.mono HB0.out.size))
      clear hb3
      have kw30 : w3.cell? ⟨w.heap.size, 0, none⟩ = some (.int .i64 7) := HC.out _ HWw3.out 0 _ rfl
      have kw31 : w3.cell? ⟨w.heap.size, 1, none⟩ = some (.slice ra rs.length rc) := HC.out _ HWw3.out 1 _ rfl
      have kw32 : w3.cell? ⟨w.heap.size, 2, none⟩ = some (.string ⟨nm.toArray⟩) := HC.out _ HWw3.out 2 _ rfl
      have kw33 : w3.cell? ⟨w.heap.size, 3, none⟩ = some (.slice a n c) := HC.out _ HWw3.out 3 _ rfl
      have kw34 : w3.cell? ⟨w.heap.size, 4, none⟩ = some (.int .i64 mn) := HC.out _ HWw3.out 4 _ rfl
      have kw35 : w3.cell? ⟨w.heap.size, 5, none⟩ = some (.int .i64 mx) := HC.out _ HWw3.out 5 _ rfl
      go_wp2_with fail
      go_ret
      exact ⟨ret_int (by rw [← HX.out]; rfl), HB3.out⟩
    · rw [b0] at HBR
      have HX : Hid (0 = B) := Lib.hid (by rw [← HB.out]; unfold shE; rw [HSH.out]; simp [*])
      (try clear kk); (try clear k0); (try clear r0); (try clear b0); (try clear e0); (try clear m0); (try clear m1); (try clear m2); (try clear m3); (try clear m4)
      go_enter Tryz.func56, Tryz.ntmps56
      go_wp2_with fail
      refine (HBR.out _).mono ?_
      rintro e w3 ⟨rfl, hb3⟩
      have HWw3 : Hid (Below (w.heap.size + 1) (w.alloc (.cells #[.int .i64 7, .slice ra rs.length rc, .string ⟨nm.toArray⟩, .slice a n c, .int .i64 mn, .int .i64 mx] 25)) w3) := Lib.hid (by simpa using hb3)
      have HB3 := Lib.hid (HB0.out.trans (hb3.mono HB0.out.size))
      clear hb3
      have kw30 : w3.cell? ⟨w.heap.size, 0, none⟩ = some (.int .i64 7) := HC.out _ HWw3.out 0 _ rfl
      have kw31 : w3.cell? ⟨w.heap.size, 1, none⟩ = some (.slice ra rs.length rc) := HC.out _ HWw3.out 1 _ rfl
      have kw32 : w3.cell? ⟨w.heap.size, 2, none⟩ = some (.string ⟨nm.toArray⟩) := HC.out _ HWw3.out 2 _ rfl
      have kw33 : w3.cell? ⟨w.heap.size, 3, none⟩ = some (.slice a n c) := HC.out _ HWw3.out 3 _ rfl
      have kw34 : w3.cell? ⟨w.heap.size, 4, none⟩ = some (.int .i64 mn) := HC.out _ HWw3.out 4 _ rfl
      have kw35 : w3.cell? ⟨w.heap.size, 5, none⟩ = some (.int .i64 mx) := HC.out _ HWw3.out 5 _ rfl
      go_wp2_with fail
      go_ret
      exact ⟨ret_int (by rw [← HX.out]; rfl), HB3.out⟩
  · have y1 : ((n : Int) != 0) = true := by rw [bne_iff_ne]; omega
    have HX : Hid (1 = B) := Lib.hid (by rw [← HB.out]; unfold shE; rw [HSH.out]; simp [*])
    (try clear kk); (try clear k0); (try clear r0); (try clear b0); (try clear e0); (try clear m0); (try clear m1); (try clear m2); (try clear m3); (try clear m4)
    go_enter Tryz.func56, Tryz.ntmps56
    go_wp2_with fail
    go_ret
    exact ⟨ret_int (by rw [← HX.out]; rfl), HB0.out⟩
set_option maxRecDepth 100000 in
set_option maxHeartbeats 4000000 in
theorem rshape_no (op : Int) (rs : List (UInt8 × UInt8)) (nm : List UInt8) (n : Nat) (mn mx : Int) (ra : Option Addr) (rc : Nat) (a : Option Addr) (c : Nat) (w : World) (hop : op ≠ 0 ∧ op ≠ 1 ∧ op ≠ 2 ∧ op ≠ 3 ∧ op ≠ 4 ∧ op ≠ 5 ∧ op ≠ 6 ∧ op ≠ 7) :
    Calls Tryz.prog 56 #[.agg #[.int .i64 op, .slice ra rs.length rc, .string ⟨nm.toArray⟩, .slice a n c, .int .i64 mn, .int .i64 mx]] w fun e w' => e = .returned (.int .i64 (shE op rs nm n mn mx)) ∧ Below w.heap.size w w' := by
  obtain ⟨B, hB⟩ : ∃ B, shE op rs nm n mn mx = B := ⟨_, rfl⟩
  rw [hB]
  have HB := Lib.hid hB
  have HB0 := Lib.hid ((Below.refl _ w).alloc (Nat.le_refl _) (.cells #[.int .i64 op, .slice ra rs.length rc, .string ⟨nm.toArray⟩, .slice a n c, .int .i64 mn, .int .i64 mx] 25))
  have HX : Hid (1 = B) := Lib.hid (by rw [← HB.out]; unfold shE shpB; simp [hop])
  have o0 : (op == 0) = false := by rw [beq_eq_false_iff_ne]; exact hop.1
  have o1 : (op == 1) = false := by rw [beq_eq_false_iff_ne]; exact hop.2.1
  have o2 : (op == 2) = false := by rw [beq_eq_false_iff_ne]; exact hop.2.2.1
  have o3 : (op == 3) = false := by rw [beq_eq_false_iff_ne]; exact hop.2.2.2.1
  have o4 : (op == 4) = false := by rw [beq_eq_false_iff_ne]; exact hop.2.2.2.2.1
  have o5 : (op == 5) = false := by rw [beq_eq_false_iff_ne]; exact hop.2.2.2.2.2.1
  have o6 : (op == 6) = false := by rw [beq_eq_false_iff_ne]; exact hop.2.2.2.2.2.2.1
  have o7 : (op == 7) = false := by rw [beq_eq_false_iff_ne]; exact hop.2.2.2.2.2.2.2
  clear hB hop
  go_enter Tryz.func56, Tryz.ntmps56
  go_wp2_with fail
  go_ret
  exact ⟨ret_int (by rw [← HX.out]; rfl), HB0.out⟩

end Go.Proofs.YtphbkompnddflaaGreatDoor

/-
  The shape of a node, for the reference (Empty, Class, Concat).
-/
import Derived.Test.YtphbkompnddflaaGreatDoorPatG
import Derived.Test.YtphbkompnddflaaGreatDoorPatF
import Derived.BigQuiet
namespace Go.Proofs.YtphbkompnddflaaGreatDoor
open Go.RowKit

noncomputable def badR (mn mx : Int) : Bool := decide (mn < 0 ∨ 40 < mn ∨ (mx ≠ -1 ∧ (mx < mn ∨ 40 < mx)))
/-- The error of a node without its kids. -/
noncomputable def shE (op : Int) (rs : List (UInt8 × UInt8)) (nm : List UInt8) (n : Nat) (mn mx : Int) : Nat :=
  if shpB op rs nm n mn mx = false then 1 else if op = 5 ∧ nmB nm = false then 6 else if op = 4 ∧ badR mn mx = true then 2 else 0
theorem shp_0 (rs : List (UInt8 × UInt8)) (nm : List UInt8) (n : Nat) (mn mx : Int) : shpB 0 rs nm n mn mx = (decide (n = 0) && bareB 0 rs nm mn mx) := by unfold shpB bareB; simp
theorem shp_6 (rs : List (UInt8 × UInt8)) (nm : List UInt8) (n : Nat) (mn mx : Int) : shpB 6 rs nm n mn mx = (decide (n = 0) && bareB 6 rs nm mn mx) := by unfold shpB bareB; simp
theorem shp_7 (rs : List (UInt8 × UInt8)) (nm : List UInt8) (n : Nat) (mn mx : Int) : shpB 7 rs nm n mn mx = (decide (n = 0) && bareB 7 rs nm mn mx) := by unfold shpB bareB; simp
theorem shp_1 (rs : List (UInt8 × UInt8)) (nm : List UInt8) (n : Nat) (mn mx : Int) : shpB 1 rs nm n mn mx = (decide (n = 0) && (srtB rs && bareB 1 rs nm mn mx)) := by unfold shpB bareB; simp
theorem shp_2 (rs : List (UInt8 × UInt8)) (nm : List UInt8) (n : Nat) (mn mx : Int) : shpB 2 rs nm n mn mx = (decide (2 ≤ n) && bareB 2 rs nm mn mx) := by unfold shpB bareB; simp
theorem shp_3 (rs : List (UInt8 × UInt8)) (nm : List UInt8) (n : Nat) (mn mx : Int) : shpB 3 rs nm n mn mx = (decide (2 ≤ n) && bareB 3 rs nm mn mx) := by unfold shpB bareB; simp
theorem shp_4 (rs : List (UInt8 × UInt8)) (nm : List UInt8) (n : Nat) (mn mx : Int) : shpB 4 rs nm n mn mx = (decide (n = 1) && bareB 4 rs nm mn mx) := by unfold shpB bareB; simp
theorem shp_5 (rs : List (UInt8 × UInt8)) (nm : List UInt8) (n : Nat) (mn mx : Int) : shpB 5 rs nm n mn mx = (decide (n = 1) && bareB 5 rs nm mn mx) := by unfold shpB bareB; simp
set_option maxRecDepth 100000 in
set_option maxHeartbeats 4000000 in
theorem rshape_0 (rs : List (UInt8 × UInt8)) (nm : List UInt8) (n : Nat) (mn mx : Int) (ra : Option Addr) (rc : Nat) (a : Option Addr) (c : Nat) (w : World) (hr : RgAt w rs (.slice ra rs.length rc)) (_ : nm.length ≤ 9223372036854775807) :
    Calls Tryz.prog 56 #[.agg #[.int .i64 0, .slice ra rs.length rc, .string ⟨nm.toArray⟩, .slice a n c, .int .i64 mn, .int .i64 mx]] w fun e w' => e = .returned (.int .i64 (shE 0 rs nm n mn mx)) ∧ Below w.heap.size w w' := by
  obtain ⟨B, hB⟩ : ∃ B, shE 0 rs nm n mn mx = B := ⟨_, rfl⟩
  rw [hB]
  have HB := Lib.hid hB
  have HB0 := Lib.hid ((Below.refl _ w).alloc (Nat.le_refl _) (.cells #[.int .i64 0, .slice ra rs.length rc, .string ⟨nm.toArray⟩, .slice a n c, .int .i64 mn, .int .i64 mx] 25))
  have HS := Lib.hid fun W (hb : Below w.heap.size w W) => sorted_any rs (.slice ra rs.length rc) W (hr.later hb)
  have HC : Hid (∀ W, Below (w.heap.size + 1) (w.alloc (.cells #[.int .i64 0, .slice ra rs.length rc, .string ⟨nm.toArray⟩, .slice a n c, .int .i64 mn, .int .i64 mx] 25)) W → ∀ i u, (#[.int .i64 0, .slice ra rs.length rc, .string ⟨nm.toArray⟩, .slice a n c, .int .i64 mn, .int .i64 mx] : Array Value)[i]? = some u → W.cell? ⟨w.heap.size, i, none⟩ = some u) := Lib.hid (fun W hb i u hu => (hb.cell (p := ⟨w.heap.size, i, none⟩) (Nat.lt_succ_self _)).trans (by simp [go_sem]; simpa using hu))
  have HSH := Lib.hid (shp_0 rs nm n mn mx)
  clear hB hr
  by_cases k0 : n = 0
  · have y1 : ((n : Int) != 0) = false := by rw [bne_eq_false_iff_eq]; omega
    have HBR := Lib.hid (bare_any 0 rs nm n mn mx ra rc a c)
    cases b0 : bareB 0 rs nm mn mx
    · rw [b0] at HBR
      have HX : Hid (1 = B) := Lib.hid (by rw [← HB.out]; unfold shE; rw [HSH.out]; simp [*])
      (try clear kk); (try clear k0); (try clear r0); (try clear b0); (try clear e0); (try clear m0); (try clear m1); (try clear m2); (try clear m3); (try clear m4)
      go_enter Tryz.func56, Tryz.ntmps56
      go_wp2_with fail
      refine (HBR.out _).mono ?_
      rintro e w3 ⟨rfl, hb3⟩
      have HWw3 : Hid (Below (w.heap.size + 1) (w.alloc (.cells #[.int .i64 0, .slice ra rs.length rc, .string ⟨nm.toArray⟩, .slice a n c, .int .i64 mn, .int .i64 mx] 25)) w3) := Lib.hid (by simpa using hb3)
      have HB3 := Lib.hid (HB0.out.trans (hb3.mono HB0.out.size))
      clear hb3
      have kw30 : w3.cell? ⟨w.heap.size, 0, none⟩ = some (.int .i64 0) := HC.out _ HWw3.out 0 _ rfl
      have kw31 : w3.cell? ⟨w.heap.size, 1, none⟩ = some (.slice ra rs.length rc) := HC.out _ HWw3.out 1 _ rfl
      have kw32 : w3.cell? ⟨w.heap.size, 2, none⟩ = some (.string ⟨nm.toArray⟩) := HC.out _ HWw3.out 2 _ rfl
      have kw33 : w3.cell? ⟨w.heap.size, 3, none⟩ = some (.slice a n c) := HC.out _ HWw3.out 3 _ rfl
      have kw34 : w3.cell? ⟨w.heap.size, 4, none⟩ = some (.int .i64 mn) := HC.out _ HWw3.out 4 _ rfl
      have kw35 : w3.cell? ⟨w.heap.size, 5, none⟩ = some (.int .i64 mx) := HC.out _ HWw3.out 5 _ rfl
      go_wp2_with fail
      go_ret
      exact ⟨ret_int (by rw [← HX.out]; rfl), HB3.out⟩
    · rw [b0] at HBR
      have HX : Hid (0 = B) := Lib.hid (by rw [← HB.out]; unfold shE; rw [HSH.out]; simp [*])
      (try clear kk); (try clear k0); (try clear r0); (try clear b0); (try clear e0); (try clear m0); (try clear m1); (try clear m2); (try clear m3); (try clear m4)
      go_enter Tryz.func56, Tryz.ntmps56
      go_wp2_with fail
      refine (HBR.out _).mono ?_
      rintro e w3 ⟨rfl, hb3⟩
      have HWw3 : Hid (Below (w.heap.size + 1) (w.alloc (.cells #[.int .i64 0, .slice ra rs.length rc, .string ⟨nm.toArray⟩, .slice a n c, .int .i64 mn, .int .i64 mx] 25)) w3) := Lib.hid (by simpa using hb3)
      have HB3 := Lib.hid (HB0.out.trans (hb3.mono HB0.out.size))
      clear hb3
      have kw30 : w3.cell? ⟨w.heap.size, 0, none⟩ = some (.int .i64 0) := HC.out _ HWw3.out 0 _ rfl
      have kw31 : w3.cell? ⟨w.heap.size, 1, none⟩ = some (.slice ra rs.length rc) := HC.out _ HWw3.out 1 _ rfl
      have kw32 : w3.cell? ⟨w.heap.size, 2, none⟩ = some (.string ⟨nm.toArray⟩) := HC.out _ HWw3.out 2 _ rfl
      have kw33 : w3.cell? ⟨w.heap.size, 3, none⟩ = some (.slice a n c) := HC.out _ HWw3.out 3 _ rfl
      have kw34 : w3.cell? ⟨w.heap.size, 4, none⟩ = some (.int .i64 mn) := HC.out _ HWw3.out 4 _ rfl
      have kw35 : w3.cell? ⟨w.heap.size, 5, none⟩ = some (.int .i64 mx) := HC.out _ HWw3.out 5 _ rfl
      go_wp2_with fail
      go_ret
      exact ⟨ret_int (by rw [← HX.out]; rfl), HB3.out⟩
  · have y1 : ((n : Int) != 0) = true := by rw [bne_iff_ne]; omega
    have HX : Hid (1 = B) := Lib.hid (by rw [← HB.out]; unfold shE; rw [HSH.out]; simp [*])
    (try clear kk); (try clear k0); (try clear r0); (try clear b0); (try clear e0); (try clear m0); (try clear m1); (try clear m2); (try clear m3); (try clear m4)
    go_enter Tryz.func56, Tryz.ntmps56
    go_wp2_with fail
    go_ret
    exact ⟨ret_int (by rw [← HX.out]; rfl), HB0.out⟩
set_option maxRecDepth 100000 in
set_option maxHeartbeats 4000000 in
theorem rshape_1 (rs : List (UInt8 × UInt8)) (nm : List UInt8) (n : Nat) (mn mx : Int) (ra : Option Addr) (rc : Nat) (a : Option Addr) (c : Nat) (w : World) (hr : RgAt w rs (.slice ra rs.length rc)) (_ : nm.length ≤ 9223372036854775807) :
    Calls Tryz.prog 56 #[.agg #[.int .i64 1, .slice ra rs.length rc, .string ⟨nm.toArray⟩, .slice a n c, .int .i64 mn, .int .i64 mx]] w fun e w' => e = .returned (.int .i64 (shE 1 rs nm n mn mx)) ∧ Below w.heap.size w w' := by
  obtain ⟨B, hB⟩ : ∃ B, shE 1 rs nm n mn mx = B := ⟨_, rfl⟩
  rw [hB]
  have HB := Lib.hid hB
  have HB0 := Lib.hid ((Below.refl _ w).alloc (Nat.le_refl _) (.cells #[.int .i64 1, .slice ra rs.length rc, .string ⟨nm.toArray⟩, .slice a n c, .int .i64 mn, .int .i64 mx] 25))
  have HS := Lib.hid fun W (hb : Below w.heap.size w W) => sorted_any rs (.slice ra rs.length rc) W (hr.later hb)
  have HC : Hid (∀ W, Below (w.heap.size + 1) (w.alloc (.cells #[.int .i64 1, .slice ra rs.length rc, .string ⟨nm.toArray⟩, .slice a n c, .int .i64 mn, .int .i64 mx] 25)) W → ∀ i u, (#[.int .i64 1, .slice ra rs.length rc, .string ⟨nm.toArray⟩, .slice a n c, .int .i64 mn, .int .i64 mx] : Array Value)[i]? = some u → W.cell? ⟨w.heap.size, i, none⟩ = some u) := Lib.hid (fun W hb i u hu => (hb.cell (p := ⟨w.heap.size, i, none⟩) (Nat.lt_succ_self _)).trans (by simp [go_sem]; simpa using hu))
  have HSH := Lib.hid (shp_1 rs nm n mn mx)
  clear hB hr
  cases r0 : srtB rs
  · rw [r0] at HS
    have HX : Hid (1 = B) := Lib.hid (by rw [← HB.out]; unfold shE; rw [HSH.out]; simp [*])
    (try clear kk); (try clear k0); (try clear r0); (try clear b0); (try clear e0); (try clear m0); (try clear m1); (try clear m2); (try clear m3); (try clear m4)
    go_enter Tryz.func56, Tryz.ntmps56
    go_wp2_with fail
    refine (HS.out _ HB0.out).mono ?_
    rintro e w2 ⟨rfl, hb2⟩
    have HWw2 : Hid (Below (w.heap.size + 1) (w.alloc (.cells #[.int .i64 1, .slice ra rs.length rc, .string ⟨nm.toArray⟩, .slice a n c, .int .i64 mn, .int .i64 mx] 25)) w2) := Lib.hid (by simpa using hb2)
    have HB2 := Lib.hid (HB0.out.trans (hb2.mono HB0.out.size))
    clear hb2
    have kw20 : w2.cell? ⟨w.heap.size, 0, none⟩ = some (.int .i64 1) := HC.out _ HWw2.out 0 _ rfl
    have kw21 : w2.cell? ⟨w.heap.size, 1, none⟩ = some (.slice ra rs.length rc) := HC.out _ HWw2.out 1 _ rfl
    have kw22 : w2.cell? ⟨w.heap.size, 2, none⟩ = some (.string ⟨nm.toArray⟩) := HC.out _ HWw2.out 2 _ rfl
    have kw23 : w2.cell? ⟨w.heap.size, 3, none⟩ = some (.slice a n c) := HC.out _ HWw2.out 3 _ rfl
    have kw24 : w2.cell? ⟨w.heap.size, 4, none⟩ = some (.int .i64 mn) := HC.out _ HWw2.out 4 _ rfl
    have kw25 : w2.cell? ⟨w.heap.size, 5, none⟩ = some (.int .i64 mx) := HC.out _ HWw2.out 5 _ rfl
    go_wp2_with fail
    go_ret
    exact ⟨ret_int (by rw [← HX.out]; rfl), HB2.out⟩
  · rw [r0] at HS
    by_cases k0 : n = 0
    · have y1 : ((n : Int) != 0) = false := by rw [bne_eq_false_iff_eq]; omega
      have HBR := Lib.hid (bare_any 1 rs nm n mn mx ra rc a c)
      cases b0 : bareB 1 rs nm mn mx
      · rw [b0] at HBR
        have HX : Hid (1 = B) := Lib.hid (by rw [← HB.out]; unfold shE; rw [HSH.out]; simp [*])
        (try clear kk); (try clear k0); (try clear r0); (try clear b0); (try clear e0); (try clear m0); (try clear m1); (try clear m2); (try clear m3); (try clear m4)
        go_enter Tryz.func56, Tryz.ntmps56
        go_wp2_with fail
        refine (HS.out _ HB0.out).mono ?_
        rintro e w2 ⟨rfl, hb2⟩
        have HWw2 : Hid (Below (w.heap.size + 1) (w.alloc (.cells #[.int .i64 1, .slice ra rs.length rc, .string ⟨nm.toArray⟩, .slice a n c, .int .i64 mn, .int .i64 mx] 25)) w2) := Lib.hid (by simpa using hb2)
        have HB2 := Lib.hid (HB0.out.trans (hb2.mono HB0.out.size))
        clear hb2
        have kw20 : w2.cell? ⟨w.heap.size, 0, none⟩ = some (.int .i64 1) := HC.out _ HWw2.out 0 _ rfl
        have kw21 : w2.cell? ⟨w.heap.size, 1, none⟩ = some (.slice ra rs.length rc) := HC.out _ HWw2.out 1 _ rfl
        have kw22 : w2.cell? ⟨w.heap.size, 2, none⟩ = some (.string ⟨nm.toArray⟩) := HC.out _ HWw2.out 2 _ rfl
        have kw23 : w2.cell? ⟨w.heap.size, 3, none⟩ = some (.slice a n c) := HC.out _ HWw2.out 3 _ rfl
        have kw24 : w2.cell? ⟨w.heap.size, 4, none⟩ = some (.int .i64 mn) := HC.out _ HWw2.out 4 _ rfl
        have kw25 : w2.cell? ⟨w.heap.size, 5, none⟩ = some (.int .i64 mx) := HC.out _ HWw2.out 5 _ rfl
        go_wp2_with fail
        refine (HBR.out _).mono ?_
        rintro e w3 ⟨rfl, hb3⟩
        have HWw3 : Hid (Below (w.heap.size + 1) (w.alloc (.cells #[.int .i64 1, .slice ra rs.length rc, .string ⟨nm.toArray⟩, .slice a n c, .int .i64 mn, .int .i64 mx] 25)) w3) := Lib.hid (HWw2.out.trans (hb3.mono (Nat.le_trans (by simp) HWw2.out.size)))
        have HB3 := Lib.hid (HB2.out.trans (hb3.mono HB2.out.size))
        clear hb3
        have kw30 : w3.cell? ⟨w.heap.size, 0, none⟩ = some (.int .i64 1) := HC.out _ HWw3.out 0 _ rfl
        have kw31 : w3.cell? ⟨w.heap.size, 1, none⟩ = some (.slice ra rs.length rc) := HC.out _ HWw3.out 1 _ rfl
        have kw32 : w3.cell? ⟨w.heap.size, 2, none⟩ = some (.string ⟨nm.toArray⟩) := HC.out _ HWw3.out 2 _ rfl
        have kw33 : w3.cell? ⟨w.heap.size, 3, none⟩ = some (.slice a n c) := HC.out _ HWw3.out 3 _ rfl
        have kw34 : w3.cell? ⟨w.heap.size, 4, none⟩ = some (.int .i64 mn) := HC.out _ HWw3.out 4 _ rfl
        have kw35 : w3.cell? ⟨w.heap.size, 5, none⟩ = some (.int .i64 mx) := HC.out _ HWw3.out 5 _ rfl
        go_wp2_with fail
        go_ret
        exact ⟨ret_int (by rw [← HX.out]; rfl), HB3.out⟩
      · rw [b0] at HBR
        have HX : Hid (0 = B) := Lib.hid (by rw [← HB.out]; unfold shE; rw [HSH.out]; simp [*])
        (try clear kk); (try clear k0); (try clear r0); (try clear b0); (try clear e0); (try clear m0); (try clear m1); (try clear m2); (try clear m3); (try clear m4)
        go_enter Tryz.func56, Tryz.ntmps56
        go_wp2_with fail
        refine (HS.out _ HB0.out).mono ?_
        rintro e w2 ⟨rfl, hb2⟩
        have HWw2 : Hid (Below (w.heap.size + 1) (w.alloc (.cells #[.int .i64 1, .slice ra rs.length rc, .string ⟨nm.toArray⟩, .slice a n c, .int .i64 mn, .int .i64 mx] 25)) w2) := Lib.hid (by simpa using hb2)
        have HB2 := Lib.hid (HB0.out.trans (hb2.mono HB0.out.size))
        clear hb2
        have kw20 : w2.cell? ⟨w.heap.size, 0, none⟩ = some (.int .i64 1) := HC.out _ HWw2.out 0 _ rfl
        have kw21 : w2.cell? ⟨w.heap.size, 1, none⟩ = some (.slice ra rs.length rc) := HC.out _ HWw2.out 1 _ rfl
        have kw22 : w2.cell? ⟨w.heap.size, 2, none⟩ = some (.string ⟨nm.toArray⟩) := HC.out _ HWw2.out 2 _ rfl
        have kw23 : w2.cell? ⟨w.heap.size, 3, none⟩ = some (.slice a n c) := HC.out _ HWw2.out 3 _ rfl
        have kw24 : w2.cell? ⟨w.heap.size, 4, none⟩ = some (.int .i64 mn) := HC.out _ HWw2.out 4 _ rfl
        have kw25 : w2.cell? ⟨w.heap.size, 5, none⟩ = some (.int .i64 mx) := HC.out _ HWw2.out 5 _ rfl
        go_wp2_with fail
        refine (HBR.out _).mono ?_
        rintro e w3 ⟨rfl, hb3⟩
        have HWw3 : Hid (Below (w.heap.size + 1) (w.alloc (.cells #[.int .i64 1, .slice ra rs.length rc, .string ⟨nm.toArray⟩, .slice a n c, .int .i64 mn, .int .i64 mx] 25)) w3) := Lib.hid (HWw2.out.trans (hb3.mono (Nat.le_trans (by simp) HWw2.out.size)))
        have HB3 := Lib.hid (HB2.out.trans (hb3.mono HB2.out.size))
        clear hb3
        have kw30 : w3.cell? ⟨w.heap.size, 0, none⟩ = some (.int .i64 1) := HC.out _ HWw3.out 0 _ rfl
        have kw31 : w3.cell? ⟨w.heap.size, 1, none⟩ = some (.slice ra rs.length rc) := HC.out _ HWw3.out 1 _ rfl
        have kw32 : w3.cell? ⟨w.heap.size, 2, none⟩ = some (.string ⟨nm.toArray⟩) := HC.out _ HWw3.out 2 _ rfl
        have kw33 : w3.cell? ⟨w.heap.size, 3, none⟩ = some (.slice a n c) := HC.out _ HWw3.out 3 _ rfl
        have kw34 : w3.cell? ⟨w.heap.size, 4, none⟩ = some (.int .i64 mn) := HC.out _ HWw3.out 4 _ rfl
        have kw35 : w3.cell? ⟨w.heap.size, 5, none⟩ = some (.int .i64 mx) := HC.out _ HWw3.out 5 _ rfl
        go_wp2_with fail
        go_ret
        exact ⟨ret_int (by rw [← HX.out]; rfl), HB3.out⟩
    · have y1 : ((n : Int) != 0) = true := by rw [bne_iff_ne]; omega
      have HX : Hid (1 = B) := Lib.hid (by rw [← HB.out]; unfold shE; rw [HSH.out]; simp [*])
      (try clear kk); (try clear k0); (try clear r0); (try clear b0); (try clear e0); (try clear m0); (try clear m1); (try clear m2); (try clear m3); (try clear m4)
      go_enter Tryz.func56, Tryz.ntmps56
      go_wp2_with fail
      refine (HS.out _ HB0.out).mono ?_
      rintro e w2 ⟨rfl, hb2⟩
      have HWw2 : Hid (Below (w.heap.size + 1) (w.alloc (.cells #[.int .i64 1, .slice ra rs.length rc, .string ⟨nm.toArray⟩, .slice a n c, .int .i64 mn, .int .i64 mx] 25)) w2) := Lib.hid (by simpa using hb2)
      have HB2 := Lib.hid (HB0.out.trans (hb2.mono HB0.out.size))
      clear hb2
      have kw20 : w2.cell? ⟨w.heap.size, 0, none⟩ = some (.int .i64 1) := HC.out _ HWw2.out 0 _ rfl
      have kw21 : w2.cell? ⟨w.heap.size, 1, none⟩ = some (.slice ra rs.length rc) := HC.out _ HWw2.out 1 _ rfl
      have kw22 : w2.cell? ⟨w.heap.size, 2, none⟩ = some (.string ⟨nm.toArray⟩) := HC.out _ HWw2.out 2 _ rfl
      have kw23 : w2.cell? ⟨w.heap.size, 3, none⟩ = some (.slice a n c) := HC.out _ HWw2.out 3 _ rfl
      have kw24 : w2.cell? ⟨w.heap.size, 4, none⟩ = some (.int .i64 mn) := HC.out _ HWw2.out 4 _ rfl
      have kw25 : w2.cell? ⟨w.heap.size, 5, none⟩ = some (.int .i64 mx) := HC.out _ HWw2.out 5 _ rfl
      go_wp2_with fail
      go_ret
      exact ⟨ret_int (by rw [← HX.out]; rfl), HB2.out⟩
set_option maxRecDepth 100000 in
set_option maxHeartbeats 4000000 in
theorem rshape_2 (rs : List (UInt8 × UInt8)) (nm : List UInt8) (n : Nat) (mn mx : Int) (ra : Option Addr) (rc : Nat) (a : Option Addr) (c : Nat) (w : World) (hr : RgAt w rs (.slice ra rs.length rc)) (_ : nm.length ≤ 9223372036854775807) :
    Calls Tryz.prog 56 #[.agg #[.int .i64 2, .slice ra rs.length rc, .string ⟨nm.toArray⟩, .slice a n c, .int .i64 mn, .int .i64 mx]] w fun e w' => e = .returned (.int .i64 (shE 2 rs nm n mn mx)) ∧ Below w.heap.size w w' := by
  obtain ⟨B, hB⟩ : ∃ B, shE 2 rs nm n mn mx = B := ⟨_, rfl⟩
  rw [hB]
  have HB := Lib.hid hB
  have HB0 := Lib.hid ((Below.refl _ w).alloc (Nat.le_refl _) (.cells #[.int .i64 2, .slice ra rs.length rc, .string ⟨nm.toArray⟩, .slice a n c, .int .i64 mn, .int .i64 mx] 25))
  have HS := Lib.hid fun W (hb : Below w.heap.size w W) => sorted_any rs (.slice ra rs.length rc) W (hr.later hb)
  have HC : Hid (∀ W, Below (w.heap.size + 1) (w.alloc (.cells #[.int .i64 2, .slice ra rs.length rc, .string ⟨nm.toArray⟩, .slice a n c, .int .i64 mn, .int .i64 mx] 25)) W → ∀ i u, (#[.int .i64 2, .slice ra rs.length rc, .string ⟨nm.toArray⟩, .slice a n c, .int .i64 mn, .int .i64 mx] : Array Value)[i]? = some u → W.cell? ⟨w.heap.size, i, none⟩ = some u) := Lib.hid (fun W hb i u hu => (hb.cell (p := ⟨w.heap.size, i, none⟩) (Nat.lt_succ_self _)).trans (by simp [go_sem]; simpa using hu))
  have HSH := Lib.hid (shp_2 rs nm n mn mx)
  clear hB hr
  rcases Nat.lt_trichotomy n 2 with k0 | k0 | k0
  · have y1 : (n : Int) < 2 := by omega
    have y2 : ((n : Int) != 2) = true := by rw [bne_iff_ne]; omega
    have kk : ¬ 2 ≤ n := by omega
    have HX : Hid (1 = B) := Lib.hid (by rw [← HB.out]; unfold shE; rw [HSH.out]; simp [*])
    (try clear kk); (try clear k0); (try clear r0); (try clear b0); (try clear e0); (try clear m0); (try clear m1); (try clear m2); (try clear m3); (try clear m4)
    go_enter Tryz.func56, Tryz.ntmps56
    go_wp2_with fail
    go_ret
    exact ⟨ret_int (by rw [← HX.out]; rfl), HB0.out⟩
  · subst k0
    have HBR := Lib.hid (bare_any 2 rs nm 2 mn mx ra rc a c)
    cases b0 : bareB 2 rs nm mn mx
    · rw [b0] at HBR
      have HX : Hid (1 = B) := Lib.hid (by rw [← HB.out]; unfold shE; rw [HSH.out]; simp [*])
      (try clear kk); (try clear k0); (try clear r0); (try clear b0); (try clear e0); (try clear m0); (try clear m1); (try clear m2); (try clear m3); (try clear m4)
      go_enter Tryz.func56, Tryz.ntmps56
      go_wp2_with fail
      refine (HBR.out _).mono ?_
      rintro e w3 ⟨rfl, hb3⟩
      have HWw3 : Hid (Below (w.heap.size + 1) (w.alloc (.cells #[.int .i64 2, .slice ra rs.length rc, .string ⟨nm.toArray⟩, .slice a 2 c, .int .i64 mn, .int .i64 mx] 25)) w3) := Lib.hid (by simpa using hb3)
      have HB3 := Lib.hid (HB0.out.trans (hb3.mono HB0.out.size))
      clear hb3
      have kw30 : w3.cell? ⟨w.heap.size, 0, none⟩ = some (.int .i64 2) := HC.out _ HWw3.out 0 _ rfl
      have kw31 : w3.cell? ⟨w.heap.size, 1, none⟩ = some (.slice ra rs.length rc) := HC.out _ HWw3.out 1 _ rfl
      have kw32 : w3.cell? ⟨w.heap.size, 2, none⟩ = some (.string ⟨nm.toArray⟩) := HC.out _ HWw3.out 2 _ rfl
      have kw33 : w3.cell? ⟨w.heap.size, 3, none⟩ = some (.slice a 2 c) := HC.out _ HWw3.out 3 _ rfl
      have kw34 : w3.cell? ⟨w.heap.size, 4, none⟩ = some (.int .i64 mn) := HC.out _ HWw3.out 4 _ rfl
      have kw35 : w3.cell? ⟨w.heap.size, 5, none⟩ = some (.int .i64 mx) := HC.out _ HWw3.out 5 _ rfl
      go_wp2_with fail
      go_ret
      exact ⟨ret_int (by rw [← HX.out]; rfl), HB3.out⟩
    · rw [b0] at HBR
      have HX : Hid (0 = B) := Lib.hid (by rw [← HB.out]; unfold shE; rw [HSH.out]; simp [*])
      (try clear kk); (try clear k0); (try clear r0); (try clear b0); (try clear e0); (try clear m0); (try clear m1); (try clear m2); (try clear m3); (try clear m4)
      go_enter Tryz.func56, Tryz.ntmps56
      go_wp2_with fail
      refine (HBR.out _).mono ?_
      rintro e w3 ⟨rfl, hb3⟩
      have HWw3 : Hid (Below (w.heap.size + 1) (w.alloc (.cells #[.int .i64 2, .slice ra rs.length rc, .string ⟨nm.toArray⟩, .slice a 2 c, .int .i64 mn, .int .i64 mx] 25)) w3) := Lib.hid (by simpa using hb3)
      have HB3 := Lib.hid (HB0.out.trans (hb3.mono HB0.out.size))
      clear hb3
      have kw30 : w3.cell? ⟨w.heap.size, 0, none⟩ = some (.int .i64 2) := HC.out _ HWw3.out 0 _ rfl
      have kw31 : w3.cell? ⟨w.heap.size, 1, none⟩ = some (.slice ra rs.length rc) := HC.out _ HWw3.out 1 _ rfl
      have kw32 : w3.cell? ⟨w.heap.size, 2, none⟩ = some (.string ⟨nm.toArray⟩) := HC.out _ HWw3.out 2 _ rfl
      have kw33 : w3.cell? ⟨w.heap.size, 3, none⟩ = some (.slice a 2 c) := HC.out _ HWw3.out 3 _ rfl
      have kw34 : w3.cell? ⟨w.heap.size, 4, none⟩ = some (.int .i64 mn) := HC.out _ HWw3.out 4 _ rfl
      have kw35 : w3.cell? ⟨w.heap.size, 5, none⟩ = some (.int .i64 mx) := HC.out _ HWw3.out 5 _ rfl
      go_wp2_with fail
      go_ret
      exact ⟨ret_int (by rw [← HX.out]; rfl), HB3.out⟩
  · have y1 : (2 : Int) < (n : Int) := by omega
    have kk : 2 ≤ n := by omega
    have HBR := Lib.hid (bare_any 2 rs nm n mn mx ra rc a c)
    cases b0 : bareB 2 rs nm mn mx
    · rw [b0] at HBR
      have HX : Hid (1 = B) := Lib.hid (by rw [← HB.out]; unfold shE; rw [HSH.out]; simp [*])
      (try clear kk); (try clear k0); (try clear r0); (try clear b0); (try clear e0); (try clear m0); (try clear m1); (try clear m2); (try clear m3); (try clear m4)
      go_enter Tryz.func56, Tryz.ntmps56
      go_wp2_with fail
      refine (HBR.out _).mono ?_
      rintro e w3 ⟨rfl, hb3⟩
      have HWw3 : Hid (Below (w.heap.size + 1) (w.alloc (.cells #[.int .i64 2, .slice ra rs.length rc, .string ⟨nm.toArray⟩, .slice a n c, .int .i64 mn, .int .i64 mx] 25)) w3) := Lib.hid (by simpa using hb3)
      have HB3 := Lib.hid (HB0.out.trans (hb3.mono HB0.out.size))
      clear hb3
      have kw30 : w3.cell? ⟨w.heap.size, 0, none⟩ = some (.int .i64 2) := HC.out _ HWw3.out 0 _ rfl
      have kw31 : w3.cell? ⟨w.heap.size, 1, none⟩ = some (.slice ra rs.length rc) := HC.out _ HWw3.out 1 _ rfl
      have kw32 : w3.cell? ⟨w.heap.size, 2, none⟩ = some (.string ⟨nm.toArray⟩) := HC.out _ HWw3.out 2 _ rfl
      have kw33 : w3.cell? ⟨w.heap.size, 3, none⟩ = some (.slice a n c) := HC.out _ HWw3.out 3 _ rfl
      have kw34 : w3.cell? ⟨w.heap.size, 4, none⟩ = some (.int .i64 mn) := HC.out _ HWw3.out 4 _ rfl
      have kw35 : w3.cell? ⟨w.heap.size, 5, none⟩ = some (.int .i64 mx) := HC.out _ HWw3.out 5 _ rfl
      go_wp2_with fail
      go_ret
      exact ⟨ret_int (by rw [← HX.out]; rfl), HB3.out⟩
    · rw [b0] at HBR
      have HX : Hid (0 = B) := Lib.hid (by rw [← HB.out]; unfold shE; rw [HSH.out]; simp [*])
      (try clear kk); (try clear k0); (try clear r0); (try clear b0); (try clear e0); (try clear m0); (try clear m1); (try clear m2); (try clear m3); (try clear m4)
      go_enter Tryz.func56, Tryz.ntmps56
      go_wp2_with fail
      refine (HBR.out _).mono ?_
      rintro e w3 ⟨rfl, hb3⟩
      have HWw3 : Hid (Below (w.heap.size + 1) (w.alloc (.cells #[.int .i64 2, .slice ra rs.length rc, .string ⟨nm.toArray⟩, .slice a n c, .int .i64 mn, .int .i64 mx] 25)) w3) := Lib.hid (by simpa using hb3)
      have HB3 := Lib.hid (HB0.out.trans (hb3.mono HB0.out.size))
      clear hb3
      have kw30 : w3.cell? ⟨w.heap.size, 0, none⟩ = some (.int .i64 2) := HC.out _ HWw3.out 0 _ rfl
      have kw31 : w3.cell? ⟨w.heap.size, 1, none⟩ = some (.slice ra rs.length rc) := HC.out _ HWw3.out 1 _ rfl
      have kw32 : w3.cell? ⟨w.heap.size, 2, none⟩ = some (.string ⟨nm.toArray⟩) := HC.out _ HWw3.out 2 _ rfl
      have kw33 : w3.cell? ⟨w.heap.size, 3, none⟩ = some (.slice a n c) := HC.out _ HWw3.out 3 _ rfl
      have kw34 : w3.cell? ⟨w.heap.size, 4, none⟩ = some (.int .i64 mn) := HC.out _ HWw3.out 4 _ rfl
      have kw35 : w3.cell? ⟨w.heap.size, 5, none⟩ = some (.int .i64 mx) := HC.out _ HWw3.out 5 _ rfl
      go_wp2_with fail
      go_ret
      exact ⟨ret_int (by rw [← HX.out]; rfl), HB3.out⟩

end Go.Proofs.YtphbkompnddflaaGreatDoor

/-
 Joined: PatH, PatHa, PatHb, PatI, PatJ, PatK.
-/
import Derived.Test.YtihdnlpelfgklaaDoorMcC
import Derived.BigQuiet
import Derived.Deep.AppendLies
import Derived.Deep.RegionLaw
import Derived.Laws.NewBlocks
namespace Go.Proofs.YtihdnlpelfgklaaDoor
open Go.RowKit
noncomputable def badR (mn mx : Int) : Bool := decide (mn < 0 ∨ 40 < mn ∨ (mx ≠ -1 ∧ (mx < mn ∨ 40 < mx)))
noncomputable def shE (op : Int) (rs : List (UInt8 × UInt8)) (nm : List UInt8) (n : Nat) (mn mx : Int) : Nat :=
 if shpB op rs nm n mn mx = false then 1 else if op = 5 ∧ nmB nm = false then 6 else if op = 4 ∧ badR mn mx = true then 2 else 0
theorem shp_0 (rs : List (UInt8 × UInt8)) (nm : List UInt8) (n : Nat) (mn mx : Int) : shpB 0 rs nm n mn mx = (decide (n = 0) && bareB 0 rs nm mn mx) := by unfold shpB bareB; simp
theorem shp_6 (rs : List (UInt8 × UInt8)) (nm : List UInt8) (n : Nat) (mn mx : Int) : shpB 6 rs nm n mn mx = (decide (n = 0) && bareB 6 rs nm mn mx) := by unfold shpB bareB; simp
theorem shp_7 (rs : List (UInt8 × UInt8)) (nm : List UInt8) (n : Nat) (mn mx : Int) : shpB 7 rs nm n mn mx = (decide (n = 0) && bareB 7 rs nm mn mx) := by unfold shpB bareB; simp
theorem shp_1 (rs : List (UInt8 × UInt8)) (nm : List UInt8) (n : Nat) (mn mx : Int) : shpB 1 rs nm n mn mx = (decide (n = 0) && (srtB rs && bareB 1 rs nm mn mx)) := by unfold shpB bareB; simp
theorem shp_2 (rs : List (UInt8 × UInt8)) (nm : List UInt8) (n : Nat) (mn mx : Int) : shpB 2 rs nm n mn mx = (decide (2 ≤ n) && bareB 2 rs nm mn mx) := by unfold shpB bareB; simp
theorem shp_3 (rs : List (UInt8 × UInt8)) (nm : List UInt8) (n : Nat) (mn mx : Int) : shpB 3 rs nm n mn mx = (decide (2 ≤ n) && bareB 3 rs nm mn mx) := by unfold shpB bareB; simp
theorem shp_4 (rs : List (UInt8 × UInt8)) (nm : List UInt8) (n : Nat) (mn mx : Int) : shpB 4 rs nm n mn mx = (decide (n = 1) && bareB 4 rs nm mn mx) := by unfold shpB bareB; simp
theorem shp_5 (rs : List (UInt8 × UInt8)) (nm : List UInt8) (n : Nat) (mn mx : Int) : shpB 5 rs nm n mn mx = (decide (n = 1) && bareB 5 rs nm mn mx) := by unfold shpB bareB; simp
set_option maxRecDepth 100000 in
set_option maxHeartbeats 4000000 in
theorem rshape_0 (rs : List (UInt8 × UInt8)) (nm : List UInt8) (n : Nat) (mn mx : Int) (ra : Option Addr) (rc : Nat) (a : Option Addr) (c : Nat) (w : World) (hr : RgAt w rs (.slice ra rs.length rc)) (_ : nm.length ≤ 9223372036854775807) :
  Calls Tryd.prog 29 #[.agg #[.int .i64 0, .slice ra rs.length rc, .string ⟨nm.toArray⟩, .slice a n c, .int .i64 mn, .int .i64 mx]] w fun e w' => e = .returned (.int .i64 (shE 0 rs nm n mn mx)) ∧ Below w.heap.size w w' := by
 obtain ⟨B, hB⟩ : ∃ B, shE 0 rs nm n mn mx = B := ⟨_, rfl⟩
 rw [hB]
 have HB := Lib.hid hB
 have HB0 := Lib.hid ((Below.refl _ w).alloc (Nat.le_refl _) (.cells #[.int .i64 0, .slice ra rs.length rc, .string ⟨nm.toArray⟩, .slice a n c, .int .i64 mn, .int .i64 mx] 29))
 have HS := Lib.hid fun W (hb : Below w.heap.size w W) => sorted_any rs (.slice ra rs.length rc) W (hr.later hb)
 have HC : Hid (∀ W, Below (w.heap.size + 1) (w.alloc (.cells #[.int .i64 0, .slice ra rs.length rc, .string ⟨nm.toArray⟩, .slice a n c, .int .i64 mn, .int .i64 mx] 29)) W → ∀ i u, (#[.int .i64 0, .slice ra rs.length rc, .string ⟨nm.toArray⟩, .slice a n c, .int .i64 mn, .int .i64 mx] : Array Value)[i]? = some u → W.cell? ⟨w.heap.size, i, none⟩ = some u) := Lib.hid (fun W hb i u hu => (hb.cell (p := ⟨w.heap.size, i, none⟩) (Nat.lt_succ_self _)).trans (by simp [go_sem]; simpa using hu))
 have HSH := Lib.hid (shp_0 rs nm n mn mx)
 clear hB hr
 by_cases k0 : n = 0
 ·have y1 : ((n : Int) != 0) = false := by rw [bne_eq_false_iff_eq]; omega
  have HBR := Lib.hid (bare_any 0 rs nm n mn mx ra rc a c)
  cases b0 : bareB 0 rs nm mn mx
  ·rw [b0] at HBR
   have HX : Hid (1 = B) := Lib.hid (by rw [← HB.out]; unfold shE; rw [HSH.out]; simp [*])
   (try clear kk); (try clear k0); (try clear r0); (try clear b0); (try clear e0); (try clear m0); (try clear m1); (try clear m2); (try clear m3); (try clear m4)
   go_enter Tryd.func29, Tryd.ntmps29
   go_wp2_with fail
   refine (HBR.out _).mono ?_
   rintro e w3 ⟨rfl, hb3⟩
   have HWw3 : Hid (Below (w.heap.size + 1) (w.alloc (.cells #[.int .i64 0, .slice ra rs.length rc, .string ⟨nm.toArray⟩, .slice a n c, .int .i64 mn, .int .i64 mx] 29)) w3) := Lib.hid (by simpa using hb3)
   have HB3 := Lib.hid (HB0.out.trans (hb3.mono HB0.out.size))
   clear hb3
   have kw30 : w3.cell? ⟨w.heap.size, 0, none⟩ = some (.int .i64 0) := HC.out _ HWw3.out 0 _ rfl
   have kw31 : w3.cell? ⟨w.heap.size, 1, none⟩ = some (.slice ra rs.length rc) := HC.out _ HWw3.out 1 _ rfl
   have kw32 : w3.cell? ⟨w.heap.size, 2, none⟩ = some (.string ⟨nm.toArray⟩) := HC.out _ HWw3.out 2 _ rfl
   have kw33 : w3.cell? ⟨w.heap.size, 3, none⟩ = some (.slice a n c) := HC.out _ HWw3.out 3 _ rfl
   have kw34 : w3.cell? ⟨w.heap.size, 4, none⟩ = some (.int .i64 mn) := HC.out _ HWw3.out 4 _ rfl
   have kw35 : w3.cell? ⟨w.heap.size, 5, none⟩ = some (.int .i64 mx) := HC.out _ HWw3.out 5 _ rfl
   go_wp2_with fail
   go_ret
   exact ⟨ret_int (by rw [← HX.out]; rfl), HB3.out⟩
  ·rw [b0] at HBR
   have HX : Hid (0 = B) := Lib.hid (by rw [← HB.out]; unfold shE; rw [HSH.out]; simp [*])
   (try clear kk); (try clear k0); (try clear r0); (try clear b0); (try clear e0); (try clear m0); (try clear m1); (try clear m2); (try clear m3); (try clear m4)
   go_enter Tryd.func29, Tryd.ntmps29
   go_wp2_with fail
   refine (HBR.out _).mono ?_
   rintro e w3 ⟨rfl, hb3⟩
   have HWw3 : Hid (Below (w.heap.size + 1) (w.alloc (.cells #[.int .i64 0, .slice ra rs.length rc, .string ⟨nm.toArray⟩, .slice a n c, .int .i64 mn, .int .i64 mx] 29)) w3) := Lib.hid (by simpa using hb3)
   have HB3 := Lib.hid (HB0.out.trans (hb3.mono HB0.out.size))
   clear hb3
   have kw30 : w3.cell? ⟨w.heap.size, 0, none⟩ = some (.int .i64 0) := HC.out _ HWw3.out 0 _ rfl
   have kw31 : w3.cell? ⟨w.heap.size, 1, none⟩ = some (.slice ra rs.length rc) := HC.out _ HWw3.out 1 _ rfl
   have kw32 : w3.cell? ⟨w.heap.size, 2, none⟩ = some (.string ⟨nm.toArray⟩) := HC.out _ HWw3.out 2 _ rfl
   have kw33 : w3.cell? ⟨w.heap.size, 3, none⟩ = some (.slice a n c) := HC.out _ HWw3.out 3 _ rfl
   have kw34 : w3.cell? ⟨w.heap.size, 4, none⟩ = some (.int .i64 mn) := HC.out _ HWw3.out 4 _ rfl
   have kw35 : w3.cell? ⟨w.heap.size, 5, none⟩ = some (.int .i64 mx) := HC.out _ HWw3.out 5 _ rfl
   go_wp2_with fail
   go_ret
   exact ⟨ret_int (by rw [← HX.out]; rfl), HB3.out⟩
 ·have y1 : ((n : Int) != 0) = true := by rw [bne_iff_ne]; omega
  have HX : Hid (1 = B) := Lib.hid (by rw [← HB.out]; unfold shE; rw [HSH.out]; simp [*])
  (try clear kk); (try clear k0); (try clear r0); (try clear b0); (try clear e0); (try clear m0); (try clear m1); (try clear m2); (try clear m3); (try clear m4)
  go_enter Tryd.func29, Tryd.ntmps29
  go_wp2_with fail
  go_ret
  exact ⟨ret_int (by rw [← HX.out]; rfl), HB0.out⟩
set_option maxRecDepth 100000 in
set_option maxHeartbeats 4000000 in
theorem rshape_1 (rs : List (UInt8 × UInt8)) (nm : List UInt8) (n : Nat) (mn mx : Int) (ra : Option Addr) (rc : Nat) (a : Option Addr) (c : Nat) (w : World) (hr : RgAt w rs (.slice ra rs.length rc)) (_ : nm.length ≤ 9223372036854775807) :
  Calls Tryd.prog 29 #[.agg #[.int .i64 1, .slice ra rs.length rc, .string ⟨nm.toArray⟩, .slice a n c, .int .i64 mn, .int .i64 mx]] w fun e w' => e = .returned (.int .i64 (shE 1 rs nm n mn mx)) ∧ Below w.heap.size w w' := by
 obtain ⟨B, hB⟩ : ∃ B, shE 1 rs nm n mn mx = B := ⟨_, rfl⟩
 rw [hB]
 have HB := Lib.hid hB
 have HB0 := Lib.hid ((Below.refl _ w).alloc (Nat.le_refl _) (.cells #[.int .i64 1, .slice ra rs.length rc, .string ⟨nm.toArray⟩, .slice a n c, .int .i64 mn, .int .i64 mx] 29))
 have HS := Lib.hid fun W (hb : Below w.heap.size w W) => sorted_any rs (.slice ra rs.length rc) W (hr.later hb)
 have HC : Hid (∀ W, Below (w.heap.size + 1) (w.alloc (.cells #[.int .i64 1, .slice ra rs.length rc, .string ⟨nm.toArray⟩, .slice a n c, .int .i64 mn, .int .i64 mx] 29)) W → ∀ i u, (#[.int .i64 1, .slice ra rs.length rc, .string ⟨nm.toArray⟩, .slice a n c, .int .i64 mn, .int .i64 mx] : Array Value)[i]? = some u → W.cell? ⟨w.heap.size, i, none⟩ = some u) := Lib.hid (fun W hb i u hu => (hb.cell (p := ⟨w.heap.size, i, none⟩) (Nat.lt_succ_self _)).trans (by simp [go_sem]; simpa using hu))
 have HSH := Lib.hid (shp_1 rs nm n mn mx)
 clear hB hr
 cases r0 : srtB rs
 ·rw [r0] at HS
  have HX : Hid (1 = B) := Lib.hid (by rw [← HB.out]; unfold shE; rw [HSH.out]; simp [*])
  (try clear kk); (try clear k0); (try clear r0); (try clear b0); (try clear e0); (try clear m0); (try clear m1); (try clear m2); (try clear m3); (try clear m4)
  go_enter Tryd.func29, Tryd.ntmps29
  go_wp2_with fail
  refine (HS.out _ HB0.out).mono ?_
  rintro e w2 ⟨rfl, hb2⟩
  have HWw2 : Hid (Below (w.heap.size + 1) (w.alloc (.cells #[.int .i64 1, .slice ra rs.length rc, .string ⟨nm.toArray⟩, .slice a n c, .int .i64 mn, .int .i64 mx] 29)) w2) := Lib.hid (by simpa using hb2)
  have HB2 := Lib.hid (HB0.out.trans (hb2.mono HB0.out.size))
  clear hb2
  have kw20 : w2.cell? ⟨w.heap.size, 0, none⟩ = some (.int .i64 1) := HC.out _ HWw2.out 0 _ rfl
  have kw21 : w2.cell? ⟨w.heap.size, 1, none⟩ = some (.slice ra rs.length rc) := HC.out _ HWw2.out 1 _ rfl
  have kw22 : w2.cell? ⟨w.heap.size, 2, none⟩ = some (.string ⟨nm.toArray⟩) := HC.out _ HWw2.out 2 _ rfl
  have kw23 : w2.cell? ⟨w.heap.size, 3, none⟩ = some (.slice a n c) := HC.out _ HWw2.out 3 _ rfl
  have kw24 : w2.cell? ⟨w.heap.size, 4, none⟩ = some (.int .i64 mn) := HC.out _ HWw2.out 4 _ rfl
  have kw25 : w2.cell? ⟨w.heap.size, 5, none⟩ = some (.int .i64 mx) := HC.out _ HWw2.out 5 _ rfl
  go_wp2_with fail
  go_ret
  exact ⟨ret_int (by rw [← HX.out]; rfl), HB2.out⟩
 ·rw [r0] at HS
  by_cases k0 : n = 0
  ·have y1 : ((n : Int) != 0) = false := by rw [bne_eq_false_iff_eq]; omega
   have HBR := Lib.hid (bare_any 1 rs nm n mn mx ra rc a c)
   cases b0 : bareB 1 rs nm mn mx
   ·rw [b0] at HBR
    have HX : Hid (1 = B) := Lib.hid (by rw [← HB.out]; unfold shE; rw [HSH.out]; simp [*])
    (try clear kk); (try clear k0); (try clear r0); (try clear b0); (try clear e0); (try clear m0); (try clear m1); (try clear m2); (try clear m3); (try clear m4)
    go_enter Tryd.func29, Tryd.ntmps29
    go_wp2_with fail
    refine (HS.out _ HB0.out).mono ?_
    rintro e w2 ⟨rfl, hb2⟩
    have HWw2 : Hid (Below (w.heap.size + 1) (w.alloc (.cells #[.int .i64 1, .slice ra rs.length rc, .string ⟨nm.toArray⟩, .slice a n c, .int .i64 mn, .int .i64 mx] 29)) w2) := Lib.hid (by simpa using hb2)
    have HB2 := Lib.hid (HB0.out.trans (hb2.mono HB0.out.size))
    clear hb2
    have kw20 : w2.cell? ⟨w.heap.size, 0, none⟩ = some (.int .i64 1) := HC.out _ HWw2.out 0 _ rfl
    have kw21 : w2.cell? ⟨w.heap.size, 1, none⟩ = some (.slice ra rs.length rc) := HC.out _ HWw2.out 1 _ rfl
    have kw22 : w2.cell? ⟨w.heap.size, 2, none⟩ = some (.string ⟨nm.toArray⟩) := HC.out _ HWw2.out 2 _ rfl
    have kw23 : w2.cell? ⟨w.heap.size, 3, none⟩ = some (.slice a n c) := HC.out _ HWw2.out 3 _ rfl
    have kw24 : w2.cell? ⟨w.heap.size, 4, none⟩ = some (.int .i64 mn) := HC.out _ HWw2.out 4 _ rfl
    have kw25 : w2.cell? ⟨w.heap.size, 5, none⟩ = some (.int .i64 mx) := HC.out _ HWw2.out 5 _ rfl
    go_wp2_with fail
    refine (HBR.out _).mono ?_
    rintro e w3 ⟨rfl, hb3⟩
    have HWw3 : Hid (Below (w.heap.size + 1) (w.alloc (.cells #[.int .i64 1, .slice ra rs.length rc, .string ⟨nm.toArray⟩, .slice a n c, .int .i64 mn, .int .i64 mx] 29)) w3) := Lib.hid (HWw2.out.trans (hb3.mono (Nat.le_trans (by simp) HWw2.out.size)))
    have HB3 := Lib.hid (HB2.out.trans (hb3.mono HB2.out.size))
    clear hb3
    have kw30 : w3.cell? ⟨w.heap.size, 0, none⟩ = some (.int .i64 1) := HC.out _ HWw3.out 0 _ rfl
    have kw31 : w3.cell? ⟨w.heap.size, 1, none⟩ = some (.slice ra rs.length rc) := HC.out _ HWw3.out 1 _ rfl
    have kw32 : w3.cell? ⟨w.heap.size, 2, none⟩ = some (.string ⟨nm.toArray⟩) := HC.out _ HWw3.out 2 _ rfl
    have kw33 : w3.cell? ⟨w.heap.size, 3, none⟩ = some (.slice a n c) := HC.out _ HWw3.out 3 _ rfl
    have kw34 : w3.cell? ⟨w.heap.size, 4, none⟩ = some (.int .i64 mn) := HC.out _ HWw3.out 4 _ rfl
    have kw35 : w3.cell? ⟨w.heap.size, 5, none⟩ = some (.int .i64 mx) := HC.out _ HWw3.out 5 _ rfl
    go_wp2_with fail
    go_ret
    exact ⟨ret_int (by rw [← HX.out]; rfl), HB3.out⟩
   ·rw [b0] at HBR
    have HX : Hid (0 = B) := Lib.hid (by rw [← HB.out]; unfold shE; rw [HSH.out]; simp [*])
    (try clear kk); (try clear k0); (try clear r0); (try clear b0); (try clear e0); (try clear m0); (try clear m1); (try clear m2); (try clear m3); (try clear m4)
    go_enter Tryd.func29, Tryd.ntmps29
    go_wp2_with fail
    refine (HS.out _ HB0.out).mono ?_
    rintro e w2 ⟨rfl, hb2⟩
    have HWw2 : Hid (Below (w.heap.size + 1) (w.alloc (.cells #[.int .i64 1, .slice ra rs.length rc, .string ⟨nm.toArray⟩, .slice a n c, .int .i64 mn, .int .i64 mx] 29)) w2) := Lib.hid (by simpa using hb2)
    have HB2 := Lib.hid (HB0.out.trans (hb2.mono HB0.out.size))
    clear hb2
    have kw20 : w2.cell? ⟨w.heap.size, 0, none⟩ = some (.int .i64 1) := HC.out _ HWw2.out 0 _ rfl
    have kw21 : w2.cell? ⟨w.heap.size, 1, none⟩ = some (.slice ra rs.length rc) := HC.out _ HWw2.out 1 _ rfl
    have kw22 : w2.cell? ⟨w.heap.size, 2, none⟩ = some (.string ⟨nm.toArray⟩) := HC.out _ HWw2.out 2 _ rfl
    have kw23 : w2.cell? ⟨w.heap.size, 3, none⟩ = some (.slice a n c) := HC.out _ HWw2.out 3 _ rfl
    have kw24 : w2.cell? ⟨w.heap.size, 4, none⟩ = some (.int .i64 mn) := HC.out _ HWw2.out 4 _ rfl
    have kw25 : w2.cell? ⟨w.heap.size, 5, none⟩ = some (.int .i64 mx) := HC.out _ HWw2.out 5 _ rfl
    go_wp2_with fail
    refine (HBR.out _).mono ?_
    rintro e w3 ⟨rfl, hb3⟩
    have HWw3 : Hid (Below (w.heap.size + 1) (w.alloc (.cells #[.int .i64 1, .slice ra rs.length rc, .string ⟨nm.toArray⟩, .slice a n c, .int .i64 mn, .int .i64 mx] 29)) w3) := Lib.hid (HWw2.out.trans (hb3.mono (Nat.le_trans (by simp) HWw2.out.size)))
    have HB3 := Lib.hid (HB2.out.trans (hb3.mono HB2.out.size))
    clear hb3
    have kw30 : w3.cell? ⟨w.heap.size, 0, none⟩ = some (.int .i64 1) := HC.out _ HWw3.out 0 _ rfl
    have kw31 : w3.cell? ⟨w.heap.size, 1, none⟩ = some (.slice ra rs.length rc) := HC.out _ HWw3.out 1 _ rfl
    have kw32 : w3.cell? ⟨w.heap.size, 2, none⟩ = some (.string ⟨nm.toArray⟩) := HC.out _ HWw3.out 2 _ rfl
    have kw33 : w3.cell? ⟨w.heap.size, 3, none⟩ = some (.slice a n c) := HC.out _ HWw3.out 3 _ rfl
    have kw34 : w3.cell? ⟨w.heap.size, 4, none⟩ = some (.int .i64 mn) := HC.out _ HWw3.out 4 _ rfl
    have kw35 : w3.cell? ⟨w.heap.size, 5, none⟩ = some (.int .i64 mx) := HC.out _ HWw3.out 5 _ rfl
    go_wp2_with fail
    go_ret
    exact ⟨ret_int (by rw [← HX.out]; rfl), HB3.out⟩
  ·have y1 : ((n : Int) != 0) = true := by rw [bne_iff_ne]; omega
   have HX : Hid (1 = B) := Lib.hid (by rw [← HB.out]; unfold shE; rw [HSH.out]; simp [*])
   (try clear kk); (try clear k0); (try clear r0); (try clear b0); (try clear e0); (try clear m0); (try clear m1); (try clear m2); (try clear m3); (try clear m4)
   go_enter Tryd.func29, Tryd.ntmps29
   go_wp2_with fail
   refine (HS.out _ HB0.out).mono ?_
   rintro e w2 ⟨rfl, hb2⟩
   have HWw2 : Hid (Below (w.heap.size + 1) (w.alloc (.cells #[.int .i64 1, .slice ra rs.length rc, .string ⟨nm.toArray⟩, .slice a n c, .int .i64 mn, .int .i64 mx] 29)) w2) := Lib.hid (by simpa using hb2)
   have HB2 := Lib.hid (HB0.out.trans (hb2.mono HB0.out.size))
   clear hb2
   have kw20 : w2.cell? ⟨w.heap.size, 0, none⟩ = some (.int .i64 1) := HC.out _ HWw2.out 0 _ rfl
   have kw21 : w2.cell? ⟨w.heap.size, 1, none⟩ = some (.slice ra rs.length rc) := HC.out _ HWw2.out 1 _ rfl
   have kw22 : w2.cell? ⟨w.heap.size, 2, none⟩ = some (.string ⟨nm.toArray⟩) := HC.out _ HWw2.out 2 _ rfl
   have kw23 : w2.cell? ⟨w.heap.size, 3, none⟩ = some (.slice a n c) := HC.out _ HWw2.out 3 _ rfl
   have kw24 : w2.cell? ⟨w.heap.size, 4, none⟩ = some (.int .i64 mn) := HC.out _ HWw2.out 4 _ rfl
   have kw25 : w2.cell? ⟨w.heap.size, 5, none⟩ = some (.int .i64 mx) := HC.out _ HWw2.out 5 _ rfl
   go_wp2_with fail
   go_ret
   exact ⟨ret_int (by rw [← HX.out]; rfl), HB2.out⟩
set_option maxRecDepth 100000 in
set_option maxHeartbeats 4000000 in
theorem rshape_2 (rs : List (UInt8 × UInt8)) (nm : List UInt8) (n : Nat) (mn mx : Int) (ra : Option Addr) (rc : Nat) (a : Option Addr) (c : Nat) (w : World) (hr : RgAt w rs (.slice ra rs.length rc)) (_ : nm.length ≤ 9223372036854775807) :
  Calls Tryd.prog 29 #[.agg #[.int .i64 2, .slice ra rs.length rc, .string ⟨nm.toArray⟩, .slice a n c, .int .i64 mn, .int .i64 mx]] w fun e w' => e = .returned (.int .i64 (shE 2 rs nm n mn mx)) ∧ Below w.heap.size w w' := by
 obtain ⟨B, hB⟩ : ∃ B, shE 2 rs nm n mn mx = B := ⟨_, rfl⟩
 rw [hB]
 have HB := Lib.hid hB
 have HB0 := Lib.hid ((Below.refl _ w).alloc (Nat.le_refl _) (.cells #[.int .i64 2, .slice ra rs.length rc, .string ⟨nm.toArray⟩, .slice a n c, .int .i64 mn, .int .i64 mx] 29))
 have HS := Lib.hid fun W (hb : Below w.heap.size w W) => sorted_any rs (.slice ra rs.length rc) W (hr.later hb)
 have HC : Hid (∀ W, Below (w.heap.size + 1) (w.alloc (.cells #[.int .i64 2, .slice ra rs.length rc, .string ⟨nm.toArray⟩, .slice a n c, .int .i64 mn, .int .i64 mx] 29)) W → ∀ i u, (#[.int .i64 2, .slice ra rs.length rc, .string ⟨nm.toArray⟩, .slice a n c, .int .i64 mn, .int .i64 mx] : Array Value)[i]? = some u → W.cell? ⟨w.heap.size, i, none⟩ = some u) := Lib.hid (fun W hb i u hu => (hb.cell (p := ⟨w.heap.size, i, none⟩) (Nat.lt_succ_self _)).trans (by simp [go_sem]; simpa using hu))
 have HSH := Lib.hid (shp_2 rs nm n mn mx)
 clear hB hr
 rcases Nat.lt_trichotomy n 2 with k0 | k0 | k0
 ·have y1 : (n : Int) < 2 := by omega
  have y2 : ((n : Int) != 2) = true := by rw [bne_iff_ne]; omega
  have kk : ¬ 2 ≤ n := by omega
  have HX : Hid (1 = B) := Lib.hid (by rw [← HB.out]; unfold shE; rw [HSH.out]; simp [*])
  (try clear kk); (try clear k0); (try clear r0); (try clear b0); (try clear e0); (try clear m0); (try clear m1); (try clear m2); (try clear m3); (try clear m4)
  go_enter Tryd.func29, Tryd.ntmps29
  go_wp2_with fail
  go_ret
  exact ⟨ret_int (by rw [← HX.out]; rfl), HB0.out⟩
 ·subst k0
  have HBR := Lib.hid (bare_any 2 rs nm 2 mn mx ra rc a c)
  cases b0 : bareB 2 rs nm mn mx
  ·rw [b0] at HBR
   have HX : Hid (1 = B) := Lib.hid (by rw [← HB.out]; unfold shE; rw [HSH.out]; simp [*])
   (try clear kk); (try clear k0); (try clear r0); (try clear b0); (try clear e0); (try clear m0); (try clear m1); (try clear m2); (try clear m3); (try clear m4)
   go_enter Tryd.func29, Tryd.ntmps29
   go_wp2_with fail
   refine (HBR.out _).mono ?_
   rintro e w3 ⟨rfl, hb3⟩
   have HWw3 : Hid (Below (w.heap.size + 1) (w.alloc (.cells #[.int .i64 2, .slice ra rs.length rc, .string ⟨nm.toArray⟩, .slice a 2 c, .int .i64 mn, .int .i64 mx] 29)) w3) := Lib.hid (by simpa using hb3)
   have HB3 := Lib.hid (HB0.out.trans (hb3.mono HB0.out.size))
   clear hb3
   have kw30 : w3.cell? ⟨w.heap.size, 0, none⟩ = some (.int .i64 2) := HC.out _ HWw3.out 0 _ rfl
   have kw31 : w3.cell? ⟨w.heap.size, 1, none⟩ = some (.slice ra rs.length rc) := HC.out _ HWw3.out 1 _ rfl
   have kw32 : w3.cell? ⟨w.heap.size, 2, none⟩ = some (.string ⟨nm.toArray⟩) := HC.out _ HWw3.out 2 _ rfl
   have kw33 : w3.cell? ⟨w.heap.size, 3, none⟩ = some (.slice a 2 c) := HC.out _ HWw3.out 3 _ rfl
   have kw34 : w3.cell? ⟨w.heap.size, 4, none⟩ = some (.int .i64 mn) := HC.out _ HWw3.out 4 _ rfl
   have kw35 : w3.cell? ⟨w.heap.size, 5, none⟩ = some (.int .i64 mx) := HC.out _ HWw3.out 5 _ rfl
   go_wp2_with fail
   go_ret
   exact ⟨ret_int (by rw [← HX.out]; rfl), HB3.out⟩
  ·rw [b0] at HBR
   have HX : Hid (0 = B) := Lib.hid (by rw [← HB.out]; unfold shE; rw [HSH.out]; simp [*])
   (try clear kk); (try clear k0); (try clear r0); (try clear b0); (try clear e0); (try clear m0); (try clear m1); (try clear m2); (try clear m3); (try clear m4)
   go_enter Tryd.func29, Tryd.ntmps29
   go_wp2_with fail
   refine (HBR.out _).mono ?_
   rintro e w3 ⟨rfl, hb3⟩
   have HWw3 : Hid (Below (w.heap.size + 1) (w.alloc (.cells #[.int .i64 2, .slice ra rs.length rc, .string ⟨nm.toArray⟩, .slice a 2 c, .int .i64 mn, .int .i64 mx] 29)) w3) := Lib.hid (by simpa using hb3)
   have HB3 := Lib.hid (HB0.out.trans (hb3.mono HB0.out.size))
   clear hb3
   have kw30 : w3.cell? ⟨w.heap.size, 0, none⟩ = some (.int .i64 2) := HC.out _ HWw3.out 0 _ rfl
   have kw31 : w3.cell? ⟨w.heap.size, 1, none⟩ = some (.slice ra rs.length rc) := HC.out _ HWw3.out 1 _ rfl
   have kw32 : w3.cell? ⟨w.heap.size, 2, none⟩ = some (.string ⟨nm.toArray⟩) := HC.out _ HWw3.out 2 _ rfl
   have kw33 : w3.cell? ⟨w.heap.size, 3, none⟩ = some (.slice a 2 c) := HC.out _ HWw3.out 3 _ rfl
   have kw34 : w3.cell? ⟨w.heap.size, 4, none⟩ = some (.int .i64 mn) := HC.out _ HWw3.out 4 _ rfl
   have kw35 : w3.cell? ⟨w.heap.size, 5, none⟩ = some (.int .i64 mx) := HC.out _ HWw3.out 5 _ rfl
   go_wp2_with fail
   go_ret
   exact ⟨ret_int (by rw [← HX.out]; rfl), HB3.out⟩
 ·have y1 : (2 : Int) < (n : Int) := by omega
  have kk : 2 ≤ n := by omega
  have HBR := Lib.hid (bare_any 2 rs nm n mn mx ra rc a c)
  cases b0 : bareB 2 rs nm mn mx
  ·rw [b0] at HBR
   have HX : Hid (1 = B) := Lib.hid (by rw [← HB.out]; unfold shE; rw [HSH.out]; simp [*])
   (try clear kk); (try clear k0); (try clear r0); (try clear b0); (try clear e0); (try clear m0); (try clear m1); (try clear m2); (try clear m3); (try clear m4)
   go_enter Tryd.func29, Tryd.ntmps29
   go_wp2_with fail
   refine (HBR.out _).mono ?_
   rintro e w3 ⟨rfl, hb3⟩
   have HWw3 : Hid (Below (w.heap.size + 1) (w.alloc (.cells #[.int .i64 2, .slice ra rs.length rc, .string ⟨nm.toArray⟩, .slice a n c, .int .i64 mn, .int .i64 mx] 29)) w3) := Lib.hid (by simpa using hb3)
   have HB3 := Lib.hid (HB0.out.trans (hb3.mono HB0.out.size))
   clear hb3
   have kw30 : w3.cell? ⟨w.heap.size, 0, none⟩ = some (.int .i64 2) := HC.out _ HWw3.out 0 _ rfl
   have kw31 : w3.cell? ⟨w.heap.size, 1, none⟩ = some (.slice ra rs.length rc) := HC.out _ HWw3.out 1 _ rfl
   have kw32 : w3.cell? ⟨w.heap.size, 2, none⟩ = some (.string ⟨nm.toArray⟩) := HC.out _ HWw3.out 2 _ rfl
   have kw33 : w3.cell? ⟨w.heap.size, 3, none⟩ = some (.slice a n c) := HC.out _ HWw3.out 3 _ rfl
   have kw34 : w3.cell? ⟨w.heap.size, 4, none⟩ = some (.int .i64 mn) := HC.out _ HWw3.out 4 _ rfl
   have kw35 : w3.cell? ⟨w.heap.size, 5, none⟩ = some (.int .i64 mx) := HC.out _ HWw3.out 5 _ rfl
   go_wp2_with fail
   go_ret
   exact ⟨ret_int (by rw [← HX.out]; rfl), HB3.out⟩
  ·rw [b0] at HBR
   have HX : Hid (0 = B) := Lib.hid (by rw [← HB.out]; unfold shE; rw [HSH.out]; simp [*])
   (try clear kk); (try clear k0); (try clear r0); (try clear b0); (try clear e0); (try clear m0); (try clear m1); (try clear m2); (try clear m3); (try clear m4)
   go_enter Tryd.func29, Tryd.ntmps29
   go_wp2_with fail
   refine (HBR.out _).mono ?_
   rintro e w3 ⟨rfl, hb3⟩
   have HWw3 : Hid (Below (w.heap.size + 1) (w.alloc (.cells #[.int .i64 2, .slice ra rs.length rc, .string ⟨nm.toArray⟩, .slice a n c, .int .i64 mn, .int .i64 mx] 29)) w3) := Lib.hid (by simpa using hb3)
   have HB3 := Lib.hid (HB0.out.trans (hb3.mono HB0.out.size))
   clear hb3
   have kw30 : w3.cell? ⟨w.heap.size, 0, none⟩ = some (.int .i64 2) := HC.out _ HWw3.out 0 _ rfl
   have kw31 : w3.cell? ⟨w.heap.size, 1, none⟩ = some (.slice ra rs.length rc) := HC.out _ HWw3.out 1 _ rfl
   have kw32 : w3.cell? ⟨w.heap.size, 2, none⟩ = some (.string ⟨nm.toArray⟩) := HC.out _ HWw3.out 2 _ rfl
   have kw33 : w3.cell? ⟨w.heap.size, 3, none⟩ = some (.slice a n c) := HC.out _ HWw3.out 3 _ rfl
   have kw34 : w3.cell? ⟨w.heap.size, 4, none⟩ = some (.int .i64 mn) := HC.out _ HWw3.out 4 _ rfl
   have kw35 : w3.cell? ⟨w.heap.size, 5, none⟩ = some (.int .i64 mx) := HC.out _ HWw3.out 5 _ rfl
   go_wp2_with fail
   go_ret
   exact ⟨ret_int (by rw [← HX.out]; rfl), HB3.out⟩
end Go.Proofs.YtihdnlpelfgklaaDoor
namespace Go.Proofs.YtihdnlpelfgklaaDoor
open Go.RowKit
set_option maxRecDepth 100000 in
set_option maxHeartbeats 4000000 in
theorem rshape_3 (rs : List (UInt8 × UInt8)) (nm : List UInt8) (n : Nat) (mn mx : Int) (ra : Option Addr) (rc : Nat) (a : Option Addr) (c : Nat) (w : World) (hr : RgAt w rs (.slice ra rs.length rc)) (_ : nm.length ≤ 9223372036854775807) :
  Calls Tryd.prog 29 #[.agg #[.int .i64 3, .slice ra rs.length rc, .string ⟨nm.toArray⟩, .slice a n c, .int .i64 mn, .int .i64 mx]] w fun e w' => e = .returned (.int .i64 (shE 3 rs nm n mn mx)) ∧ Below w.heap.size w w' := by
 obtain ⟨B, hB⟩ : ∃ B, shE 3 rs nm n mn mx = B := ⟨_, rfl⟩
 rw [hB]
 have HB := Lib.hid hB
 have HB0 := Lib.hid ((Below.refl _ w).alloc (Nat.le_refl _) (.cells #[.int .i64 3, .slice ra rs.length rc, .string ⟨nm.toArray⟩, .slice a n c, .int .i64 mn, .int .i64 mx] 29))
 have HS := Lib.hid fun W (hb : Below w.heap.size w W) => sorted_any rs (.slice ra rs.length rc) W (hr.later hb)
 have HC : Hid (∀ W, Below (w.heap.size + 1) (w.alloc (.cells #[.int .i64 3, .slice ra rs.length rc, .string ⟨nm.toArray⟩, .slice a n c, .int .i64 mn, .int .i64 mx] 29)) W → ∀ i u, (#[.int .i64 3, .slice ra rs.length rc, .string ⟨nm.toArray⟩, .slice a n c, .int .i64 mn, .int .i64 mx] : Array Value)[i]? = some u → W.cell? ⟨w.heap.size, i, none⟩ = some u) := Lib.hid (fun W hb i u hu => (hb.cell (p := ⟨w.heap.size, i, none⟩) (Nat.lt_succ_self _)).trans (by simp [go_sem]; simpa using hu))
 have HSH := Lib.hid (shp_3 rs nm n mn mx)
 clear hB hr
 rcases Nat.lt_trichotomy n 2 with k0 | k0 | k0
 ·have y1 : (n : Int) < 2 := by omega
  have y2 : ((n : Int) != 2) = true := by rw [bne_iff_ne]; omega
  have kk : ¬ 2 ≤ n := by omega
  have HX : Hid (1 = B) := Lib.hid (by rw [← HB.out]; unfold shE; rw [HSH.out]; simp [*])
  (try clear kk); (try clear k0); (try clear r0); (try clear b0); (try clear e0); (try clear m0); (try clear m1); (try clear m2); (try clear m3); (try clear m4)
  go_enter Tryd.func29, Tryd.ntmps29
  go_wp2_with fail
  go_ret
  exact ⟨ret_int (by rw [← HX.out]; rfl), HB0.out⟩
 ·subst k0
  have HBR := Lib.hid (bare_any 3 rs nm 2 mn mx ra rc a c)
  cases b0 : bareB 3 rs nm mn mx
  ·rw [b0] at HBR
   have HX : Hid (1 = B) := Lib.hid (by rw [← HB.out]; unfold shE; rw [HSH.out]; simp [*])
   (try clear kk); (try clear k0); (try clear r0); (try clear b0); (try clear e0); (try clear m0); (try clear m1); (try clear m2); (try clear m3); (try clear m4)
   go_enter Tryd.func29, Tryd.ntmps29
   go_wp2_with fail
   refine (HBR.out _).mono ?_
   rintro e w3 ⟨rfl, hb3⟩
   have HWw3 : Hid (Below (w.heap.size + 1) (w.alloc (.cells #[.int .i64 3, .slice ra rs.length rc, .string ⟨nm.toArray⟩, .slice a 2 c, .int .i64 mn, .int .i64 mx] 29)) w3) := Lib.hid (by simpa using hb3)
   have HB3 := Lib.hid (HB0.out.trans (hb3.mono HB0.out.size))
   clear hb3
   have kw30 : w3.cell? ⟨w.heap.size, 0, none⟩ = some (.int .i64 3) := HC.out _ HWw3.out 0 _ rfl
   have kw31 : w3.cell? ⟨w.heap.size, 1, none⟩ = some (.slice ra rs.length rc) := HC.out _ HWw3.out 1 _ rfl
   have kw32 : w3.cell? ⟨w.heap.size, 2, none⟩ = some (.string ⟨nm.toArray⟩) := HC.out _ HWw3.out 2 _ rfl
   have kw33 : w3.cell? ⟨w.heap.size, 3, none⟩ = some (.slice a 2 c) := HC.out _ HWw3.out 3 _ rfl
   have kw34 : w3.cell? ⟨w.heap.size, 4, none⟩ = some (.int .i64 mn) := HC.out _ HWw3.out 4 _ rfl
   have kw35 : w3.cell? ⟨w.heap.size, 5, none⟩ = some (.int .i64 mx) := HC.out _ HWw3.out 5 _ rfl
   go_wp2_with fail
   go_ret
   exact ⟨ret_int (by rw [← HX.out]; rfl), HB3.out⟩
  ·rw [b0] at HBR
   have HX : Hid (0 = B) := Lib.hid (by rw [← HB.out]; unfold shE; rw [HSH.out]; simp [*])
   (try clear kk); (try clear k0); (try clear r0); (try clear b0); (try clear e0); (try clear m0); (try clear m1); (try clear m2); (try clear m3); (try clear m4)
   go_enter Tryd.func29, Tryd.ntmps29
   go_wp2_with fail
   refine (HBR.out _).mono ?_
   rintro e w3 ⟨rfl, hb3⟩
   have HWw3 : Hid (Below (w.heap.size + 1) (w.alloc (.cells #[.int .i64 3, .slice ra rs.length rc, .string ⟨nm.toArray⟩, .slice a 2 c, .int .i64 mn, .int .i64 mx] 29)) w3) := Lib.hid (by simpa using hb3)
   have HB3 := Lib.hid (HB0.out.trans (hb3.mono HB0.out.size))
   clear hb3
   have kw30 : w3.cell? ⟨w.heap.size, 0, none⟩ = some (.int .i64 3) := HC.out _ HWw3.out 0 _ rfl
   have kw31 : w3.cell? ⟨w.heap.size, 1, none⟩ = some (.slice ra rs.length rc) := HC.out _ HWw3.out 1 _ rfl
   have kw32 : w3.cell? ⟨w.heap.size, 2, none⟩ = some (.string ⟨nm.toArray⟩) := HC.out _ HWw3.out 2 _ rfl
   have kw33 : w3.cell? ⟨w.heap.size, 3, none⟩ = some (.slice a 2 c) := HC.out _ HWw3.out 3 _ rfl
   have kw34 : w3.cell? ⟨w.heap.size, 4, none⟩ = some (.int .i64 mn) := HC.out _ HWw3.out 4 _ rfl
   have kw35 : w3.cell? ⟨w.heap.size, 5, none⟩ = some (.int .i64 mx) := HC.out _ HWw3.out 5 _ rfl
   go_wp2_with fail
   go_ret
   exact ⟨ret_int (by rw [← HX.out]; rfl), HB3.out⟩
 ·have y1 : (2 : Int) < (n : Int) := by omega
  have kk : 2 ≤ n := by omega
  have HBR := Lib.hid (bare_any 3 rs nm n mn mx ra rc a c)
  cases b0 : bareB 3 rs nm mn mx
  ·rw [b0] at HBR
   have HX : Hid (1 = B) := Lib.hid (by rw [← HB.out]; unfold shE; rw [HSH.out]; simp [*])
   (try clear kk); (try clear k0); (try clear r0); (try clear b0); (try clear e0); (try clear m0); (try clear m1); (try clear m2); (try clear m3); (try clear m4)
   go_enter Tryd.func29, Tryd.ntmps29
   go_wp2_with fail
   refine (HBR.out _).mono ?_
   rintro e w3 ⟨rfl, hb3⟩
   have HWw3 : Hid (Below (w.heap.size + 1) (w.alloc (.cells #[.int .i64 3, .slice ra rs.length rc, .string ⟨nm.toArray⟩, .slice a n c, .int .i64 mn, .int .i64 mx] 29)) w3) := Lib.hid (by simpa using hb3)
   have HB3 := Lib.hid (HB0.out.trans (hb3.mono HB0.out.size))
   clear hb3
   have kw30 : w3.cell? ⟨w.heap.size, 0, none⟩ = some (.int .i64 3) := HC.out _ HWw3.out 0 _ rfl
   have kw31 : w3.cell? ⟨w.heap.size, 1, none⟩ = some (.slice ra rs.length rc) := HC.out _ HWw3.out 1 _ rfl
   have kw32 : w3.cell? ⟨w.heap.size, 2, none⟩ = some (.string ⟨nm.toArray⟩) := HC.out _ HWw3.out 2 _ rfl
   have kw33 : w3.cell? ⟨w.heap.size, 3, none⟩ = some (.slice a n c) := HC.out _ HWw3.out 3 _ rfl
   have kw34 : w3.cell? ⟨w.heap.size, 4, none⟩ = some (.int .i64 mn) := HC.out _ HWw3.out 4 _ rfl
   have kw35 : w3.cell? ⟨w.heap.size, 5, none⟩ = some (.int .i64 mx) := HC.out _ HWw3.out 5 _ rfl
   go_wp2_with fail
   go_ret
   exact ⟨ret_int (by rw [← HX.out]; rfl), HB3.out⟩
  ·rw [b0] at HBR
   have HX : Hid (0 = B) := Lib.hid (by rw [← HB.out]; unfold shE; rw [HSH.out]; simp [*])
   (try clear kk); (try clear k0); (try clear r0); (try clear b0); (try clear e0); (try clear m0); (try clear m1); (try clear m2); (try clear m3); (try clear m4)
   go_enter Tryd.func29, Tryd.ntmps29
   go_wp2_with fail
   refine (HBR.out _).mono ?_
   rintro e w3 ⟨rfl, hb3⟩
   have HWw3 : Hid (Below (w.heap.size + 1) (w.alloc (.cells #[.int .i64 3, .slice ra rs.length rc, .string ⟨nm.toArray⟩, .slice a n c, .int .i64 mn, .int .i64 mx] 29)) w3) := Lib.hid (by simpa using hb3)
   have HB3 := Lib.hid (HB0.out.trans (hb3.mono HB0.out.size))
   clear hb3
   have kw30 : w3.cell? ⟨w.heap.size, 0, none⟩ = some (.int .i64 3) := HC.out _ HWw3.out 0 _ rfl
   have kw31 : w3.cell? ⟨w.heap.size, 1, none⟩ = some (.slice ra rs.length rc) := HC.out _ HWw3.out 1 _ rfl
   have kw32 : w3.cell? ⟨w.heap.size, 2, none⟩ = some (.string ⟨nm.toArray⟩) := HC.out _ HWw3.out 2 _ rfl
   have kw33 : w3.cell? ⟨w.heap.size, 3, none⟩ = some (.slice a n c) := HC.out _ HWw3.out 3 _ rfl
   have kw34 : w3.cell? ⟨w.heap.size, 4, none⟩ = some (.int .i64 mn) := HC.out _ HWw3.out 4 _ rfl
   have kw35 : w3.cell? ⟨w.heap.size, 5, none⟩ = some (.int .i64 mx) := HC.out _ HWw3.out 5 _ rfl
   go_wp2_with fail
   go_ret
   exact ⟨ret_int (by rw [← HX.out]; rfl), HB3.out⟩
set_option maxRecDepth 100000 in
set_option maxHeartbeats 4000000 in
theorem rshape_6 (rs : List (UInt8 × UInt8)) (nm : List UInt8) (n : Nat) (mn mx : Int) (ra : Option Addr) (rc : Nat) (a : Option Addr) (c : Nat) (w : World) (hr : RgAt w rs (.slice ra rs.length rc)) (_ : nm.length ≤ 9223372036854775807) :
  Calls Tryd.prog 29 #[.agg #[.int .i64 6, .slice ra rs.length rc, .string ⟨nm.toArray⟩, .slice a n c, .int .i64 mn, .int .i64 mx]] w fun e w' => e = .returned (.int .i64 (shE 6 rs nm n mn mx)) ∧ Below w.heap.size w w' := by
 obtain ⟨B, hB⟩ : ∃ B, shE 6 rs nm n mn mx = B := ⟨_, rfl⟩
 rw [hB]
 have HB := Lib.hid hB
 have HB0 := Lib.hid ((Below.refl _ w).alloc (Nat.le_refl _) (.cells #[.int .i64 6, .slice ra rs.length rc, .string ⟨nm.toArray⟩, .slice a n c, .int .i64 mn, .int .i64 mx] 29))
 have HS := Lib.hid fun W (hb : Below w.heap.size w W) => sorted_any rs (.slice ra rs.length rc) W (hr.later hb)
 have HC : Hid (∀ W, Below (w.heap.size + 1) (w.alloc (.cells #[.int .i64 6, .slice ra rs.length rc, .string ⟨nm.toArray⟩, .slice a n c, .int .i64 mn, .int .i64 mx] 29)) W → ∀ i u, (#[.int .i64 6, .slice ra rs.length rc, .string ⟨nm.toArray⟩, .slice a n c, .int .i64 mn, .int .i64 mx] : Array Value)[i]? = some u → W.cell? ⟨w.heap.size, i, none⟩ = some u) := Lib.hid (fun W hb i u hu => (hb.cell (p := ⟨w.heap.size, i, none⟩) (Nat.lt_succ_self _)).trans (by simp [go_sem]; simpa using hu))
 have HSH := Lib.hid (shp_6 rs nm n mn mx)
 clear hB hr
 by_cases k0 : n = 0
 ·have y1 : ((n : Int) != 0) = false := by rw [bne_eq_false_iff_eq]; omega
  have HBR := Lib.hid (bare_any 6 rs nm n mn mx ra rc a c)
  cases b0 : bareB 6 rs nm mn mx
  ·rw [b0] at HBR
   have HX : Hid (1 = B) := Lib.hid (by rw [← HB.out]; unfold shE; rw [HSH.out]; simp [*])
   (try clear kk); (try clear k0); (try clear r0); (try clear b0); (try clear e0); (try clear m0); (try clear m1); (try clear m2); (try clear m3); (try clear m4)
   go_enter Tryd.func29, Tryd.ntmps29
   go_wp2_with fail
   refine (HBR.out _).mono ?_
   rintro e w3 ⟨rfl, hb3⟩
   have HWw3 : Hid (Below (w.heap.size + 1) (w.alloc (.cells #[.int .i64 6, .slice ra rs.length rc, .string ⟨nm.toArray⟩, .slice a n c, .int .i64 mn, .int .i64 mx] 29)) w3) := Lib.hid (by simpa using hb3)
   have HB3 := Lib.hid (HB0.out.trans (hb3.mono HB0.out.size))
   clear hb3
   have kw30 : w3.cell? ⟨w.heap.size, 0, none⟩ = some (.int .i64 6) := HC.out _ HWw3.out 0 _ rfl
   have kw31 : w3.cell? ⟨w.heap.size, 1, none⟩ = some (.slice ra rs.length rc) := HC.out _ HWw3.out 1 _ rfl
   have kw32 : w3.cell? ⟨w.heap.size, 2, none⟩ = some (.string ⟨nm.toArray⟩) := HC.out _ HWw3.out 2 _ rfl
   have kw33 : w3.cell? ⟨w.heap.size, 3, none⟩ = some (.slice a n c) := HC.out _ HWw3.out 3 _ rfl
   have kw34 : w3.cell? ⟨w.heap.size, 4, none⟩ = some (.int .i64 mn) := HC.out _ HWw3.out 4 _ rfl
   have kw35 : w3.cell? ⟨w.heap.size, 5, none⟩ = some (.int .i64 mx) := HC.out _ HWw3.out 5 _ rfl
   go_wp2_with fail
   go_ret
   exact ⟨ret_int (by rw [← HX.out]; rfl), HB3.out⟩
  ·rw [b0] at HBR
   have HX : Hid (0 = B) := Lib.hid (by rw [← HB.out]; unfold shE; rw [HSH.out]; simp [*])
   (try clear kk); (try clear k0); (try clear r0); (try clear b0); (try clear e0); (try clear m0); (try clear m1); (try clear m2); (try clear m3); (try clear m4)
   go_enter Tryd.func29, Tryd.ntmps29
   go_wp2_with fail
   refine (HBR.out _).mono ?_
   rintro e w3 ⟨rfl, hb3⟩
   have HWw3 : Hid (Below (w.heap.size + 1) (w.alloc (.cells #[.int .i64 6, .slice ra rs.length rc, .string ⟨nm.toArray⟩, .slice a n c, .int .i64 mn, .int .i64 mx] 29)) w3) := Lib.hid (by simpa using hb3)
   have HB3 := Lib.hid (HB0.out.trans (hb3.mono HB0.out.size))
   clear hb3
   have kw30 : w3.cell? ⟨w.heap.size, 0, none⟩ = some (.int .i64 6) := HC.out _ HWw3.out 0 _ rfl
   have kw31 : w3.cell? ⟨w.heap.size, 1, none⟩ = some (.slice ra rs.length rc) := HC.out _ HWw3.out 1 _ rfl
   have kw32 : w3.cell? ⟨w.heap.size, 2, none⟩ = some (.string ⟨nm.toArray⟩) := HC.out _ HWw3.out 2 _ rfl
   have kw33 : w3.cell? ⟨w.heap.size, 3, none⟩ = some (.slice a n c) := HC.out _ HWw3.out 3 _ rfl
   have kw34 : w3.cell? ⟨w.heap.size, 4, none⟩ = some (.int .i64 mn) := HC.out _ HWw3.out 4 _ rfl
   have kw35 : w3.cell? ⟨w.heap.size, 5, none⟩ = some (.int .i64 mx) := HC.out _ HWw3.out 5 _ rfl
   go_wp2_with fail
   go_ret
   exact ⟨ret_int (by rw [← HX.out]; rfl), HB3.out⟩
 ·have y1 : ((n : Int) != 0) = true := by rw [bne_iff_ne]; omega
  have HX : Hid (1 = B) := Lib.hid (by rw [← HB.out]; unfold shE; rw [HSH.out]; simp [*])
  (try clear kk); (try clear k0); (try clear r0); (try clear b0); (try clear e0); (try clear m0); (try clear m1); (try clear m2); (try clear m3); (try clear m4)
  go_enter Tryd.func29, Tryd.ntmps29
  go_wp2_with fail
  go_ret
  exact ⟨ret_int (by rw [← HX.out]; rfl), HB0.out⟩
set_option maxRecDepth 100000 in
set_option maxHeartbeats 4000000 in
theorem rshape_7 (rs : List (UInt8 × UInt8)) (nm : List UInt8) (n : Nat) (mn mx : Int) (ra : Option Addr) (rc : Nat) (a : Option Addr) (c : Nat) (w : World) (hr : RgAt w rs (.slice ra rs.length rc)) (_ : nm.length ≤ 9223372036854775807) :
  Calls Tryd.prog 29 #[.agg #[.int .i64 7, .slice ra rs.length rc, .string ⟨nm.toArray⟩, .slice a n c, .int .i64 mn, .int .i64 mx]] w fun e w' => e = .returned (.int .i64 (shE 7 rs nm n mn mx)) ∧ Below w.heap.size w w' := by
 obtain ⟨B, hB⟩ : ∃ B, shE 7 rs nm n mn mx = B := ⟨_, rfl⟩
 rw [hB]
 have HB := Lib.hid hB
 have HB0 := Lib.hid ((Below.refl _ w).alloc (Nat.le_refl _) (.cells #[.int .i64 7, .slice ra rs.length rc, .string ⟨nm.toArray⟩, .slice a n c, .int .i64 mn, .int .i64 mx] 29))
 have HS := Lib.hid fun W (hb : Below w.heap.size w W) => sorted_any rs (.slice ra rs.length rc) W (hr.later hb)
 have HC : Hid (∀ W, Below (w.heap.size + 1) (w.alloc (.cells #[.int .i64 7, .slice ra rs.length rc, .string ⟨nm.toArray⟩, .slice a n c, .int .i64 mn, .int .i64 mx] 29)) W → ∀ i u, (#[.int .i64 7, .slice ra rs.length rc, .string ⟨nm.toArray⟩, .slice a n c, .int .i64 mn, .int .i64 mx] : Array Value)[i]? = some u → W.cell? ⟨w.heap.size, i, none⟩ = some u) := Lib.hid (fun W hb i u hu => (hb.cell (p := ⟨w.heap.size, i, none⟩) (Nat.lt_succ_self _)).trans (by simp [go_sem]; simpa using hu))
 have HSH := Lib.hid (shp_7 rs nm n mn mx)
 clear hB hr
 by_cases k0 : n = 0
 ·have y1 : ((n : Int) != 0) = false := by rw [bne_eq_false_iff_eq]; omega
  have HBR := Lib.hid (bare_any 7 rs nm n mn mx ra rc a c)
  cases b0 : bareB 7 rs nm mn mx
  ·rw [b0] at HBR
   have HX : Hid (1 = B) := Lib.hid (by rw [← HB.out]; unfold shE; rw [HSH.out]; simp [*])
   (try clear kk); (try clear k0); (try clear r0); (try clear b0); (try clear e0); (try clear m0); (try clear m1); (try clear m2); (try clear m3); (try clear m4)
   go_enter Tryd.func29, Tryd.ntmps29
   go_wp2_with fail
   refine (HBR.out _).mono ?_
   rintro e w3 ⟨rfl, hb3⟩
   have HWw3 : Hid (Below (w.heap.size + 1) (w.alloc (.cells #[.int .i64 7, .slice ra rs.length rc, .string ⟨nm.toArray⟩, .slice a n c, .int .i64 mn, .int .i64 mx] 29)) w3) := Lib.hid (by simpa using hb3)
   have HB3 := Lib.hid (HB0.out.trans (hb3.mono HB0.out.size))
   clear hb3
   have kw30 : w3.cell? ⟨w.heap.size, 0, none⟩ = some (.int .i64 7) := HC.out _ HWw3.out 0 _ rfl
   have kw31 : w3.cell? ⟨w.heap.size, 1, none⟩ = some (.slice ra rs.length rc) := HC.out _ HWw3.out 1 _ rfl
   have kw32 : w3.cell? ⟨w.heap.size, 2, none⟩ = some (.string ⟨nm.toArray⟩) := HC.out _ HWw3.out 2 _ rfl
   have kw33 : w3.cell? ⟨w.heap.size, 3, none⟩ = some (.slice a n c) := HC.out _ HWw3.out 3 _ rfl
   have kw34 : w3.cell? ⟨w.heap.size, 4, none⟩ = some (.int .i64 mn) := HC.out _ HWw3.out 4 _ rfl
   have kw35 : w3.cell? ⟨w.heap.size, 5, none⟩ = some (.int .i64 mx) := HC.out _ HWw3.out 5 _ rfl
   go_wp2_with fail
   go_ret
   exact ⟨ret_int (by rw [← HX.out]; rfl), HB3.out⟩
  ·rw [b0] at HBR
   have HX : Hid (0 = B) := Lib.hid (by rw [← HB.out]; unfold shE; rw [HSH.out]; simp [*])
   (try clear kk); (try clear k0); (try clear r0); (try clear b0); (try clear e0); (try clear m0); (try clear m1); (try clear m2); (try clear m3); (try clear m4)
   go_enter Tryd.func29, Tryd.ntmps29
   go_wp2_with fail
   refine (HBR.out _).mono ?_
   rintro e w3 ⟨rfl, hb3⟩
   have HWw3 : Hid (Below (w.heap.size + 1) (w.alloc (.cells #[.int .i64 7, .slice ra rs.length rc, .string ⟨nm.toArray⟩, .slice a n c, .int .i64 mn, .int .i64 mx] 29)) w3) := Lib.hid (by simpa using hb3)
   have HB3 := Lib.hid (HB0.out.trans (hb3.mono HB0.out.size))
   clear hb3
   have kw30 : w3.cell? ⟨w.heap.size, 0, none⟩ = some (.int .i64 7) := HC.out _ HWw3.out 0 _ rfl
   have kw31 : w3.cell? ⟨w.heap.size, 1, none⟩ = some (.slice ra rs.length rc) := HC.out _ HWw3.out 1 _ rfl
   have kw32 : w3.cell? ⟨w.heap.size, 2, none⟩ = some (.string ⟨nm.toArray⟩) := HC.out _ HWw3.out 2 _ rfl
   have kw33 : w3.cell? ⟨w.heap.size, 3, none⟩ = some (.slice a n c) := HC.out _ HWw3.out 3 _ rfl
   have kw34 : w3.cell? ⟨w.heap.size, 4, none⟩ = some (.int .i64 mn) := HC.out _ HWw3.out 4 _ rfl
   have kw35 : w3.cell? ⟨w.heap.size, 5, none⟩ = some (.int .i64 mx) := HC.out _ HWw3.out 5 _ rfl
   go_wp2_with fail
   go_ret
   exact ⟨ret_int (by rw [← HX.out]; rfl), HB3.out⟩
 ·have y1 : ((n : Int) != 0) = true := by rw [bne_iff_ne]; omega
  have HX : Hid (1 = B) := Lib.hid (by rw [← HB.out]; unfold shE; rw [HSH.out]; simp [*])
  (try clear kk); (try clear k0); (try clear r0); (try clear b0); (try clear e0); (try clear m0); (try clear m1); (try clear m2); (try clear m3); (try clear m4)
  go_enter Tryd.func29, Tryd.ntmps29
  go_wp2_with fail
  go_ret
  exact ⟨ret_int (by rw [← HX.out]; rfl), HB0.out⟩
set_option maxRecDepth 100000 in
set_option maxHeartbeats 4000000 in
theorem rshape_no (op : Int) (rs : List (UInt8 × UInt8)) (nm : List UInt8) (n : Nat) (mn mx : Int) (ra : Option Addr) (rc : Nat) (a : Option Addr) (c : Nat) (w : World) (hop : op ≠ 0 ∧ op ≠ 1 ∧ op ≠ 2 ∧ op ≠ 3 ∧ op ≠ 4 ∧ op ≠ 5 ∧ op ≠ 6 ∧ op ≠ 7) :
  Calls Tryd.prog 29 #[.agg #[.int .i64 op, .slice ra rs.length rc, .string ⟨nm.toArray⟩, .slice a n c, .int .i64 mn, .int .i64 mx]] w fun e w' => e = .returned (.int .i64 (shE op rs nm n mn mx)) ∧ Below w.heap.size w w' := by
 obtain ⟨B, hB⟩ : ∃ B, shE op rs nm n mn mx = B := ⟨_, rfl⟩
 rw [hB]
 have HB := Lib.hid hB
 have HB0 := Lib.hid ((Below.refl _ w).alloc (Nat.le_refl _) (.cells #[.int .i64 op, .slice ra rs.length rc, .string ⟨nm.toArray⟩, .slice a n c, .int .i64 mn, .int .i64 mx] 29))
 have HX : Hid (1 = B) := Lib.hid (by rw [← HB.out]; unfold shE shpB; simp [hop])
 have o0 : (op == 0) = false := by rw [beq_eq_false_iff_ne]; exact hop.1
 have o1 : (op == 1) = false := by rw [beq_eq_false_iff_ne]; exact hop.2.1
 have o2 : (op == 2) = false := by rw [beq_eq_false_iff_ne]; exact hop.2.2.1
 have o3 : (op == 3) = false := by rw [beq_eq_false_iff_ne]; exact hop.2.2.2.1
 have o4 : (op == 4) = false := by rw [beq_eq_false_iff_ne]; exact hop.2.2.2.2.1
 have o5 : (op == 5) = false := by rw [beq_eq_false_iff_ne]; exact hop.2.2.2.2.2.1
 have o6 : (op == 6) = false := by rw [beq_eq_false_iff_ne]; exact hop.2.2.2.2.2.2.1
 have o7 : (op == 7) = false := by rw [beq_eq_false_iff_ne]; exact hop.2.2.2.2.2.2.2
 clear hB hop
 go_enter Tryd.func29, Tryd.ntmps29
 go_wp2_with fail
 go_ret
 exact ⟨ret_int (by rw [← HX.out]; rfl), HB0.out⟩
end Go.Proofs.YtihdnlpelfgklaaDoor
namespace Go.Proofs.YtihdnlpelfgklaaDoor
open Go.RowKit
set_option maxRecDepth 100000 in
set_option maxHeartbeats 4000000 in
theorem rshape_4 (rs : List (UInt8 × UInt8)) (nm : List UInt8) (n : Nat) (mn mx : Int) (ra : Option Addr) (rc : Nat) (a : Option Addr) (c : Nat) (w : World) (hr : RgAt w rs (.slice ra rs.length rc)) (_ : nm.length ≤ 9223372036854775807) :
  Calls Tryd.prog 29 #[.agg #[.int .i64 4, .slice ra rs.length rc, .string ⟨nm.toArray⟩, .slice a n c, .int .i64 mn, .int .i64 mx]] w fun e w' => e = .returned (.int .i64 (shE 4 rs nm n mn mx)) ∧ Below w.heap.size w w' := by
 obtain ⟨B, hB⟩ : ∃ B, shE 4 rs nm n mn mx = B := ⟨_, rfl⟩
 rw [hB]
 have HB := Lib.hid hB
 have HB0 := Lib.hid ((Below.refl _ w).alloc (Nat.le_refl _) (.cells #[.int .i64 4, .slice ra rs.length rc, .string ⟨nm.toArray⟩, .slice a n c, .int .i64 mn, .int .i64 mx] 29))
 have HS := Lib.hid fun W (hb : Below w.heap.size w W) => sorted_any rs (.slice ra rs.length rc) W (hr.later hb)
 have HC : Hid (∀ W, Below (w.heap.size + 1) (w.alloc (.cells #[.int .i64 4, .slice ra rs.length rc, .string ⟨nm.toArray⟩, .slice a n c, .int .i64 mn, .int .i64 mx] 29)) W → ∀ i u, (#[.int .i64 4, .slice ra rs.length rc, .string ⟨nm.toArray⟩, .slice a n c, .int .i64 mn, .int .i64 mx] : Array Value)[i]? = some u → W.cell? ⟨w.heap.size, i, none⟩ = some u) := Lib.hid (fun W hb i u hu => (hb.cell (p := ⟨w.heap.size, i, none⟩) (Nat.lt_succ_self _)).trans (by simp [go_sem]; simpa using hu))
 have HSH := Lib.hid (shp_4 rs nm n mn mx)
 clear hB hr
 by_cases k0 : n = 1
 ·have y1 : ((n : Int) != 1) = false := by rw [bne_eq_false_iff_eq]; omega
  have HBR := Lib.hid (bare_any 4 rs nm n mn mx ra rc a c)
  cases b0 : bareB 4 rs nm mn mx
  ·rw [b0] at HBR
   have HX : Hid (1 = B) := Lib.hid (by rw [← HB.out]; unfold shE; rw [HSH.out]; simp [*])
   (try clear kk); (try clear k0); (try clear r0); (try clear b0); (try clear e0); (try clear m0); (try clear m1); (try clear m2); (try clear m3); (try clear m4)
   go_enter Tryd.func29, Tryd.ntmps29
   go_wp2_with fail
   refine (HBR.out _).mono ?_
   rintro e w3 ⟨rfl, hb3⟩
   have HWw3 : Hid (Below (w.heap.size + 1) (w.alloc (.cells #[.int .i64 4, .slice ra rs.length rc, .string ⟨nm.toArray⟩, .slice a n c, .int .i64 mn, .int .i64 mx] 29)) w3) := Lib.hid (by simpa using hb3)
   have HB3 := Lib.hid (HB0.out.trans (hb3.mono HB0.out.size))
   clear hb3
   have kw30 : w3.cell? ⟨w.heap.size, 0, none⟩ = some (.int .i64 4) := HC.out _ HWw3.out 0 _ rfl
   have kw31 : w3.cell? ⟨w.heap.size, 1, none⟩ = some (.slice ra rs.length rc) := HC.out _ HWw3.out 1 _ rfl
   have kw32 : w3.cell? ⟨w.heap.size, 2, none⟩ = some (.string ⟨nm.toArray⟩) := HC.out _ HWw3.out 2 _ rfl
   have kw33 : w3.cell? ⟨w.heap.size, 3, none⟩ = some (.slice a n c) := HC.out _ HWw3.out 3 _ rfl
   have kw34 : w3.cell? ⟨w.heap.size, 4, none⟩ = some (.int .i64 mn) := HC.out _ HWw3.out 4 _ rfl
   have kw35 : w3.cell? ⟨w.heap.size, 5, none⟩ = some (.int .i64 mx) := HC.out _ HWw3.out 5 _ rfl
   go_wp2_with fail
   go_ret
   exact ⟨ret_int (by rw [← HX.out]; rfl), HB3.out⟩
  ·rw [b0] at HBR
   by_cases m0 : mn < 0
   ·have z0 : decide (mn < 0) = true := decide_eq_true m0
    have hbad : badR mn mx = true := by unfold badR; simp; omega
    have HX : Hid (2 = B) := Lib.hid (by rw [← HB.out]; unfold shE; rw [HSH.out, hbad]; simp [k0, b0])
    clear hbad
    (try clear kk); (try clear k0); (try clear r0); (try clear b0); (try clear e0); (try clear m0); (try clear m1); (try clear m2); (try clear m3); (try clear m4)
    go_enter Tryd.func29, Tryd.ntmps29
    go_wp2_with fail
    refine (HBR.out _).mono ?_
    rintro e w3 ⟨rfl, hb3⟩
    have HWw3 : Hid (Below (w.heap.size + 1) (w.alloc (.cells #[.int .i64 4, .slice ra rs.length rc, .string ⟨nm.toArray⟩, .slice a n c, .int .i64 mn, .int .i64 mx] 29)) w3) := Lib.hid (by simpa using hb3)
    have HB3 := Lib.hid (HB0.out.trans (hb3.mono HB0.out.size))
    clear hb3
    have kw30 : w3.cell? ⟨w.heap.size, 0, none⟩ = some (.int .i64 4) := HC.out _ HWw3.out 0 _ rfl
    have kw31 : w3.cell? ⟨w.heap.size, 1, none⟩ = some (.slice ra rs.length rc) := HC.out _ HWw3.out 1 _ rfl
    have kw32 : w3.cell? ⟨w.heap.size, 2, none⟩ = some (.string ⟨nm.toArray⟩) := HC.out _ HWw3.out 2 _ rfl
    have kw33 : w3.cell? ⟨w.heap.size, 3, none⟩ = some (.slice a n c) := HC.out _ HWw3.out 3 _ rfl
    have kw34 : w3.cell? ⟨w.heap.size, 4, none⟩ = some (.int .i64 mn) := HC.out _ HWw3.out 4 _ rfl
    have kw35 : w3.cell? ⟨w.heap.size, 5, none⟩ = some (.int .i64 mx) := HC.out _ HWw3.out 5 _ rfl
    go_wp2_with fail
    go_ret
    exact ⟨ret_int (by rw [← HX.out]; rfl), HB3.out⟩
   ·have z0 : decide (mn < 0) = false := decide_eq_false m0
    by_cases m1 : 40 < mn
    ·have z1 : decide (40 < mn) = true := decide_eq_true m1
     have hbad : badR mn mx = true := by unfold badR; simp; omega
     have HX : Hid (2 = B) := Lib.hid (by rw [← HB.out]; unfold shE; rw [HSH.out, hbad]; simp [k0, b0])
     clear hbad
     (try clear kk); (try clear k0); (try clear r0); (try clear b0); (try clear e0); (try clear m0); (try clear m1); (try clear m2); (try clear m3); (try clear m4)
     go_enter Tryd.func29, Tryd.ntmps29
     go_wp2_with fail
     refine (HBR.out _).mono ?_
     rintro e w3 ⟨rfl, hb3⟩
     have HWw3 : Hid (Below (w.heap.size + 1) (w.alloc (.cells #[.int .i64 4, .slice ra rs.length rc, .string ⟨nm.toArray⟩, .slice a n c, .int .i64 mn, .int .i64 mx] 29)) w3) := Lib.hid (by simpa using hb3)
     have HB3 := Lib.hid (HB0.out.trans (hb3.mono HB0.out.size))
     clear hb3
     have kw30 : w3.cell? ⟨w.heap.size, 0, none⟩ = some (.int .i64 4) := HC.out _ HWw3.out 0 _ rfl
     have kw31 : w3.cell? ⟨w.heap.size, 1, none⟩ = some (.slice ra rs.length rc) := HC.out _ HWw3.out 1 _ rfl
     have kw32 : w3.cell? ⟨w.heap.size, 2, none⟩ = some (.string ⟨nm.toArray⟩) := HC.out _ HWw3.out 2 _ rfl
     have kw33 : w3.cell? ⟨w.heap.size, 3, none⟩ = some (.slice a n c) := HC.out _ HWw3.out 3 _ rfl
     have kw34 : w3.cell? ⟨w.heap.size, 4, none⟩ = some (.int .i64 mn) := HC.out _ HWw3.out 4 _ rfl
     have kw35 : w3.cell? ⟨w.heap.size, 5, none⟩ = some (.int .i64 mx) := HC.out _ HWw3.out 5 _ rfl
     go_wp2_with fail
     go_ret
     exact ⟨ret_int (by rw [← HX.out]; rfl), HB3.out⟩
    ·have z1 : decide (40 < mn) = false := decide_eq_false m1
     by_cases m2 : mx = -1
     ·have z2 : (mx != -1) = false := by rw [bne_eq_false_iff_eq]; exact m2
      have hbad : badR mn mx = false := by unfold badR; simp; omega
      have HX : Hid (0 = B) := Lib.hid (by rw [← HB.out]; unfold shE; rw [HSH.out, hbad]; simp [k0, b0])
      clear hbad
      (try clear kk); (try clear k0); (try clear r0); (try clear b0); (try clear e0); (try clear m0); (try clear m1); (try clear m2); (try clear m3); (try clear m4)
      go_enter Tryd.func29, Tryd.ntmps29
      go_wp2_with fail
      refine (HBR.out _).mono ?_
      rintro e w3 ⟨rfl, hb3⟩
      have HWw3 : Hid (Below (w.heap.size + 1) (w.alloc (.cells #[.int .i64 4, .slice ra rs.length rc, .string ⟨nm.toArray⟩, .slice a n c, .int .i64 mn, .int .i64 mx] 29)) w3) := Lib.hid (by simpa using hb3)
      have HB3 := Lib.hid (HB0.out.trans (hb3.mono HB0.out.size))
      clear hb3
      have kw30 : w3.cell? ⟨w.heap.size, 0, none⟩ = some (.int .i64 4) := HC.out _ HWw3.out 0 _ rfl
      have kw31 : w3.cell? ⟨w.heap.size, 1, none⟩ = some (.slice ra rs.length rc) := HC.out _ HWw3.out 1 _ rfl
      have kw32 : w3.cell? ⟨w.heap.size, 2, none⟩ = some (.string ⟨nm.toArray⟩) := HC.out _ HWw3.out 2 _ rfl
      have kw33 : w3.cell? ⟨w.heap.size, 3, none⟩ = some (.slice a n c) := HC.out _ HWw3.out 3 _ rfl
      have kw34 : w3.cell? ⟨w.heap.size, 4, none⟩ = some (.int .i64 mn) := HC.out _ HWw3.out 4 _ rfl
      have kw35 : w3.cell? ⟨w.heap.size, 5, none⟩ = some (.int .i64 mx) := HC.out _ HWw3.out 5 _ rfl
      go_wp2_with fail
      go_ret
      exact ⟨ret_int (by rw [← HX.out]; rfl), HB3.out⟩
     ·have z2 : (mx != -1) = true := by rw [bne_iff_ne]; exact m2
      by_cases m3 : mx < mn
      ·have z3 : decide (mx < mn) = true := decide_eq_true m3
       have hbad : badR mn mx = true := by unfold badR; simp; omega
       have HX : Hid (2 = B) := Lib.hid (by rw [← HB.out]; unfold shE; rw [HSH.out, hbad]; simp [k0, b0])
       clear hbad
       (try clear kk); (try clear k0); (try clear r0); (try clear b0); (try clear e0); (try clear m0); (try clear m1); (try clear m2); (try clear m3); (try clear m4)
       go_enter Tryd.func29, Tryd.ntmps29
       go_wp2_with fail
       refine (HBR.out _).mono ?_
       rintro e w3 ⟨rfl, hb3⟩
       have HWw3 : Hid (Below (w.heap.size + 1) (w.alloc (.cells #[.int .i64 4, .slice ra rs.length rc, .string ⟨nm.toArray⟩, .slice a n c, .int .i64 mn, .int .i64 mx] 29)) w3) := Lib.hid (by simpa using hb3)
       have HB3 := Lib.hid (HB0.out.trans (hb3.mono HB0.out.size))
       clear hb3
       have kw30 : w3.cell? ⟨w.heap.size, 0, none⟩ = some (.int .i64 4) := HC.out _ HWw3.out 0 _ rfl
       have kw31 : w3.cell? ⟨w.heap.size, 1, none⟩ = some (.slice ra rs.length rc) := HC.out _ HWw3.out 1 _ rfl
       have kw32 : w3.cell? ⟨w.heap.size, 2, none⟩ = some (.string ⟨nm.toArray⟩) := HC.out _ HWw3.out 2 _ rfl
       have kw33 : w3.cell? ⟨w.heap.size, 3, none⟩ = some (.slice a n c) := HC.out _ HWw3.out 3 _ rfl
       have kw34 : w3.cell? ⟨w.heap.size, 4, none⟩ = some (.int .i64 mn) := HC.out _ HWw3.out 4 _ rfl
       have kw35 : w3.cell? ⟨w.heap.size, 5, none⟩ = some (.int .i64 mx) := HC.out _ HWw3.out 5 _ rfl
       go_wp2_with fail
       go_ret
       exact ⟨ret_int (by rw [← HX.out]; rfl), HB3.out⟩
      ·have z3 : decide (mx < mn) = false := decide_eq_false m3
       by_cases m4 : 40 < mx
       ·have z4 : decide (40 < mx) = true := decide_eq_true m4
        have hbad : badR mn mx = true := by unfold badR; simp; omega
        have HX : Hid (2 = B) := Lib.hid (by rw [← HB.out]; unfold shE; rw [HSH.out, hbad]; simp [k0, b0])
        clear hbad
        (try clear kk); (try clear k0); (try clear r0); (try clear b0); (try clear e0); (try clear m0); (try clear m1); (try clear m2); (try clear m3); (try clear m4)
        go_enter Tryd.func29, Tryd.ntmps29
        go_wp2_with fail
        refine (HBR.out _).mono ?_
        rintro e w3 ⟨rfl, hb3⟩
        have HWw3 : Hid (Below (w.heap.size + 1) (w.alloc (.cells #[.int .i64 4, .slice ra rs.length rc, .string ⟨nm.toArray⟩, .slice a n c, .int .i64 mn, .int .i64 mx] 29)) w3) := Lib.hid (by simpa using hb3)
        have HB3 := Lib.hid (HB0.out.trans (hb3.mono HB0.out.size))
        clear hb3
        have kw30 : w3.cell? ⟨w.heap.size, 0, none⟩ = some (.int .i64 4) := HC.out _ HWw3.out 0 _ rfl
        have kw31 : w3.cell? ⟨w.heap.size, 1, none⟩ = some (.slice ra rs.length rc) := HC.out _ HWw3.out 1 _ rfl
        have kw32 : w3.cell? ⟨w.heap.size, 2, none⟩ = some (.string ⟨nm.toArray⟩) := HC.out _ HWw3.out 2 _ rfl
        have kw33 : w3.cell? ⟨w.heap.size, 3, none⟩ = some (.slice a n c) := HC.out _ HWw3.out 3 _ rfl
        have kw34 : w3.cell? ⟨w.heap.size, 4, none⟩ = some (.int .i64 mn) := HC.out _ HWw3.out 4 _ rfl
        have kw35 : w3.cell? ⟨w.heap.size, 5, none⟩ = some (.int .i64 mx) := HC.out _ HWw3.out 5 _ rfl
        go_wp2_with fail
        go_ret
        exact ⟨ret_int (by rw [← HX.out]; rfl), HB3.out⟩
       ·have z4 : decide (40 < mx) = false := decide_eq_false m4
        have hbad : badR mn mx = false := by unfold badR; simp; omega
        have HX : Hid (0 = B) := Lib.hid (by rw [← HB.out]; unfold shE; rw [HSH.out, hbad]; simp [k0, b0])
        clear hbad
        (try clear kk); (try clear k0); (try clear r0); (try clear b0); (try clear e0); (try clear m0); (try clear m1); (try clear m2); (try clear m3); (try clear m4)
        go_enter Tryd.func29, Tryd.ntmps29
        go_wp2_with fail
        refine (HBR.out _).mono ?_
        rintro e w3 ⟨rfl, hb3⟩
        have HWw3 : Hid (Below (w.heap.size + 1) (w.alloc (.cells #[.int .i64 4, .slice ra rs.length rc, .string ⟨nm.toArray⟩, .slice a n c, .int .i64 mn, .int .i64 mx] 29)) w3) := Lib.hid (by simpa using hb3)
        have HB3 := Lib.hid (HB0.out.trans (hb3.mono HB0.out.size))
        clear hb3
        have kw30 : w3.cell? ⟨w.heap.size, 0, none⟩ = some (.int .i64 4) := HC.out _ HWw3.out 0 _ rfl
        have kw31 : w3.cell? ⟨w.heap.size, 1, none⟩ = some (.slice ra rs.length rc) := HC.out _ HWw3.out 1 _ rfl
        have kw32 : w3.cell? ⟨w.heap.size, 2, none⟩ = some (.string ⟨nm.toArray⟩) := HC.out _ HWw3.out 2 _ rfl
        have kw33 : w3.cell? ⟨w.heap.size, 3, none⟩ = some (.slice a n c) := HC.out _ HWw3.out 3 _ rfl
        have kw34 : w3.cell? ⟨w.heap.size, 4, none⟩ = some (.int .i64 mn) := HC.out _ HWw3.out 4 _ rfl
        have kw35 : w3.cell? ⟨w.heap.size, 5, none⟩ = some (.int .i64 mx) := HC.out _ HWw3.out 5 _ rfl
        go_wp2_with fail
        go_ret
        exact ⟨ret_int (by rw [← HX.out]; rfl), HB3.out⟩
 ·have y1 : ((n : Int) != 1) = true := by rw [bne_iff_ne]; omega
  have HX : Hid (1 = B) := Lib.hid (by rw [← HB.out]; unfold shE; rw [HSH.out]; simp [*])
  (try clear kk); (try clear k0); (try clear r0); (try clear b0); (try clear e0); (try clear m0); (try clear m1); (try clear m2); (try clear m3); (try clear m4)
  go_enter Tryd.func29, Tryd.ntmps29
  go_wp2_with fail
  go_ret
  exact ⟨ret_int (by rw [← HX.out]; rfl), HB0.out⟩
set_option maxRecDepth 100000 in
set_option maxHeartbeats 4000000 in
theorem rshape_5 (rs : List (UInt8 × UInt8)) (nm : List UInt8) (n : Nat) (mn mx : Int) (ra : Option Addr) (rc : Nat) (a : Option Addr) (c : Nat) (w : World) (hr : RgAt w rs (.slice ra rs.length rc)) (hml : nm.length ≤ 9223372036854775807) :
  Calls Tryd.prog 29 #[.agg #[.int .i64 5, .slice ra rs.length rc, .string ⟨nm.toArray⟩, .slice a n c, .int .i64 mn, .int .i64 mx]] w fun e w' => e = .returned (.int .i64 (shE 5 rs nm n mn mx)) ∧ Below w.heap.size w w' := by
 obtain ⟨B, hB⟩ : ∃ B, shE 5 rs nm n mn mx = B := ⟨_, rfl⟩
 rw [hB]
 have HB := Lib.hid hB
 have HB0 := Lib.hid ((Below.refl _ w).alloc (Nat.le_refl _) (.cells #[.int .i64 5, .slice ra rs.length rc, .string ⟨nm.toArray⟩, .slice a n c, .int .i64 mn, .int .i64 mx] 29))
 have HS := Lib.hid fun W (hb : Below w.heap.size w W) => sorted_any rs (.slice ra rs.length rc) W (hr.later hb)
 have HC : Hid (∀ W, Below (w.heap.size + 1) (w.alloc (.cells #[.int .i64 5, .slice ra rs.length rc, .string ⟨nm.toArray⟩, .slice a n c, .int .i64 mn, .int .i64 mx] 29)) W → ∀ i u, (#[.int .i64 5, .slice ra rs.length rc, .string ⟨nm.toArray⟩, .slice a n c, .int .i64 mn, .int .i64 mx] : Array Value)[i]? = some u → W.cell? ⟨w.heap.size, i, none⟩ = some u) := Lib.hid (fun W hb i u hu => (hb.cell (p := ⟨w.heap.size, i, none⟩) (Nat.lt_succ_self _)).trans (by simp [go_sem]; simpa using hu))
 have HSH := Lib.hid (shp_5 rs nm n mn mx)
 clear hB hr
 by_cases k0 : n = 1
 ·have y1 : ((n : Int) != 1) = false := by rw [bne_eq_false_iff_eq]; omega
  have HBR := Lib.hid (bare_any 5 rs nm n mn mx ra rc a c)
  cases b0 : bareB 5 rs nm mn mx
  ·rw [b0] at HBR
   have HX : Hid (1 = B) := Lib.hid (by rw [← HB.out]; unfold shE; rw [HSH.out]; simp [*])
   (try clear kk); (try clear k0); (try clear r0); (try clear b0); (try clear e0); (try clear m0); (try clear m1); (try clear m2); (try clear m3); (try clear m4)
   go_enter Tryd.func29, Tryd.ntmps29
   go_wp2_with fail
   refine (HBR.out _).mono ?_
   rintro e w3 ⟨rfl, hb3⟩
   have HWw3 : Hid (Below (w.heap.size + 1) (w.alloc (.cells #[.int .i64 5, .slice ra rs.length rc, .string ⟨nm.toArray⟩, .slice a n c, .int .i64 mn, .int .i64 mx] 29)) w3) := Lib.hid (by simpa using hb3)
   have HB3 := Lib.hid (HB0.out.trans (hb3.mono HB0.out.size))
   clear hb3
   have kw30 : w3.cell? ⟨w.heap.size, 0, none⟩ = some (.int .i64 5) := HC.out _ HWw3.out 0 _ rfl
   have kw31 : w3.cell? ⟨w.heap.size, 1, none⟩ = some (.slice ra rs.length rc) := HC.out _ HWw3.out 1 _ rfl
   have kw32 : w3.cell? ⟨w.heap.size, 2, none⟩ = some (.string ⟨nm.toArray⟩) := HC.out _ HWw3.out 2 _ rfl
   have kw33 : w3.cell? ⟨w.heap.size, 3, none⟩ = some (.slice a n c) := HC.out _ HWw3.out 3 _ rfl
   have kw34 : w3.cell? ⟨w.heap.size, 4, none⟩ = some (.int .i64 mn) := HC.out _ HWw3.out 4 _ rfl
   have kw35 : w3.cell? ⟨w.heap.size, 5, none⟩ = some (.int .i64 mx) := HC.out _ HWw3.out 5 _ rfl
   go_wp2_with fail
   go_ret
   exact ⟨ret_int (by rw [← HX.out]; rfl), HB3.out⟩
  ·rw [b0] at HBR
   have HNM := Lib.hid fun W => rname_any nm W hml
   cases e0 : nmB nm
   ·rw [e0] at HNM
    have HX : Hid (6 = B) := Lib.hid (by rw [← HB.out]; unfold shE; rw [HSH.out]; simp [*])
    (try clear kk); (try clear k0); (try clear r0); (try clear b0); (try clear e0); (try clear m0); (try clear m1); (try clear m2); (try clear m3); (try clear m4)
    go_enter Tryd.func29, Tryd.ntmps29
    go_wp2_with fail
    refine (HBR.out _).mono ?_
    rintro e w3 ⟨rfl, hb3⟩
    have HWw3 : Hid (Below (w.heap.size + 1) (w.alloc (.cells #[.int .i64 5, .slice ra rs.length rc, .string ⟨nm.toArray⟩, .slice a n c, .int .i64 mn, .int .i64 mx] 29)) w3) := Lib.hid (by simpa using hb3)
    have HB3 := Lib.hid (HB0.out.trans (hb3.mono HB0.out.size))
    clear hb3
    have kw30 : w3.cell? ⟨w.heap.size, 0, none⟩ = some (.int .i64 5) := HC.out _ HWw3.out 0 _ rfl
    have kw31 : w3.cell? ⟨w.heap.size, 1, none⟩ = some (.slice ra rs.length rc) := HC.out _ HWw3.out 1 _ rfl
    have kw32 : w3.cell? ⟨w.heap.size, 2, none⟩ = some (.string ⟨nm.toArray⟩) := HC.out _ HWw3.out 2 _ rfl
    have kw33 : w3.cell? ⟨w.heap.size, 3, none⟩ = some (.slice a n c) := HC.out _ HWw3.out 3 _ rfl
    have kw34 : w3.cell? ⟨w.heap.size, 4, none⟩ = some (.int .i64 mn) := HC.out _ HWw3.out 4 _ rfl
    have kw35 : w3.cell? ⟨w.heap.size, 5, none⟩ = some (.int .i64 mx) := HC.out _ HWw3.out 5 _ rfl
    go_wp2_with fail
    refine (HNM.out w3).mono ?_
    rintro e w4 ⟨rfl, rfl⟩
    go_wp2_with fail
    go_ret
    exact ⟨ret_int (by rw [← HX.out]; rfl), HB3.out⟩
   ·rw [e0] at HNM
    have HX : Hid (0 = B) := Lib.hid (by rw [← HB.out]; unfold shE; rw [HSH.out]; simp [*])
    (try clear kk); (try clear k0); (try clear r0); (try clear b0); (try clear e0); (try clear m0); (try clear m1); (try clear m2); (try clear m3); (try clear m4)
    go_enter Tryd.func29, Tryd.ntmps29
    go_wp2_with fail
    refine (HBR.out _).mono ?_
    rintro e w3 ⟨rfl, hb3⟩
    have HWw3 : Hid (Below (w.heap.size + 1) (w.alloc (.cells #[.int .i64 5, .slice ra rs.length rc, .string ⟨nm.toArray⟩, .slice a n c, .int .i64 mn, .int .i64 mx] 29)) w3) := Lib.hid (by simpa using hb3)
    have HB3 := Lib.hid (HB0.out.trans (hb3.mono HB0.out.size))
    clear hb3
    have kw30 : w3.cell? ⟨w.heap.size, 0, none⟩ = some (.int .i64 5) := HC.out _ HWw3.out 0 _ rfl
    have kw31 : w3.cell? ⟨w.heap.size, 1, none⟩ = some (.slice ra rs.length rc) := HC.out _ HWw3.out 1 _ rfl
    have kw32 : w3.cell? ⟨w.heap.size, 2, none⟩ = some (.string ⟨nm.toArray⟩) := HC.out _ HWw3.out 2 _ rfl
    have kw33 : w3.cell? ⟨w.heap.size, 3, none⟩ = some (.slice a n c) := HC.out _ HWw3.out 3 _ rfl
    have kw34 : w3.cell? ⟨w.heap.size, 4, none⟩ = some (.int .i64 mn) := HC.out _ HWw3.out 4 _ rfl
    have kw35 : w3.cell? ⟨w.heap.size, 5, none⟩ = some (.int .i64 mx) := HC.out _ HWw3.out 5 _ rfl
    go_wp2_with fail
    refine (HNM.out w3).mono ?_
    rintro e w4 ⟨rfl, rfl⟩
    go_wp2_with fail
    go_ret
    exact ⟨ret_int (by rw [← HX.out]; rfl), HB3.out⟩
 ·have y1 : ((n : Int) != 1) = true := by rw [bne_iff_ne]; omega
  have HX : Hid (1 = B) := Lib.hid (by rw [← HB.out]; unfold shE; rw [HSH.out]; simp [*])
  (try clear kk); (try clear k0); (try clear r0); (try clear b0); (try clear e0); (try clear m0); (try clear m1); (try clear m2); (try clear m3); (try clear m4)
  go_enter Tryd.func29, Tryd.ntmps29
  go_wp2_with fail
  go_ret
  exact ⟨ret_int (by rw [← HX.out]; rfl), HB0.out⟩
end Go.Proofs.YtihdnlpelfgklaaDoor
namespace Go.Proofs.YtihdnlpelfgklaaDoor
open Go.RowKit
theorem rshape_any (op : Int) (rs : List (UInt8 × UInt8)) (nm : List UInt8) (n : Nat) (mn mx : Int) (ra : Option Addr) (rc : Nat) (a : Option Addr) (c : Nat) (w : World) (hr : RgAt w rs (.slice ra rs.length rc)) (hml : nm.length ≤ 9223372036854775807) :
  Calls Tryd.prog 29 #[.agg #[.int .i64 op, .slice ra rs.length rc, .string ⟨nm.toArray⟩, .slice a n c, .int .i64 mn, .int .i64 mx]] w fun e w' => e = .returned (.int .i64 (shE op rs nm n mn mx)) ∧ Below w.heap.size w w' := by
 by_cases h0 : op = 0
 ·subst h0; exact rshape_0 rs nm n mn mx ra rc a c w hr hml
 by_cases h1 : op = 1
 ·subst h1; exact rshape_1 rs nm n mn mx ra rc a c w hr hml
 by_cases h2 : op = 2
 ·subst h2; exact rshape_2 rs nm n mn mx ra rc a c w hr hml
 by_cases h3 : op = 3
 ·subst h3; exact rshape_3 rs nm n mn mx ra rc a c w hr hml
 by_cases h4 : op = 4
 ·subst h4; exact rshape_4 rs nm n mn mx ra rc a c w hr hml
 by_cases h5 : op = 5
 ·subst h5; exact rshape_5 rs nm n mn mx ra rc a c w hr hml
 by_cases h6 : op = 6
 ·subst h6; exact rshape_6 rs nm n mn mx ra rc a c w hr hml
 by_cases h7 : op = 7
 ·subst h7; exact rshape_7 rs nm n mn mx ra rc a c w hr hml
 exact rshape_no op rs nm n mn mx ra rc a c w ⟨h0, h1, h2, h3, h4, h5, h6, h7⟩
end Go.Proofs.YtihdnlpelfgklaaDoor
namespace Go.Proofs.YtihdnlpelfgklaaDoor
open Go.RowKit
mutual
noncomputable def ckN : NT → Nat → Nat → List (List UInt8) → Nat × List (List UInt8) × Nat
 | .node op rs nm ks mn mx, d, c, ns =>
  if 400 < c + 1 then (c + 1, ns, 4) else if 20 < d then (c + 1, ns, 5)
  else if shE op rs nm ks.length mn mx ≠ 0 then (c + 1, ns, shE op rs nm ks.length mn mx)
  else ckNs ks (d + 1) (c + 1) (if op = 5 then ns ++ [nm] else ns)
noncomputable def ckNs : List NT → Nat → Nat → List (List UInt8) → Nat × List (List UInt8) × Nat
 | [], _, c, ns => (c, ns, 0)
 | k :: ks, d, c, ns => if (ckN k d c ns).2.2 ≠ 0 then ckN k d c ns else ckNs ks d (ckN k d c ns).1 (ckN k d c ns).2.1
end
theorem ckNs_step {kids : List NT} {k : Nat} (h : k < kids.length) (d c : Nat) (ns : List (List UInt8)) : ckNs (kids.drop k) d c ns = if (ckN kids[k] d c ns).2.2 ≠ 0 then ckN kids[k] d c ns else ckNs (kids.drop (k + 1)) d (ckN kids[k] d c ns).1 (ckN kids[k] d c ns).2.1 := by
 rw [List.drop_eq_getElem_cons h, ckNs]
def CkOk (r : Nat × List (List UInt8) × Nat) : Prop := r.1 ≤ 401 ∧ r.2.1.length ≤ r.1 ∧ (r.2.2 = 0 → r.1 ≤ 400) ∧ r.2.2 ≤ 7
theorem shE_le (op : Int) (rs : List (UInt8 × UInt8)) (nm : List UInt8) (n : Nat) (mn mx : Int) : shE op rs nm n mn mx ≤ 7 := by
 unfold shE
 split
 ·decide
 ·split
  ·decide
  ·split <;> decide
theorem ckN_ok (N : Nat) : ∀ (t : NT) (d c : Nat) (ns : List (List UInt8)), SizeOf.sizeOf t < N → c ≤ 400 → ns.length ≤ c → CkOk (ckN t d c ns) := by
 induction N with
 | zero => intro t _ _ _ h; omega
 | succ N ih =>
  intro t d c ns h hc hn
  obtain ⟨op, rs, nm, kids, mn, mx⟩ := t
  rw [ckN]
  split
  ·exact ⟨by simp; omega, by simp; omega, fun e => by simp at e, by simp⟩
  ·split
   ·exact ⟨by simp; omega, by simp; omega, fun e => by simp at e, by simp⟩
   ·split
    ·next h3 => exact ⟨by simp; omega, by simp; omega, fun e => absurd e h3, shE_le _ _ _ _ _ _⟩
    ·have key : ∀ ks : List NT, (∀ k ∈ ks, SizeOf.sizeOf k < N) → ∀ c ns, c ≤ 400 → List.length ns ≤ c → CkOk (ckNs ks (d + 1) c ns) := by
      intro ks
      induction ks with
      | nil => intro _ c ns hc hn; rw [ckNs]; exact ⟨by simp; omega, hn, fun _ => hc, by simp⟩
      | cons k ks ihk =>
       intro hk c ns hc hn
       rw [ckNs]
       have h1 := ih k (d + 1) c ns (hk k (by simp)) hc hn
       split
       ·exact h1
       ·next h2 =>
        have h2' : (ckN k (d + 1) c ns).2.2 = 0 := by simpa using h2
        exact ihk (fun x hx => hk x (List.mem_cons_of_mem _ hx)) _ _ (h1.2.2.1 h2') h1.2.1
     refine key kids (fun k hk => ?_) _ _ (by omega) ?_
     ·have := List.sizeOf_lt_of_mem hk
      simp at h
      omega
     ·split
      ·simp; omega
      ·omega
structure CF (X : Nat → Prop) (v v' : Value) (w w' : World) : Prop where
 size : w.heap.size ≤ w'.heap.size
 keep : ∀ k, k < w.heap.size → ¬ X k → v.ownBlock ≠ some k → w'.heap[k]? = w.heap[k]?
 own : ∀ k, v'.ownBlock = some k → v.ownBlock = some k ∨ w.heap.size ≤ k
theorem CF.refl (X : Nat → Prop) (v : Value) (w : World) : CF X v v w w := ⟨Nat.le_refl _, fun _ _ _ _ => rfl, fun _ h => .inl h⟩
theorem CF.trans {X : Nat → Prop} {v v' v'' : Value} {a b c : World} (h : CF X v v' a b) (k : CF X v' v'' b c) : CF X v v'' a c :=
 ⟨Nat.le_trans h.size k.size, fun i hi hx hv => (k.keep i (Nat.lt_of_lt_of_le hi h.size) hx (fun e => (h.own i e).elim hv (fun h => by omega))).trans (h.keep i hi hx hv),
  fun i hi => (k.own i hi).elim (fun e => h.own i e) (fun e => .inr (Nat.le_trans h.size e))⟩
theorem CF.of_below {X : Nat → Prop} {v : Value} {w w' : World} (h : Below w.heap.size w w') : CF X v v w w' := ⟨h.size, fun k hk _ _ => h.block k hk, fun _ h => .inl h⟩
theorem CF.set {X : Nat → Prop} {v : Value} {w : World} {g : Nat} (hg : X g) (i : Nat) (u : Value) : CF X v v w (w.setCell ⟨g, i, none⟩ u) :=
 ⟨by simp, fun k _ hx _ => Below.heap_setCell _ _ _ k (by intro e; exact hx (e ▸ hg)), fun _ h => .inl h⟩
theorem CF.push {X : Nat → Prop} {v : Value} {w w' : World} {o : Obj} {g n cap H : Nat} (hgr : (w.alloc o).grownBy w' v.ownBlock) (hat : v.ownBlock = some g ∨ g = H) (hH : H = (w.alloc o).heap.size) : CF X v (.slice (some ⟨g, 0, none⟩) n cap) w w' :=
 ⟨Nat.le_trans (by simp) hgr.size, fun k hk _ hv => (hgr.block k (by simp; omega) (fun e => hv e.symm)).trans (((Below.refl _ w).alloc (Nat.le_refl _) o).block k hk), fun k hk => by
  simp only [Value.ownBlock, Option.some.injEq] at hk
  subst hk
  refine hat.imp id (fun e => ?_)
  rw [e, hH]
  simp⟩
structure CK (g : Nat) (c : Nat) (ns : List (List UInt8)) (v : Value) (w : World) : Prop where
 lt : g < w.heap.size
 c0 : w.cell? ⟨g, 0, none⟩ = some (.int .i64 c)
 c1 : w.cell? ⟨g, 1, none⟩ = some v
 f0 : w.frozen? ⟨g, 0, none⟩ = false
 f1 : w.frozen? ⟨g, 1, none⟩ = false
 row : w.ownsRow (g + 1) 9 1 v ns.length (strCellsL ns)
theorem own_at {w w' : World} {B E s n : Nat} {v : Value} {xs : List Value} (h : w.ownsRow B E s v n xs) (hb : ∀ k, v.ownBlock = some k → w'.heap[k]? = w.heap[k]?) : w'.ownsRow B E s v n xs := by
 obtain ⟨h1, h2⟩ := h
 refine ⟨h1, h2.imp id ?_⟩
 rintro ⟨g, cap, cur, rfl, hB, hg, rest⟩
 exact ⟨g, cap, cur, rfl, hB, (hb g rfl).trans hg, rest⟩
theorem CK.below {g c : Nat} {ns : List (List UInt8)} {v : Value} {w w' : World} (h : CK g c ns v w) (hb : Below w.heap.size w w') : CK g c ns v w' :=
 ⟨Nat.lt_of_lt_of_le h.lt hb.size, (hb.cell (p := ⟨g, 0, none⟩) h.lt).trans h.c0, (hb.cell (p := ⟨g, 1, none⟩) h.lt).trans h.c1, (hb.frozen (p := ⟨g, 0, none⟩) h.lt).trans h.f0, (hb.frozen (p := ⟨g, 1, none⟩) h.lt).trans h.f1, own_at h.row fun k hk => hb.block k (h.row.lt k hk).2⟩
theorem CK.count {g c : Nat} {ns : List (List UInt8)} {v : Value} {w : World} (h : CK g c ns v w) (c' : Nat) : CK g c' ns v (w.setCell ⟨g, 0, none⟩ (.int .i64 c')) :=
 ⟨by simpa using h.lt, World.cell?_setCell_same _ _ _ h.c0, by rw [World.cell?_setCell_other _ _ _ _ (by intro e; simp only [Addr.mk.injEq] at e; omega)]; exact h.c1, by rw [World.frozen?_setCell]; exact h.f0, by rw [World.frozen?_setCell]; exact h.f1,
  own_at h.row fun k hk => Below.heap_setCell _ _ _ k (by have := (h.row.lt k hk).1; simp; omega)⟩
theorem CK.push {g c : Nat} {ns : List (List UInt8)} {v : Value} {w w' : World} {o : Obj} {q cap : Nat} (h : CK g c ns v w) (hgr : (w.alloc o).grownBy w' v.ownBlock) (nm : List UInt8)
  (ho : w'.ownsRow (g + 1) 9 1 (.slice (some ⟨q, 0, none⟩) (ns.length + 1) cap) (ns.length + 1) (strCellsL ns ++ [.string ⟨nm.toArray⟩])) :
  CK g c (ns ++ [nm]) (.slice (some ⟨q, 0, none⟩) (ns.length + 1) cap) (w'.setCell ⟨g, 1, none⟩ (.slice (some ⟨q, 0, none⟩) (ns.length + 1) cap)) ∧ w'.cell? ⟨g, 1, none⟩ = some v ∧ w'.frozen? ⟨g, 1, none⟩ = false := by
 have hl := h.lt
 have hb : w'.heap[g]? = w.heap[g]? := (hgr.block g (by simp; omega) (fun e => by have := (h.row.lt g e.symm).1; omega)).trans (((Below.refl _ w).alloc (Nat.le_refl _) o).block g hl)
 have hc : ∀ i, w'.cell? ⟨g, i, none⟩ = w.cell? ⟨g, i, none⟩ := fun i => World.cell?_of_block (a := ⟨g, i, none⟩) hb
 have hf : ∀ i, w'.frozen? ⟨g, i, none⟩ = w.frozen? ⟨g, i, none⟩ := fun i => World.frozen?_of_block (a := ⟨g, i, none⟩) hb
 have hs : w.heap.size ≤ w'.heap.size := Nat.le_trans (by simp) hgr.size
 refine ⟨⟨by simp; omega, ?_, World.cell?_setCell_same _ _ _ ((hc 1).trans h.c1), by rw [World.frozen?_setCell]; exact (hf 0).trans h.f0, by rw [World.frozen?_setCell]; exact (hf 1).trans h.f1, ?_⟩, (hc 1).trans h.c1, (hf 1).trans h.f1⟩
 ·rw [World.cell?_setCell_other _ _ _ _ (by intro e; simp only [Addr.mk.injEq] at e; omega)]
  exact (hc 0).trans h.c0
 ·have : (ns ++ [nm]).length = ns.length + 1 := by simp
  rw [this, show strCellsL (ns ++ [nm]) = strCellsL ns ++ [.string ⟨nm.toArray⟩] by simp [strCellsL]]
  exact own_at ho fun k hk => Below.heap_setCell _ _ _ k (by have := (ho.lt k hk).1; simp; omega)
end Go.Proofs.YtihdnlpelfgklaaDoor
namespace Go.Proofs.YtihdnlpelfgklaaDoor
open Go.RowKit
def CheckP (g : Nat) (w0 w : World) (vn : Value) (r : Nat × List (List UInt8) × Nat) (e : Ending) (w' : World) : Prop :=
 ∃ v', e = .returned (.int .i64 r.2.2) ∧ CK g r.1 r.2.1 v' w' ∧ CF (· = g) vn v' w w' ∧ Below w0.heap.size w0 w'
theorem str_one (x : List UInt8) : ∀ u ∈ [Value.string ⟨x.toArray⟩], u.oneCell' = true := by
 intro u hu
 simp only [List.mem_cons, List.not_mem_nil, or_false] at hu
 subst hu
 rfl
structure CKS (g : Nat) (w0 w : World) (vn : Value) (c : Nat) (ns : List (List UInt8)) (v : Value) (E : Nat → Value) (W : World) : Prop where
 ck : CK g c ns v W
 cf : CF (· = g) vn v w W
 bl : Below w0.heap.size w0 W
 bk : BK w.heap.size 6 E W
theorem CKS.below {g : Nat} {w0 w W W' : World} {vn v : Value} {c : Nat} {ns : List (List UInt8)} {E : Nat → Value} (h : CKS g w0 w vn c ns v E W) (hb : Below W.heap.size W W') : CKS g w0 w vn c ns v E W' :=
 ⟨h.ck.below hb, h.cf.trans (CF.of_below hb), h.bl.trans (hb.mono h.bl.size), h.bk.on hb h.bk.lt⟩
def nE (op : Int) (ra : Option Addr) (rn rc : Nat) (nm : List UInt8) (a : Option Addr) (n cp : Nat) (mn mx : Int) : Nat → Value := fun i => (#[.int .i64 op, .slice ra rn rc, .string ⟨nm.toArray⟩, .slice a n cp, .int .i64 mn, .int .i64 mx] : Array Value)[i]!
theorem cks_start {g : Nat} {w0 w : World} {vn : Value} {c : Nat} {ns : List (List UInt8)} (h : CK g c ns vn w) (hB : Below w0.heap.size w0 w) (hg : w0.heap.size ≤ g) (op : Int) (ra : Option Addr) (rn rc : Nat) (nm : List UInt8) (a : Option Addr) (n cp : Nat) (mn mx : Int) :
  CKS g w0 w vn (c + 1) ns vn (nE op ra rn rc nm a n cp mn mx) ((w.setCell ⟨g, 0, none⟩ (.int .i64 ((c : Int) + 1))).alloc (.cells #[.int .i64 op, .slice ra rn rc, .string ⟨nm.toArray⟩, .slice a n cp, .int .i64 mn, .int .i64 mx] 29)) := by
 have h1 : CK g (c + 1) ns vn (w.setCell ⟨g, 0, none⟩ (.int .i64 ((c : Int) + 1))) := h.count (c + 1)
 have hal := (Below.refl _ (w.setCell ⟨g, 0, none⟩ (.int .i64 ((c : Int) + 1)))).alloc (Nat.le_refl _) (.cells #[.int .i64 op, .slice ra rn rc, .string ⟨nm.toArray⟩, .slice a n cp, .int .i64 mn, .int .i64 mx] 29)
 refine ⟨h1.below hal, (CF.set (X := (· = g)) rfl 0 _).trans (CF.of_below hal), (hB.setCell (p := ⟨g, 0, none⟩) hg _).trans (hal.mono (by simpa using hB.size)), ?_⟩
 have := BK.new (w.setCell ⟨g, 0, none⟩ (.int .i64 ((c : Int) + 1))) #[.int .i64 op, .slice ra rn rc, .string ⟨nm.toArray⟩, .slice a n cp, .int .i64 mn, .int .i64 mx] 29 (nE op ra rn rc nm a n cp mn mx) 6 (fun i hi => by
  match i, hi with
  | 0, _ => rfl
  | 1, _ => rfl
  | 2, _ => rfl
  | 3, _ => rfl
  | 4, _ => rfl
  | 5, _ => rfl)
 simpa using this
theorem cks_push {g : Nat} {w0 w W W' : World} {vn : Value} {c : Nat} {ns ns' : List (List UInt8)} {E : Nat → Value} {o : Obj} {q n cap H : Nat} (h : CKS g w0 w vn c ns vn E W) (hgr : (W.alloc o).grownBy W' vn.ownBlock) (hat : vn.ownBlock = some q ∨ q = H) (hH : (W.alloc o).heap.size = H)
  (hck : CK g c ns' (.slice (some ⟨q, 0, none⟩) n cap) (W'.setCell ⟨g, 1, none⟩ (.slice (some ⟨q, 0, none⟩) n cap))) (hg : w0.heap.size ≤ g ∧ g < w.heap.size ∧ vn.ownBlock ≠ some w.heap.size) : CKS g w0 w vn c ns' (.slice (some ⟨q, 0, none⟩) n cap) E (W'.setCell ⟨g, 1, none⟩ (.slice (some ⟨q, 0, none⟩) n cap)) := by
 have hown : ∀ k, vn.ownBlock = some k → g + 1 ≤ k := fun k hk => (h.ck.row.lt k hk).1
 have hnb := hg.2.2
 have hB := ((Below.refl _ W).alloc (Nat.le_of_lt h.ck.lt) o).grown (B := g) hgr (by have := h.ck.lt; simp; omega) (fun k hk => by have := hown k hk; omega)
 refine ⟨hck, h.cf.trans ((CF.push hgr hat hH.symm).trans (CF.set (X := (· = g)) rfl 1 _)), h.bl.trans ((hB.mono hg.1).setCell (p := ⟨g, 1, none⟩) hg.1 _), ?_⟩
 refine h.bk.keep ?_ (by simpa using hB.size)
 rw [Below.heap_setCell _ _ _ _ (by simp; omega)]
 exact (hgr.block _ (by have := h.bk.lt; simp; omega) (fun e => hnb e.symm)).trans (((Below.refl _ W).alloc (Nat.le_refl _) o).block _ h.bk.lt)
set_option maxRecDepth 100000 in
set_option maxHeartbeats 16000000 in
theorem check_aux (N : Nat) : ∀ (t : NT) (v : Value) (w0 w : World) (g d c : Nat) (ns : List (List UInt8)) (vn : Value), SizeOf.sizeOf t < N → NAt w0 t v → Kinds w0 → Below w0.heap.size w0 w → w0.heap.size ≤ g → CK g c ns vn w → c ≤ 400 → ns.length ≤ c → d ≤ 21 →
  Calls Tryd.prog 40 #[.pointer (some ⟨g, 0, none⟩), v, .int .i64 d] w (CheckP g w0 w vn (ckN t d c ns)) := by
 induction N with
 | zero => intro t v w0 w g d c ns vn h; omega
 | succ N ih =>
 intro t v w0 w g d c ns vn hN h hkd hB hg hck hc hn hd
 obtain ⟨op, rs, nm, kids, mn, mx, ra, rc, a, cp, rfl, rfl, hr, ⟨hml, hnm⟩, hk⟩ := h.open
 have IH := Lib.hid fun (i : Nat) (hi : i < kids.length) (W : World) (u : Value) (d c : Nat) (ns : List (List UInt8)) (vn : Value) (h1 : NAt w0 kids[i] u) (h2 : Below w0.heap.size w0 W) (h3 : CK g c ns vn W) (h4 : c ≤ 400) (h5 : ns.length ≤ c) (h6 : d ≤ 21) => ih kids[i] u w0 W g d c ns vn (by have := kid_lt (op := op) (rs := rs) (nm := nm) (mn := mn) (mx := mx) i hi; omega) h1 hkd h2 hg h3 h4 h5 h6
 have HKD := Lib.hid hkd
 have HK := Lib.hid hk
 have HR0 := Lib.hid hr
 have HNM := Lib.hid hnm
 have HS0 := Lib.hid (cks_start hck hB hg op ra rs.length rc nm a kids.length cp mn mx)
 have hgw : g < w.heap.size := hck.lt
 have hgle : w0.heap.size ≤ g ∧ g < w.heap.size ∧ vn.ownBlock ≠ some w.heap.size := ⟨hg, hgw, fun e => by have := (hck.row.lt _ e).2; omega⟩
 have p0 := hck.c0
 have q0 := hck.f0
 obtain ⟨R, hR⟩ : ∃ R, ckN (.node op rs nm kids mn mx) d c ns = R := ⟨_, rfl⟩
 rw [hR]
 rw [ckN] at hR
 have HR := Lib.hid hR
 clear h hkd hk hr hB hck ih hN hR hnm
 by_cases t1 : 400 < c + 1
 ·have HX := Lib.hid (show (c + 1, ns, 4) = R by rw [← HR.out, if_pos t1])
  have z1 : decide ((400 : Int) < (c : Int) + 1) = true := decide_eq_true (by omega)
  go_enter Tryd.func40, Tryd.ntmps40
  go_wp2_with fail
  go_ret
  exact ⟨vn, by rw [← HX.out]; rfl, by rw [← HX.out]; exact HS0.out.ck, HS0.out.cf, HS0.out.bl⟩
 ·have z1 : decide ((400 : Int) < (c : Int) + 1) = false := decide_eq_false (by omega)
  by_cases t2 : 20 < d
  ·have HX := Lib.hid (show (c + 1, ns, 5) = R by rw [← HR.out, if_neg t1, if_pos t2])
   have z2 : decide ((20 : Int) < (d : Int)) = true := decide_eq_true (by omega)
   go_enter Tryd.func40, Tryd.ntmps40
   go_wp2_with fail
   go_ret
   exact ⟨vn, by rw [← HX.out]; rfl, by rw [← HX.out]; exact HS0.out.ck, HS0.out.cf, HS0.out.bl⟩
  ·have z2 : decide ((20 : Int) < (d : Int)) = false := decide_eq_false (by omega)
   have HR2 := Lib.hid (show (if shE op rs nm kids.length mn mx ≠ 0 then (c + 1, ns, shE op rs nm kids.length mn mx) else ckNs kids (d + 1) (c + 1) (if op = 5 then ns ++ [nm] else ns)) = R by rw [← HR.out, if_neg t1, if_neg t2])
   have HSH := Lib.hid (shape_any op rs nm kids.length mn mx ra rc a cp ((w.setCell ⟨g, 0, none⟩ (.int .i64 ((c : Int) + 1))).alloc (.cells #[.int .i64 op, .slice ra rs.length rc, .string ⟨nm.toArray⟩, .slice a kids.length cp, .int .i64 mn, .int .i64 mx] 29)) (HR0.out.later HS0.out.bl))
   have HEQ := Lib.hid (show shE op rs nm kids.length mn mx = (if shpB op rs nm kids.length mn mx = false then 1 else if op = 5 ∧ nmB nm = false then 6 else if op = 4 ∧ badR mn mx = true then 2 else 0) from rfl)
   clear HR
   have t1' : c + 1 ≤ 400 := by omega
   have t2' : d + 1 ≤ 21 := by omega
   clear t1 t2
   cases hs : shpB op rs nm kids.length mn mx
   ·rw [hs] at HSH
    have HX := Lib.hid (show (c + 1, ns, 1) = R by rw [← HR2.out, HEQ.out, hs]; rfl)
    clear hs HEQ
    go_enter Tryd.func40, Tryd.ntmps40
    go_wp2_with fail
    refine HSH.out.mono ?_
    rintro e w3 ⟨rfl, hb3⟩
    have HS3 := Lib.hid (HS0.out.below hb3)
    clear hb3
    go_wp2_with fail
    go_ret
    exact ⟨vn, by rw [← HX.out]; rfl, by rw [← HX.out]; exact HS3.out.ck, HS3.out.cf, HS3.out.bl⟩
   ·rw [hs] at HSH
    have HEQ2 := Lib.hid (show shE op rs nm kids.length mn mx = (if op = 5 ∧ nmB nm = false then 6 else if op = 4 ∧ badR mn mx = true then 2 else 0) by rw [HEQ.out, hs]; rfl)
    clear hs HEQ
    by_cases h5 : op = 5
    ·subst h5
     have HNB := Lib.hid fun W (hb : Below w0.heap.size w0 W) => isname_any nm W (HKD.out.below hb) HNM.out
     cases hnb : nmB nm
     ·rw [hnb] at HNB
      have HX := Lib.hid (show (c + 1, ns, 6) = R by rw [← HR2.out, HEQ2.out]; simp [hnb])
      clear hnb HEQ2
      go_enter Tryd.func40, Tryd.ntmps40
      go_wp2_with fail
      refine HSH.out.mono ?_
      rintro e w3 ⟨rfl, hb3⟩
      have HS3 := Lib.hid (HS0.out.below hb3)
      clear hb3
      have k0 : w3.cell? ⟨w.heap.size, 0, none⟩ = some (.int .i64 5) := HS3.out.bk.ev 0 (by omega)
      have k1 : w3.cell? ⟨w.heap.size, 1, none⟩ = some (.slice ra rs.length rc) := HS3.out.bk.ev 1 (by omega)
      have k2 : w3.cell? ⟨w.heap.size, 2, none⟩ = some (.string ⟨nm.toArray⟩) := HS3.out.bk.ev 2 (by omega)
      have k3 : w3.cell? ⟨w.heap.size, 3, none⟩ = some (.slice a kids.length cp) := HS3.out.bk.ev 3 (by omega)
      have k4 : w3.cell? ⟨w.heap.size, 4, none⟩ = some (.int .i64 mn) := HS3.out.bk.ev 4 (by omega)
      have k5 : w3.cell? ⟨w.heap.size, 5, none⟩ = some (.int .i64 mx) := HS3.out.bk.ev 5 (by omega)
      go_wp2_with fail
      refine (HNB.out _ HS3.out.bl).mono ?_
      rintro e w4 ⟨rfl, rfl⟩
      go_wp2_with fail
      go_ret
      exact ⟨vn, by rw [← HX.out]; rfl, by rw [← HX.out]; exact HS3.out.ck, HS3.out.cf, HS3.out.bl⟩
     ·rw [hnb] at HNB
      have HX := Lib.hid (show ckNs kids (d + 1) (c + 1) (ns ++ [nm]) = R by rw [← HR2.out, HEQ2.out]; simp [hnb])
      clear hnb HEQ2
      go_enter Tryd.func40, Tryd.ntmps40
      go_wp2_with fail
      refine HSH.out.mono ?_
      rintro e w3 ⟨rfl, hb3⟩
      have HS3 := Lib.hid (HS0.out.below hb3)
      clear hb3
      have k0 : w3.cell? ⟨w.heap.size, 0, none⟩ = some (.int .i64 5) := HS3.out.bk.ev 0 (by omega)
      have k1 : w3.cell? ⟨w.heap.size, 1, none⟩ = some (.slice ra rs.length rc) := HS3.out.bk.ev 1 (by omega)
      have k2 : w3.cell? ⟨w.heap.size, 2, none⟩ = some (.string ⟨nm.toArray⟩) := HS3.out.bk.ev 2 (by omega)
      have k3 : w3.cell? ⟨w.heap.size, 3, none⟩ = some (.slice a kids.length cp) := HS3.out.bk.ev 3 (by omega)
      have k4 : w3.cell? ⟨w.heap.size, 4, none⟩ = some (.int .i64 mn) := HS3.out.bk.ev 4 (by omega)
      have k5 : w3.cell? ⟨w.heap.size, 5, none⟩ = some (.int .i64 mx) := HS3.out.bk.ev 5 (by omega)
      go_wp2_with fail
      refine (HNB.out _ HS3.out.bl).mono ?_
      rintro e w4 ⟨rfl, rfl⟩
      go_wp2_with fail
      have HSD := Lib.hid (HS3.out.below (Below.refl _ w3).drew)
      have hgw3 : g < w3.heap.size := HS3.out.ck.lt
      have hbw3 : w.heap.size < w3.heap.size := HS3.out.bk.lt
      have p1 := HS3.out.ck.c1
      have q1 := HS3.out.ck.f1
      have p1d := HSD.out.ck.c1
      have q1d := HSD.out.ck.f1
      have k2d : w3.drew.cell? ⟨w.heap.size, 2, none⟩ = some (.string ⟨nm.toArray⟩) := HSD.out.bk.ev 2 (by omega)
      have hown := HSD.out.ck.row
      obtain ⟨i0, hi, hz0, hz1, hz2⟩ := info_parts infoStr
      go_region_law (first
       | (refine step_append_lies _ (by rfl) _ _ _ (by rfl) (g + 1) 9 i0 (.string ⟨#[]⟩) 1 16 Tryd.underlying43 hi hz0 hz1 hz2 rfl (by decide) vn ns.length (strCellsL ns) (by rfl) (hown.alloc _) ⟨w3.heap.size, 0, none⟩ 1 1 [.string ⟨nm.toArray⟩] (by rfl) rfl (World.news_of_block (heap_alloc_new w3.drew _)) (str_one nm) (by omega) (by unfold maxLen; omega) (by omega) (by simp; omega) _ rfl ?_; intro g9 cap9 w9 hown9 hgr9 hat9 hlt9; obtain ⟨hP9, hc9, hf9⟩ := HSD.out.ck.push hgr9 nm hown9; have HS9 := Lib.hid (show CKS g w0 w vn (c + 1) (ns ++ [nm]) (.slice (some ⟨g9, 0, none⟩) (ns.length + 1) cap9) (nE 5 ra rs.length rc nm a kids.length cp mn mx) (w9.setCell ⟨g, 1, none⟩ (.slice (some ⟨g9, 0, none⟩) (ns.length + 1) cap9)) from cks_push HSD.out hgr9 hat9 rfl hP9 hgle); clear hP9 hown9 hgr9 hat9))
      all_goals
       have HSK : ∀ i, i < 6 → (w9.setCell ⟨g, 1, none⟩ (.slice (some ⟨g9, 0, none⟩) (ns.length + 1) cap9)).cell? ⟨w.heap.size, i, none⟩ = some (nE 5 ra rs.length rc nm a kids.length cp mn mx i) := fun i hi => HS9.out.bk.ev i hi
       have kk3 : (w9.setCell ⟨g, 1, none⟩ (.slice (some ⟨g9, 0, none⟩) (ns.length + 1) cap9)).cell? ⟨w.heap.size, 3, none⟩ = some (.slice a kids.length cp) := HSK 3 (by omega)
       clear HSK hown p1 q1 p1d q1d k2d
       go_wp2_with fail
       go_loopw [88] (fun i wr => ∃ (k c2 : Nat) (ns2 : List (List UInt8)) (v2 : Value), i = .int .i64 k ∧ k ≤ kids.length ∧ c2 ≤ 400 ∧ ns2.length ≤ c2 ∧ ckNs (kids.drop k) (d + 1) c2 ns2 = R ∧ CK g c2 ns2 v2 wr ∧ CF (· = g) vn v2 w wr ∧ Below w0.heap.size w0 wr) (fun i _ => kids.length - (intOf i).toNat)
       case atStart => exact ⟨0, c + 1, (ns ++ [nm]), _, rfl, by omega, by omega, by simp only [List.length_append, List.length_cons, List.length_nil]; omega, HX.out, HS9.out.ck, HS9.out.cf, HS9.out.bl⟩
       case round =>
        obtain ⟨k, c2, ns2, v2, rfl, hkl, hc2, hn2, hq, hck2, hcf2, hb2⟩ := hrel
        have HQ := Lib.hid hq
        have HCK2 := Lib.hid hck2
        have HCF2 := Lib.hid hcf2
        have HB2 := Lib.hid hb2
        clear hq hck2 hcf2 hb2
        by_cases hlt : k < kids.length
        ·obtain ⟨blk, off, op', ra', rn', rc', nm', a', n', c1', mn', mx', rfl, hl, c0, c1, c2x, c3, c4, c5, ht⟩ := HK.out k hlt
         have e0 := (HB2.out.cell (p := ⟨blk, off + k * 6, none⟩) hl).trans c0
         have e1 := (HB2.out.cell (p := ⟨blk, off + k * 6 + 1, none⟩) hl).trans c1
         have e2 := (HB2.out.cell (p := ⟨blk, off + k * 6 + 2, none⟩) hl).trans c2x
         have e3 := (HB2.out.cell (p := ⟨blk, off + k * 6 + 3, none⟩) hl).trans c3
         have e4 := (HB2.out.cell (p := ⟨blk, off + k * 6 + 4, none⟩) hl).trans c4
         have e5 := (HB2.out.cell (p := ⟨blk, off + k * 6 + 5, none⟩) hl).trans c5
         have i1 : (k : Int) < (kids.length : Int) := by omega
         have i2 : (0 : Int) ≤ (k : Int) := by omega
         have hal := (Below.refl _ wr).alloc (Nat.le_refl _) (.cells #[.int .i64 op', .slice ra' rn' rc', .string ⟨nm'.toArray⟩, .slice a' n' c1', .int .i64 mn', .int .i64 mx'] 29)
         have HBA := Lib.hid (HB2.out.trans (hal.mono HB2.out.size))
         have HCKA := Lib.hid (HCK2.out.below hal)
         have HCFA := Lib.hid (HCF2.out.trans (CF.of_below hal))
         have hok := ckN_ok _ kids[k] (d + 1) c2 ns2 (Nat.lt_succ_self _) hc2 hn2
         have HI : Hid (Calls Tryd.prog 40 #[.pointer (some ⟨g, 0, none⟩), .agg #[.int .i64 op', .slice ra' rn' rc', .string ⟨nm'.toArray⟩, .slice a' n' c1', .int .i64 mn', .int .i64 mx'], .int .i64 ((d : Int) + 1)] (wr.alloc (.cells #[.int .i64 op', .slice ra' rn' rc', .string ⟨nm'.toArray⟩, .slice a' n' c1', .int .i64 mn', .int .i64 mx'] 29)) (CheckP g w0 (wr.alloc (.cells #[.int .i64 op', .slice ra' rn' rc', .string ⟨nm'.toArray⟩, .slice a' n' c1', .int .i64 mn', .int .i64 mx'] 29)) v2 (ckN kids[k] (d + 1) c2 ns2))) := Lib.hid (IH.out k hlt _ _ (d + 1) c2 ns2 v2 ht HBA.out HCKA.out hc2 hn2 (by omega))
         have HST := Lib.hid (ckNs_step hlt (d + 1) c2 ns2)
         obtain ⟨r, hr⟩ : ∃ r, ckN kids[k] (d + 1) c2 ns2 = r := ⟨_, rfl⟩
         rw [hr] at HI HST hok
         obtain ⟨r1, r2, r3⟩ := r
         simp only at HST
         have HOK := Lib.hid hok
         clear c0 c1 c2x c3 c4 c5 ht hr hal hok
         by_cases h0 : r3 = 0
         ·have HZ := Lib.hid (show ckNs (kids.drop (k + 1)) (d + 1) r1 r2 = R by rw [← HQ.out, HST.out, if_neg (by simpa using h0)])
          have HC1 : Hid (r1 ≤ 400 ∧ r2.length ≤ r1) := Lib.hid ⟨HOK.out.2.2.1 h0, HOK.out.2.1⟩
          subst h0
          go_wp2_with fail
          refine HI.out.mono ?_
          rintro e w4 ⟨v4, rfl, hck4, hcf4, hb4⟩
          have HCK4 := Lib.hid hck4
          have HCF4 := Lib.hid (HCFA.out.trans hcf4)
          have HB4 := Lib.hid hb4
          clear hck4 hcf4 hb4
          go_wp2_with fail
          go_roundw
          case rel => exact ⟨k + 1, r1, r2, v4, by go_num, by omega, HC1.out.1, HC1.out.2, HZ.out, HCK4.out, HCF4.out, HB4.out⟩
          case measure => simp [intOf]; omega
         ·have HZ := Lib.hid (show (r1, r2, r3) = R by rw [← HQ.out, HST.out, if_pos (by simpa using h0)])
          have y1 : ((r3 : Int) != 0) = true := by rw [bne_iff_ne]; omega
          go_wp2_with fail
          refine HI.out.mono ?_
          rintro e w4 ⟨v4, rfl, hck4, hcf4, hb4⟩
          have HCK4 := Lib.hid hck4
          have HCF4 := Lib.hid (HCFA.out.trans hcf4)
          have HB4 := Lib.hid hb4
          clear hck4 hcf4 hb4
          go_wp2_with fail
          go_ret
          exact ⟨v4, by rw [← HZ.out]; rfl, by rw [← HZ.out]; exact HCK4.out, HCF4.out, HB4.out⟩
        ·obtain rfl : k = kids.length := by omega
         have HZ := Lib.hid (show (c2, ns2, 0) = R by rw [← HQ.out, List.drop_length, ckNs])
         go_wp2_with fail
         go_ret
         exact ⟨v2, by rw [← HZ.out]; rfl, by rw [← HZ.out]; exact HCK2.out, HCF2.out, HB2.out⟩
    ·have y5 : (op == 5) = false := by rw [beq_eq_false_iff_ne]; exact h5
     by_cases h4 : op = 4
     ·subst h4
      clear h5 y5
      by_cases m0 : mn < 0
      ·have z10 : decide (mn < 0) = true := decide_eq_true m0
       have hbad : badR mn mx = true := by unfold badR; simp; omega
       have HX := Lib.hid (show (c + 1, ns, 2) = R by rw [← HR2.out, HEQ2.out]; simp [hbad])
       clear hbad HEQ2
       (try clear m2)
       go_enter Tryd.func40, Tryd.ntmps40
       go_wp2_with fail
       refine HSH.out.mono ?_
       rintro e w3 ⟨rfl, hb3⟩
       have HS3 := Lib.hid (HS0.out.below hb3)
       clear hb3
       have k0 : w3.cell? ⟨w.heap.size, 0, none⟩ = some (.int .i64 4) := HS3.out.bk.ev 0 (by omega)
       have k1 : w3.cell? ⟨w.heap.size, 1, none⟩ = some (.slice ra rs.length rc) := HS3.out.bk.ev 1 (by omega)
       have k2 : w3.cell? ⟨w.heap.size, 2, none⟩ = some (.string ⟨nm.toArray⟩) := HS3.out.bk.ev 2 (by omega)
       have k3 : w3.cell? ⟨w.heap.size, 3, none⟩ = some (.slice a kids.length cp) := HS3.out.bk.ev 3 (by omega)
       have k4 : w3.cell? ⟨w.heap.size, 4, none⟩ = some (.int .i64 mn) := HS3.out.bk.ev 4 (by omega)
       have k5 : w3.cell? ⟨w.heap.size, 5, none⟩ = some (.int .i64 mx) := HS3.out.bk.ev 5 (by omega)
       go_wp2_with fail
       go_ret
       exact ⟨vn, by rw [← HX.out]; rfl, by rw [← HX.out]; exact HS3.out.ck, HS3.out.cf, HS3.out.bl⟩
      ·have z10 : decide (mn < 0) = false := decide_eq_false m0
       by_cases m1 : 40 < mn
       ·have z11 : decide (40 < mn) = true := decide_eq_true m1
        have hbad : badR mn mx = true := by unfold badR; simp; omega
        have HX := Lib.hid (show (c + 1, ns, 2) = R by rw [← HR2.out, HEQ2.out]; simp [hbad])
        clear hbad HEQ2
        (try clear m2)
        go_enter Tryd.func40, Tryd.ntmps40
        go_wp2_with fail
        refine HSH.out.mono ?_
        rintro e w3 ⟨rfl, hb3⟩
        have HS3 := Lib.hid (HS0.out.below hb3)
        clear hb3
        have k0 : w3.cell? ⟨w.heap.size, 0, none⟩ = some (.int .i64 4) := HS3.out.bk.ev 0 (by omega)
        have k1 : w3.cell? ⟨w.heap.size, 1, none⟩ = some (.slice ra rs.length rc) := HS3.out.bk.ev 1 (by omega)
        have k2 : w3.cell? ⟨w.heap.size, 2, none⟩ = some (.string ⟨nm.toArray⟩) := HS3.out.bk.ev 2 (by omega)
        have k3 : w3.cell? ⟨w.heap.size, 3, none⟩ = some (.slice a kids.length cp) := HS3.out.bk.ev 3 (by omega)
        have k4 : w3.cell? ⟨w.heap.size, 4, none⟩ = some (.int .i64 mn) := HS3.out.bk.ev 4 (by omega)
        have k5 : w3.cell? ⟨w.heap.size, 5, none⟩ = some (.int .i64 mx) := HS3.out.bk.ev 5 (by omega)
        go_wp2_with fail
        go_ret
        exact ⟨vn, by rw [← HX.out]; rfl, by rw [← HX.out]; exact HS3.out.ck, HS3.out.cf, HS3.out.bl⟩
       ·have z11 : decide (40 < mn) = false := decide_eq_false m1
        by_cases m2 : mx = -1
        ·have z12 : (mx != -1) = false := by rw [bne_eq_false_iff_eq]; exact m2
         have hbad : badR mn mx = false := by unfold badR; simp; omega
         have HX := Lib.hid (show ckNs kids (d + 1) (c + 1) ns = R by rw [← HR2.out, HEQ2.out]; simp [hbad])
         clear hbad HEQ2
         (try clear m2)
         go_enter Tryd.func40, Tryd.ntmps40
         go_wp2_with fail
         refine HSH.out.mono ?_
         rintro e w3 ⟨rfl, hb3⟩
         have HS3 := Lib.hid (HS0.out.below hb3)
         clear hb3
         have k0 : w3.cell? ⟨w.heap.size, 0, none⟩ = some (.int .i64 4) := HS3.out.bk.ev 0 (by omega)
         have k1 : w3.cell? ⟨w.heap.size, 1, none⟩ = some (.slice ra rs.length rc) := HS3.out.bk.ev 1 (by omega)
         have k2 : w3.cell? ⟨w.heap.size, 2, none⟩ = some (.string ⟨nm.toArray⟩) := HS3.out.bk.ev 2 (by omega)
         have k3 : w3.cell? ⟨w.heap.size, 3, none⟩ = some (.slice a kids.length cp) := HS3.out.bk.ev 3 (by omega)
         have k4 : w3.cell? ⟨w.heap.size, 4, none⟩ = some (.int .i64 mn) := HS3.out.bk.ev 4 (by omega)
         have k5 : w3.cell? ⟨w.heap.size, 5, none⟩ = some (.int .i64 mx) := HS3.out.bk.ev 5 (by omega)
         go_wp2_with fail
         go_loopw [88] (fun i wr => ∃ (k c2 : Nat) (ns2 : List (List UInt8)) (v2 : Value), i = .int .i64 k ∧ k ≤ kids.length ∧ c2 ≤ 400 ∧ ns2.length ≤ c2 ∧ ckNs (kids.drop k) (d + 1) c2 ns2 = R ∧ CK g c2 ns2 v2 wr ∧ CF (· = g) vn v2 w wr ∧ Below w0.heap.size w0 wr) (fun i _ => kids.length - (intOf i).toNat)
         case atStart => exact ⟨0, c + 1, ns, vn, rfl, by omega, by omega, by omega, HX.out, HS3.out.ck, HS3.out.cf, HS3.out.bl⟩
         case round =>
          obtain ⟨k, c2, ns2, v2, rfl, hkl, hc2, hn2, hq, hck2, hcf2, hb2⟩ := hrel
          have HQ := Lib.hid hq
          have HCK2 := Lib.hid hck2
          have HCF2 := Lib.hid hcf2
          have HB2 := Lib.hid hb2
          clear hq hck2 hcf2 hb2
          by_cases hlt : k < kids.length
          ·obtain ⟨blk, off, op', ra', rn', rc', nm', a', n', c1', mn', mx', rfl, hl, c0, c1, c2x, c3, c4, c5, ht⟩ := HK.out k hlt
           have e0 := (HB2.out.cell (p := ⟨blk, off + k * 6, none⟩) hl).trans c0
           have e1 := (HB2.out.cell (p := ⟨blk, off + k * 6 + 1, none⟩) hl).trans c1
           have e2 := (HB2.out.cell (p := ⟨blk, off + k * 6 + 2, none⟩) hl).trans c2x
           have e3 := (HB2.out.cell (p := ⟨blk, off + k * 6 + 3, none⟩) hl).trans c3
           have e4 := (HB2.out.cell (p := ⟨blk, off + k * 6 + 4, none⟩) hl).trans c4
           have e5 := (HB2.out.cell (p := ⟨blk, off + k * 6 + 5, none⟩) hl).trans c5
           have i1 : (k : Int) < (kids.length : Int) := by omega
           have i2 : (0 : Int) ≤ (k : Int) := by omega
           have hal := (Below.refl _ wr).alloc (Nat.le_refl _) (.cells #[.int .i64 op', .slice ra' rn' rc', .string ⟨nm'.toArray⟩, .slice a' n' c1', .int .i64 mn', .int .i64 mx'] 29)
           have HBA := Lib.hid (HB2.out.trans (hal.mono HB2.out.size))
           have HCKA := Lib.hid (HCK2.out.below hal)
           have HCFA := Lib.hid (HCF2.out.trans (CF.of_below hal))
           have hok := ckN_ok _ kids[k] (d + 1) c2 ns2 (Nat.lt_succ_self _) hc2 hn2
           have HI : Hid (Calls Tryd.prog 40 #[.pointer (some ⟨g, 0, none⟩), .agg #[.int .i64 op', .slice ra' rn' rc', .string ⟨nm'.toArray⟩, .slice a' n' c1', .int .i64 mn', .int .i64 mx'], .int .i64 ((d : Int) + 1)] (wr.alloc (.cells #[.int .i64 op', .slice ra' rn' rc', .string ⟨nm'.toArray⟩, .slice a' n' c1', .int .i64 mn', .int .i64 mx'] 29)) (CheckP g w0 (wr.alloc (.cells #[.int .i64 op', .slice ra' rn' rc', .string ⟨nm'.toArray⟩, .slice a' n' c1', .int .i64 mn', .int .i64 mx'] 29)) v2 (ckN kids[k] (d + 1) c2 ns2))) := Lib.hid (IH.out k hlt _ _ (d + 1) c2 ns2 v2 ht HBA.out HCKA.out hc2 hn2 (by omega))
           have HST := Lib.hid (ckNs_step hlt (d + 1) c2 ns2)
           obtain ⟨r, hr⟩ : ∃ r, ckN kids[k] (d + 1) c2 ns2 = r := ⟨_, rfl⟩
           rw [hr] at HI HST hok
           obtain ⟨r1, r2, r3⟩ := r
           simp only at HST
           have HOK := Lib.hid hok
           clear c0 c1 c2x c3 c4 c5 ht hr hal hok
           by_cases h0 : r3 = 0
           ·have HZ := Lib.hid (show ckNs (kids.drop (k + 1)) (d + 1) r1 r2 = R by rw [← HQ.out, HST.out, if_neg (by simpa using h0)])
            have HC1 : Hid (r1 ≤ 400 ∧ r2.length ≤ r1) := Lib.hid ⟨HOK.out.2.2.1 h0, HOK.out.2.1⟩
            subst h0
            go_wp2_with fail
            refine HI.out.mono ?_
            rintro e w4 ⟨v4, rfl, hck4, hcf4, hb4⟩
            have HCK4 := Lib.hid hck4
            have HCF4 := Lib.hid (HCFA.out.trans hcf4)
            have HB4 := Lib.hid hb4
            clear hck4 hcf4 hb4
            go_wp2_with fail
            go_roundw
            case rel => exact ⟨k + 1, r1, r2, v4, by go_num, by omega, HC1.out.1, HC1.out.2, HZ.out, HCK4.out, HCF4.out, HB4.out⟩
            case measure => simp [intOf]; omega
           ·have HZ := Lib.hid (show (r1, r2, r3) = R by rw [← HQ.out, HST.out, if_pos (by simpa using h0)])
            have y1 : ((r3 : Int) != 0) = true := by rw [bne_iff_ne]; omega
            go_wp2_with fail
            refine HI.out.mono ?_
            rintro e w4 ⟨v4, rfl, hck4, hcf4, hb4⟩
            have HCK4 := Lib.hid hck4
            have HCF4 := Lib.hid (HCFA.out.trans hcf4)
            have HB4 := Lib.hid hb4
            clear hck4 hcf4 hb4
            go_wp2_with fail
            go_ret
            exact ⟨v4, by rw [← HZ.out]; rfl, by rw [← HZ.out]; exact HCK4.out, HCF4.out, HB4.out⟩
          ·obtain rfl : k = kids.length := by omega
           have HZ := Lib.hid (show (c2, ns2, 0) = R by rw [← HQ.out, List.drop_length, ckNs])
           go_wp2_with fail
           go_ret
           exact ⟨v2, by rw [← HZ.out]; rfl, by rw [← HZ.out]; exact HCK2.out, HCF2.out, HB2.out⟩
        ·have z12 : (mx != -1) = true := by rw [bne_iff_ne]; exact m2
         by_cases m3 : mx < mn
         ·have z13 : decide (mx < mn) = true := decide_eq_true m3
          have hbad : badR mn mx = true := by unfold badR; simp; omega
          have HX := Lib.hid (show (c + 1, ns, 2) = R by rw [← HR2.out, HEQ2.out]; simp [hbad])
          clear hbad HEQ2
          (try clear m2)
          go_enter Tryd.func40, Tryd.ntmps40
          go_wp2_with fail
          refine HSH.out.mono ?_
          rintro e w3 ⟨rfl, hb3⟩
          have HS3 := Lib.hid (HS0.out.below hb3)
          clear hb3
          have k0 : w3.cell? ⟨w.heap.size, 0, none⟩ = some (.int .i64 4) := HS3.out.bk.ev 0 (by omega)
          have k1 : w3.cell? ⟨w.heap.size, 1, none⟩ = some (.slice ra rs.length rc) := HS3.out.bk.ev 1 (by omega)
          have k2 : w3.cell? ⟨w.heap.size, 2, none⟩ = some (.string ⟨nm.toArray⟩) := HS3.out.bk.ev 2 (by omega)
          have k3 : w3.cell? ⟨w.heap.size, 3, none⟩ = some (.slice a kids.length cp) := HS3.out.bk.ev 3 (by omega)
          have k4 : w3.cell? ⟨w.heap.size, 4, none⟩ = some (.int .i64 mn) := HS3.out.bk.ev 4 (by omega)
          have k5 : w3.cell? ⟨w.heap.size, 5, none⟩ = some (.int .i64 mx) := HS3.out.bk.ev 5 (by omega)
          go_wp2_with fail
          go_ret
          exact ⟨vn, by rw [← HX.out]; rfl, by rw [← HX.out]; exact HS3.out.ck, HS3.out.cf, HS3.out.bl⟩
         ·have z13 : decide (mx < mn) = false := decide_eq_false m3
          by_cases m4 : 40 < mx
          ·have z14 : decide (40 < mx) = true := decide_eq_true m4
           have hbad : badR mn mx = true := by unfold badR; simp; omega
           have HX := Lib.hid (show (c + 1, ns, 2) = R by rw [← HR2.out, HEQ2.out]; simp [hbad])
           clear hbad HEQ2
           (try clear m2)
           go_enter Tryd.func40, Tryd.ntmps40
           go_wp2_with fail
           refine HSH.out.mono ?_
           rintro e w3 ⟨rfl, hb3⟩
           have HS3 := Lib.hid (HS0.out.below hb3)
           clear hb3
           have k0 : w3.cell? ⟨w.heap.size, 0, none⟩ = some (.int .i64 4) := HS3.out.bk.ev 0 (by omega)
           have k1 : w3.cell? ⟨w.heap.size, 1, none⟩ = some (.slice ra rs.length rc) := HS3.out.bk.ev 1 (by omega)
           have k2 : w3.cell? ⟨w.heap.size, 2, none⟩ = some (.string ⟨nm.toArray⟩) := HS3.out.bk.ev 2 (by omega)
           have k3 : w3.cell? ⟨w.heap.size, 3, none⟩ = some (.slice a kids.length cp) := HS3.out.bk.ev 3 (by omega)
           have k4 : w3.cell? ⟨w.heap.size, 4, none⟩ = some (.int .i64 mn) := HS3.out.bk.ev 4 (by omega)
           have k5 : w3.cell? ⟨w.heap.size, 5, none⟩ = some (.int .i64 mx) := HS3.out.bk.ev 5 (by omega)
           go_wp2_with fail
           go_ret
           exact ⟨vn, by rw [← HX.out]; rfl, by rw [← HX.out]; exact HS3.out.ck, HS3.out.cf, HS3.out.bl⟩
          ·have z14 : decide (40 < mx) = false := decide_eq_false m4
           have hbad : badR mn mx = false := by unfold badR; simp; omega
           have HX := Lib.hid (show ckNs kids (d + 1) (c + 1) ns = R by rw [← HR2.out, HEQ2.out]; simp [hbad])
           clear hbad HEQ2
           (try clear m2)
           go_enter Tryd.func40, Tryd.ntmps40
           go_wp2_with fail
           refine HSH.out.mono ?_
           rintro e w3 ⟨rfl, hb3⟩
           have HS3 := Lib.hid (HS0.out.below hb3)
           clear hb3
           have k0 : w3.cell? ⟨w.heap.size, 0, none⟩ = some (.int .i64 4) := HS3.out.bk.ev 0 (by omega)
           have k1 : w3.cell? ⟨w.heap.size, 1, none⟩ = some (.slice ra rs.length rc) := HS3.out.bk.ev 1 (by omega)
           have k2 : w3.cell? ⟨w.heap.size, 2, none⟩ = some (.string ⟨nm.toArray⟩) := HS3.out.bk.ev 2 (by omega)
           have k3 : w3.cell? ⟨w.heap.size, 3, none⟩ = some (.slice a kids.length cp) := HS3.out.bk.ev 3 (by omega)
           have k4 : w3.cell? ⟨w.heap.size, 4, none⟩ = some (.int .i64 mn) := HS3.out.bk.ev 4 (by omega)
           have k5 : w3.cell? ⟨w.heap.size, 5, none⟩ = some (.int .i64 mx) := HS3.out.bk.ev 5 (by omega)
           go_wp2_with fail
           go_loopw [88] (fun i wr => ∃ (k c2 : Nat) (ns2 : List (List UInt8)) (v2 : Value), i = .int .i64 k ∧ k ≤ kids.length ∧ c2 ≤ 400 ∧ ns2.length ≤ c2 ∧ ckNs (kids.drop k) (d + 1) c2 ns2 = R ∧ CK g c2 ns2 v2 wr ∧ CF (· = g) vn v2 w wr ∧ Below w0.heap.size w0 wr) (fun i _ => kids.length - (intOf i).toNat)
           case atStart => exact ⟨0, c + 1, ns, vn, rfl, by omega, by omega, by omega, HX.out, HS3.out.ck, HS3.out.cf, HS3.out.bl⟩
           case round =>
            obtain ⟨k, c2, ns2, v2, rfl, hkl, hc2, hn2, hq, hck2, hcf2, hb2⟩ := hrel
            have HQ := Lib.hid hq
            have HCK2 := Lib.hid hck2
            have HCF2 := Lib.hid hcf2
            have HB2 := Lib.hid hb2
            clear hq hck2 hcf2 hb2
            by_cases hlt : k < kids.length
            ·obtain ⟨blk, off, op', ra', rn', rc', nm', a', n', c1', mn', mx', rfl, hl, c0, c1, c2x, c3, c4, c5, ht⟩ := HK.out k hlt
             have e0 := (HB2.out.cell (p := ⟨blk, off + k * 6, none⟩) hl).trans c0
             have e1 := (HB2.out.cell (p := ⟨blk, off + k * 6 + 1, none⟩) hl).trans c1
             have e2 := (HB2.out.cell (p := ⟨blk, off + k * 6 + 2, none⟩) hl).trans c2x
             have e3 := (HB2.out.cell (p := ⟨blk, off + k * 6 + 3, none⟩) hl).trans c3
             have e4 := (HB2.out.cell (p := ⟨blk, off + k * 6 + 4, none⟩) hl).trans c4
             have e5 := (HB2.out.cell (p := ⟨blk, off + k * 6 + 5, none⟩) hl).trans c5
             have i1 : (k : Int) < (kids.length : Int) := by omega
             have i2 : (0 : Int) ≤ (k : Int) := by omega
             have hal := (Below.refl _ wr).alloc (Nat.le_refl _) (.cells #[.int .i64 op', .slice ra' rn' rc', .string ⟨nm'.toArray⟩, .slice a' n' c1', .int .i64 mn', .int .i64 mx'] 29)
             have HBA := Lib.hid (HB2.out.trans (hal.mono HB2.out.size))
             have HCKA := Lib.hid (HCK2.out.below hal)
             have HCFA := Lib.hid (HCF2.out.trans (CF.of_below hal))
             have hok := ckN_ok _ kids[k] (d + 1) c2 ns2 (Nat.lt_succ_self _) hc2 hn2
             have HI : Hid (Calls Tryd.prog 40 #[.pointer (some ⟨g, 0, none⟩), .agg #[.int .i64 op', .slice ra' rn' rc', .string ⟨nm'.toArray⟩, .slice a' n' c1', .int .i64 mn', .int .i64 mx'], .int .i64 ((d : Int) + 1)] (wr.alloc (.cells #[.int .i64 op', .slice ra' rn' rc', .string ⟨nm'.toArray⟩, .slice a' n' c1', .int .i64 mn', .int .i64 mx'] 29)) (CheckP g w0 (wr.alloc (.cells #[.int .i64 op', .slice ra' rn' rc', .string ⟨nm'.toArray⟩, .slice a' n' c1', .int .i64 mn', .int .i64 mx'] 29)) v2 (ckN kids[k] (d + 1) c2 ns2))) := Lib.hid (IH.out k hlt _ _ (d + 1) c2 ns2 v2 ht HBA.out HCKA.out hc2 hn2 (by omega))
             have HST := Lib.hid (ckNs_step hlt (d + 1) c2 ns2)
             obtain ⟨r, hr⟩ : ∃ r, ckN kids[k] (d + 1) c2 ns2 = r := ⟨_, rfl⟩
             rw [hr] at HI HST hok
             obtain ⟨r1, r2, r3⟩ := r
             simp only at HST
             have HOK := Lib.hid hok
             clear c0 c1 c2x c3 c4 c5 ht hr hal hok
             by_cases h0 : r3 = 0
             ·have HZ := Lib.hid (show ckNs (kids.drop (k + 1)) (d + 1) r1 r2 = R by rw [← HQ.out, HST.out, if_neg (by simpa using h0)])
              have HC1 : Hid (r1 ≤ 400 ∧ r2.length ≤ r1) := Lib.hid ⟨HOK.out.2.2.1 h0, HOK.out.2.1⟩
              subst h0
              go_wp2_with fail
              refine HI.out.mono ?_
              rintro e w4 ⟨v4, rfl, hck4, hcf4, hb4⟩
              have HCK4 := Lib.hid hck4
              have HCF4 := Lib.hid (HCFA.out.trans hcf4)
              have HB4 := Lib.hid hb4
              clear hck4 hcf4 hb4
              go_wp2_with fail
              go_roundw
              case rel => exact ⟨k + 1, r1, r2, v4, by go_num, by omega, HC1.out.1, HC1.out.2, HZ.out, HCK4.out, HCF4.out, HB4.out⟩
              case measure => simp [intOf]; omega
             ·have HZ := Lib.hid (show (r1, r2, r3) = R by rw [← HQ.out, HST.out, if_pos (by simpa using h0)])
              have y1 : ((r3 : Int) != 0) = true := by rw [bne_iff_ne]; omega
              go_wp2_with fail
              refine HI.out.mono ?_
              rintro e w4 ⟨v4, rfl, hck4, hcf4, hb4⟩
              have HCK4 := Lib.hid hck4
              have HCF4 := Lib.hid (HCFA.out.trans hcf4)
              have HB4 := Lib.hid hb4
              clear hck4 hcf4 hb4
              go_wp2_with fail
              go_ret
              exact ⟨v4, by rw [← HZ.out]; rfl, by rw [← HZ.out]; exact HCK4.out, HCF4.out, HB4.out⟩
            ·obtain rfl : k = kids.length := by omega
             have HZ := Lib.hid (show (c2, ns2, 0) = R by rw [← HQ.out, List.drop_length, ckNs])
             go_wp2_with fail
             go_ret
             exact ⟨v2, by rw [← HZ.out]; rfl, by rw [← HZ.out]; exact HCK2.out, HCF2.out, HB2.out⟩
     ·have y4 : (op == 4) = false := by rw [beq_eq_false_iff_ne]; exact h4
      have HX := Lib.hid (show ckNs kids (d + 1) (c + 1) ns = R by rw [← HR2.out, HEQ2.out]; simp [h4, h5])
      clear HEQ2 h4 h5
      go_enter Tryd.func40, Tryd.ntmps40
      go_wp2_with fail
      refine HSH.out.mono ?_
      rintro e w3 ⟨rfl, hb3⟩
      have HS3 := Lib.hid (HS0.out.below hb3)
      clear hb3
      have k0 : w3.cell? ⟨w.heap.size, 0, none⟩ = some (.int .i64 op) := HS3.out.bk.ev 0 (by omega)
      have k1 : w3.cell? ⟨w.heap.size, 1, none⟩ = some (.slice ra rs.length rc) := HS3.out.bk.ev 1 (by omega)
      have k2 : w3.cell? ⟨w.heap.size, 2, none⟩ = some (.string ⟨nm.toArray⟩) := HS3.out.bk.ev 2 (by omega)
      have k3 : w3.cell? ⟨w.heap.size, 3, none⟩ = some (.slice a kids.length cp) := HS3.out.bk.ev 3 (by omega)
      have k4 : w3.cell? ⟨w.heap.size, 4, none⟩ = some (.int .i64 mn) := HS3.out.bk.ev 4 (by omega)
      have k5 : w3.cell? ⟨w.heap.size, 5, none⟩ = some (.int .i64 mx) := HS3.out.bk.ev 5 (by omega)
      go_wp2_with fail
      go_loopw [88] (fun i wr => ∃ (k c2 : Nat) (ns2 : List (List UInt8)) (v2 : Value), i = .int .i64 k ∧ k ≤ kids.length ∧ c2 ≤ 400 ∧ ns2.length ≤ c2 ∧ ckNs (kids.drop k) (d + 1) c2 ns2 = R ∧ CK g c2 ns2 v2 wr ∧ CF (· = g) vn v2 w wr ∧ Below w0.heap.size w0 wr) (fun i _ => kids.length - (intOf i).toNat)
      case atStart => exact ⟨0, c + 1, ns, vn, rfl, by omega, by omega, by omega, HX.out, HS3.out.ck, HS3.out.cf, HS3.out.bl⟩
      case round =>
       obtain ⟨k, c2, ns2, v2, rfl, hkl, hc2, hn2, hq, hck2, hcf2, hb2⟩ := hrel
       have HQ := Lib.hid hq
       have HCK2 := Lib.hid hck2
       have HCF2 := Lib.hid hcf2
       have HB2 := Lib.hid hb2
       clear hq hck2 hcf2 hb2
       by_cases hlt : k < kids.length
       ·obtain ⟨blk, off, op', ra', rn', rc', nm', a', n', c1', mn', mx', rfl, hl, c0, c1, c2x, c3, c4, c5, ht⟩ := HK.out k hlt
        have e0 := (HB2.out.cell (p := ⟨blk, off + k * 6, none⟩) hl).trans c0
        have e1 := (HB2.out.cell (p := ⟨blk, off + k * 6 + 1, none⟩) hl).trans c1
        have e2 := (HB2.out.cell (p := ⟨blk, off + k * 6 + 2, none⟩) hl).trans c2x
        have e3 := (HB2.out.cell (p := ⟨blk, off + k * 6 + 3, none⟩) hl).trans c3
        have e4 := (HB2.out.cell (p := ⟨blk, off + k * 6 + 4, none⟩) hl).trans c4
        have e5 := (HB2.out.cell (p := ⟨blk, off + k * 6 + 5, none⟩) hl).trans c5
        have i1 : (k : Int) < (kids.length : Int) := by omega
        have i2 : (0 : Int) ≤ (k : Int) := by omega
        have hal := (Below.refl _ wr).alloc (Nat.le_refl _) (.cells #[.int .i64 op', .slice ra' rn' rc', .string ⟨nm'.toArray⟩, .slice a' n' c1', .int .i64 mn', .int .i64 mx'] 29)
        have HBA := Lib.hid (HB2.out.trans (hal.mono HB2.out.size))
        have HCKA := Lib.hid (HCK2.out.below hal)
        have HCFA := Lib.hid (HCF2.out.trans (CF.of_below hal))
        have hok := ckN_ok _ kids[k] (d + 1) c2 ns2 (Nat.lt_succ_self _) hc2 hn2
        have HI : Hid (Calls Tryd.prog 40 #[.pointer (some ⟨g, 0, none⟩), .agg #[.int .i64 op', .slice ra' rn' rc', .string ⟨nm'.toArray⟩, .slice a' n' c1', .int .i64 mn', .int .i64 mx'], .int .i64 ((d : Int) + 1)] (wr.alloc (.cells #[.int .i64 op', .slice ra' rn' rc', .string ⟨nm'.toArray⟩, .slice a' n' c1', .int .i64 mn', .int .i64 mx'] 29)) (CheckP g w0 (wr.alloc (.cells #[.int .i64 op', .slice ra' rn' rc', .string ⟨nm'.toArray⟩, .slice a' n' c1', .int .i64 mn', .int .i64 mx'] 29)) v2 (ckN kids[k] (d + 1) c2 ns2))) := Lib.hid (IH.out k hlt _ _ (d + 1) c2 ns2 v2 ht HBA.out HCKA.out hc2 hn2 (by omega))
        have HST := Lib.hid (ckNs_step hlt (d + 1) c2 ns2)
        obtain ⟨r, hr⟩ : ∃ r, ckN kids[k] (d + 1) c2 ns2 = r := ⟨_, rfl⟩
        rw [hr] at HI HST hok
        obtain ⟨r1, r2, r3⟩ := r
        simp only at HST
        have HOK := Lib.hid hok
        clear c0 c1 c2x c3 c4 c5 ht hr hal hok
        by_cases h0 : r3 = 0
        ·have HZ := Lib.hid (show ckNs (kids.drop (k + 1)) (d + 1) r1 r2 = R by rw [← HQ.out, HST.out, if_neg (by simpa using h0)])
         have HC1 : Hid (r1 ≤ 400 ∧ r2.length ≤ r1) := Lib.hid ⟨HOK.out.2.2.1 h0, HOK.out.2.1⟩
         subst h0
         go_wp2_with fail
         refine HI.out.mono ?_
         rintro e w4 ⟨v4, rfl, hck4, hcf4, hb4⟩
         have HCK4 := Lib.hid hck4
         have HCF4 := Lib.hid (HCFA.out.trans hcf4)
         have HB4 := Lib.hid hb4
         clear hck4 hcf4 hb4
         go_wp2_with fail
         go_roundw
         case rel => exact ⟨k + 1, r1, r2, v4, by go_num, by omega, HC1.out.1, HC1.out.2, HZ.out, HCK4.out, HCF4.out, HB4.out⟩
         case measure => simp [intOf]; omega
        ·have HZ := Lib.hid (show (r1, r2, r3) = R by rw [← HQ.out, HST.out, if_pos (by simpa using h0)])
         have y1 : ((r3 : Int) != 0) = true := by rw [bne_iff_ne]; omega
         go_wp2_with fail
         refine HI.out.mono ?_
         rintro e w4 ⟨v4, rfl, hck4, hcf4, hb4⟩
         have HCK4 := Lib.hid hck4
         have HCF4 := Lib.hid (HCFA.out.trans hcf4)
         have HB4 := Lib.hid hb4
         clear hck4 hcf4 hb4
         go_wp2_with fail
         go_ret
         exact ⟨v4, by rw [← HZ.out]; rfl, by rw [← HZ.out]; exact HCK4.out, HCF4.out, HB4.out⟩
       ·obtain rfl : k = kids.length := by omega
        have HZ := Lib.hid (show (c2, ns2, 0) = R by rw [← HQ.out, List.drop_length, ckNs])
        go_wp2_with fail
        go_ret
        exact ⟨v2, by rw [← HZ.out]; rfl, by rw [← HZ.out]; exact HCK2.out, HCF2.out, HB2.out⟩
end Go.Proofs.YtihdnlpelfgklaaDoor

/-
  The shape of a node, for the reference (Repeat, Capture).
-/
import Derived.Test.YtphbkompnddflaaGreatDoorPatH
import Derived.BigQuiet
namespace Go.Proofs.YtphbkompnddflaaGreatDoor
open Go.RowKit

set_option maxRecDepth 100000 in
set_option maxHeartbeats 4000000 in
theorem rshape_4 (rs : List (UInt8 × UInt8)) (nm : List UInt8) (n : Nat) (mn mx : Int) (ra : Option Addr) (rc : Nat) (a : Option Addr) (c : Nat) (w : World) (hr : RgAt w rs (.slice ra rs.length rc)) (_ : nm.length ≤ 9223372036854775807) :
    Calls Tryz.prog 56 #[.agg #[.int .i64 4, .slice ra rs.length rc, .string ⟨nm.toArray⟩, .slice a n c, .int .i64 mn, .int .i64 mx]] w fun e w' => e = .returned (.int .i64 (shE 4 rs nm n mn mx)) ∧ Below w.heap.size w w' := by
  obtain ⟨B, hB⟩ : ∃ B, shE 4 rs nm n mn mx = B := ⟨_, rfl⟩
  rw [hB]
  have HB := Lib.hid hB
  have HB0 := Lib.hid ((Below.refl _ w).alloc (Nat.le_refl _) (.cells #[.int .i64 4, .slice ra rs.length rc, .string ⟨nm.toArray⟩, .slice a n c, .int .i64 mn, .int .i64 mx] 25))
  have HS := Lib.hid fun W (hb : Below w.heap.size w W) => sorted_any rs (.slice ra rs.length rc) W (hr.later hb)
  have HC : Hid (∀ W, Below (w.heap.size + 1) (w.alloc (.cells #[.int .i64 4, .slice ra rs.length rc, .string ⟨nm.toArray⟩, .slice a n c, .int .i64 mn, .int .i64 mx] 25)) W → ∀ i u, (#[.int .i64 4, .slice ra rs.length rc, .string ⟨nm.toArray⟩, .slice a n c, .int .i64 mn, .int .i64 mx] : Array Value)[i]? = some u → W.cell? ⟨w.heap.size, i, none⟩ = some u) := Lib.hid (fun W hb i u hu => (hb.cell (p := ⟨w.heap.size, i, none⟩) (Nat.lt_succ_self _)).trans (by simp [go_sem]; simpa using hu))
  have HSH := Lib.hid (shp_4 rs nm n mn mx)
  clear hB hr
  by_cases k0 : n = 1
  · have y1 : ((n : Int) != 1) = false := by rw [bne_eq_false_iff_eq]; omega
    have HBR := Lib.hid (bare_any 4 rs nm n mn mx ra rc a c)
    cases b0 : bareB 4 rs nm mn mx
    · rw [b0] at HBR
      have HX : Hid (1 = B) := Lib.hid (by rw [← HB.out]; unfold shE; rw [HSH.out]; simp [*])
      (try clear kk); (try clear k0); (try clear r0); (try clear b0); (try clear e0); (try clear m0); (try clear m1); (try clear m2); (try clear m3); (try clear m4)
      go_enter Tryz.func56, Tryz.ntmps56
      go_wp2_with fail
      refine (HBR.out _).mono ?_
      rintro e w3 ⟨rfl, hb3⟩
      have HWw3 : Hid (Below (w.heap.size + 1) (w.alloc (.cells #[.int .i64 4, .slice ra rs.length rc, .string ⟨nm.toArray⟩, .slice a n c, .int .i64 mn, .int .i64 mx] 25)) w3) := Lib.hid (by simpa using hb3)
      have HB3 := Lib.hid (HB0.out.trans (hb3.mono HB0.out.size))
      clear hb3
      have kw30 : w3.cell? ⟨w.heap.size, 0, none⟩ = some (.int .i64 4) := HC.out _ HWw3.out 0 _ rfl
      have kw31 : w3.cell? ⟨w.heap.size, 1, none⟩ = some (.slice ra rs.length rc) := HC.out _ HWw3.out 1 _ rfl
      have kw32 : w3.cell? ⟨w.heap.size, 2, none⟩ = some (.string ⟨nm.toArray⟩) := HC.out _ HWw3.out 2 _ rfl
      have kw33 : w3.cell? ⟨w.heap.size, 3, none⟩ = some (.slice a n c) := HC.out _ HWw3.out 3 _ rfl
      have kw34 : w3.cell? ⟨w.heap.size, 4, none⟩ = some (.int .i64 mn) := HC.out _ HWw3.out 4 _ rfl
      have kw35 : w3.cell? ⟨w.heap.size, 5, none⟩ = some (.int .i64 mx) := HC.out _ HWw3.out 5 _ rfl
      go_wp2_with fail
      go_ret
      exact ⟨ret_int (by rw [← HX.out]; rfl), HB3.out⟩
    · rw [b0] at HBR
      by_cases m0 : mn < 0
      · have z0 : decide (mn < 0) = true := decide_eq_true m0
        have hbad : badR mn mx = true := by unfold badR; simp; omega
        have HX : Hid (2 = B) := Lib.hid (by rw [← HB.out]; unfold shE; rw [HSH.out, hbad]; simp [k0, b0])
        clear hbad
        (try clear kk); (try clear k0); (try clear r0); (try clear b0); (try clear e0); (try clear m0); (try clear m1); (try clear m2); (try clear m3); (try clear m4)
        go_enter Tryz.func56, Tryz.ntmps56
        go_wp2_with fail
        refine (HBR.out _).mono ?_
        rintro e w3 ⟨rfl, hb3⟩
        have HWw3 : Hid (Below (w.heap.size + 1) (w.alloc (.cells #[.int .i64 4, .slice ra rs.length rc, .string ⟨nm.toArray⟩, .slice a n c, .int .i64 mn, .int .i64 mx] 25)) w3) := Lib.hid (by simpa using hb3)
        have HB3 := Lib.hid (HB0.out.trans (hb3.mono HB0.out.size))
        clear hb3
        have kw30 : w3.cell? ⟨w.heap.size, 0, none⟩ = some (.int .i64 4) := HC.out _ HWw3.out 0 _ rfl
        have kw31 : w3.cell? ⟨w.heap.size, 1, none⟩ = some (.slice ra rs.length rc) := HC.out _ HWw3.out 1 _ rfl
        have kw32 : w3.cell? ⟨w.heap.size, 2, none⟩ = some (.string ⟨nm.toArray⟩) := HC.out _ HWw3.out 2 _ rfl
        have kw33 : w3.cell? ⟨w.heap.size, 3, none⟩ = some (.slice a n c) := HC.out _ HWw3.out 3 _ rfl
        have kw34 : w3.cell? ⟨w.heap.size, 4, none⟩ = some (.int .i64 mn) := HC.out _ HWw3.out 4 _ rfl
        have kw35 : w3.cell? ⟨w.heap.size, 5, none⟩ = some (.int .i64 mx) := HC.out _ HWw3.out 5 _ rfl
        go_wp2_with fail
        go_ret
        exact ⟨ret_int (by rw [← HX.out]; rfl), HB3.out⟩
      · have z0 : decide (mn < 0) = false := decide_eq_false m0
        by_cases m1 : 40 < mn
        · have z1 : decide (40 < mn) = true := decide_eq_true m1
          have hbad : badR mn mx = true := by unfold badR; simp; omega
          have HX : Hid (2 = B) := Lib.hid (by rw [← HB.out]; unfold shE; rw [HSH.out, hbad]; simp [k0, b0])
          clear hbad
          (try clear kk); (try clear k0); (try clear r0); (try clear b0); (try clear e0); (try clear m0); (try clear m1); (try clear m2); (try clear m3); (try clear m4)
          go_enter Tryz.func56, Tryz.ntmps56
          go_wp2_with fail
          refine (HBR.out _).mono ?_
          rintro e w3 ⟨rfl, hb3⟩
          have HWw3 : Hid (Below (w.heap.size + 1) (w.alloc (.cells #[.int .i64 4, .slice ra rs.length rc, .string ⟨nm.toArray⟩, .slice a n c, .int .i64 mn, .int .i64 mx] 25)) w3) := Lib.hid (by simpa using hb3)
          have HB3 := Lib.hid (HB0.out.trans (hb3.mono HB0.out.size))
          clear hb3
          have kw30 : w3.cell? ⟨w.heap.size, 0, none⟩ = some (.int .i64 4) := HC.out _ HWw3.out 0 _ rfl
          have kw31 : w3.cell? ⟨w.heap.size, 1, none⟩ = some (.slice ra rs.length rc) := HC.out _ HWw3.out 1 _ rfl
          have kw32 : w3.cell? ⟨w.heap.size, 2, none⟩ = some (.string ⟨nm.toArray⟩) := HC.out _ HWw3.out 2 _ rfl
          have kw33 : w3.cell? ⟨w.heap.size, 3, none⟩ = some (.slice a n c) := HC.out _ HWw3.out 3 _ rfl
          have kw34 : w3.cell? ⟨w.heap.size, 4, none⟩ = some (.int .i64 mn) := HC.out _ HWw3.out 4 _ rfl
          have kw35 : w3.cell? ⟨w.heap.size, 5, none⟩ = some (.int .i64 mx) := HC.out _ HWw3.out 5 _ rfl
          go_wp2_with fail
          go_ret
          exact ⟨ret_int (by rw [← HX.out]; rfl), HB3.out⟩
        · have z1 : decide (40 < mn) = false := decide_eq_false m1
          by_cases m2 : mx = -1
          · have z2 : (mx != -1) = false := by rw [bne_eq_false_iff_eq]; exact m2
            have hbad : badR mn mx = false := by unfold badR; simp; omega
            have HX : Hid (0 = B) := Lib.hid (by rw [← HB.out]; unfold shE; rw [HSH.out, hbad]; simp [k0, b0])
            clear hbad
            (try clear kk); (try clear k0); (try clear r0); (try clear b0); (try clear e0); (try clear m0); (try clear m1); (try clear m2); (try clear m3); (try clear m4)
            go_enter Tryz.func56, Tryz.ntmps56
            go_wp2_with fail
            refine (HBR.out _).mono ?_
            rintro e w3 ⟨rfl, hb3⟩
            have HWw3 : Hid (Below (w.heap.size + 1) (w.alloc (.cells #[.int .i64 4, .slice ra rs.length rc, .string ⟨nm.toArray⟩, .slice a n c, .int .i64 mn, .int .i64 mx] 25)) w3) := Lib.hid (by simpa using hb3)
            have HB3 := Lib.hid (HB0.out.trans (hb3.mono HB0.out.size))
            clear hb3
            have kw30 : w3.cell? ⟨w.heap.size, 0, none⟩ = some (.int .i64 4) := HC.out _ HWw3.out 0 _ rfl
            have kw31 : w3.cell? ⟨w.heap.size, 1, none⟩ = some (.slice ra rs.length rc) := HC.out _ HWw3.out 1 _ rfl
            have kw32 : w3.cell? ⟨w.heap.size, 2, none⟩ = some (.string ⟨nm.toArray⟩) := HC.out _ HWw3.out 2 _ rfl
            have kw33 : w3.cell? ⟨w.heap.size, 3, none⟩ = some (.slice a n c) := HC.out _ HWw3.out 3 _ rfl
            have kw34 : w3.cell? ⟨w.heap.size, 4, none⟩ = some (.int .i64 mn) := HC.out _ HWw3.out 4 _ rfl
            have kw35 : w3.cell? ⟨w.heap.size, 5, none⟩ = some (.int .i64 mx) := HC.out _ HWw3.out 5 _ rfl
            go_wp2_with fail
            go_ret
            exact ⟨ret_int (by rw [← HX.out]; rfl), HB3.out⟩
          · have z2 : (mx != -1) = true := by rw [bne_iff_ne]; exact m2
            by_cases m3 : mx < mn
            · have z3 : decide (mx < mn) = true := decide_eq_true m3
              have hbad : badR mn mx = true := by unfold badR; simp; omega
              have HX : Hid (2 = B) := Lib.hid (by rw [← HB.out]; unfold shE; rw [HSH.out, hbad]; simp [k0, b0])
              clear hbad
              (try clear kk); (try clear k0); (try clear r0); (try clear b0); (try clear e0); (try clear m0); (try clear m1); (try clear m2); (try clear m3); (try clear m4)
              go_enter Tryz.func56, Tryz.ntmps56
              go_wp2_with fail
              refine (HBR.out _).mono ?_
              rintro e w3 ⟨rfl, hb3⟩
              have HWw3 : Hid (Below (w.heap.size + 1) (w.alloc (.cells #[.int .i64 4, .slice ra rs.length rc, .string ⟨nm.toArray⟩, .slice a n c, .int .i64 mn, .int .i64 mx] 25)) w3) := Lib.hid (by simpa using hb3)
              have HB3 := Lib.hid (HB0.out.trans (hb3.mono HB0.out.size))
              clear hb3
              have kw30 : w3.cell? ⟨w.heap.size, 0, none⟩ = some (.int .i64 4) := HC.out _ HWw3.out 0 _ rfl
              have kw31 : w3.cell? ⟨w.heap.size, 1, none⟩ = some (.slice ra rs.length rc) := HC.out _ HWw3.out 1 _ rfl
              have kw32 : w3.cell? ⟨w.heap.size, 2, none⟩ = some (.string ⟨nm.toArray⟩) := HC.out _ HWw3.out 2 _ rfl
              have kw33 : w3.cell? ⟨w.heap.size, 3, none⟩ = some (.slice a n c) := HC.out _ HWw3.out 3 _ rfl
              have kw34 : w3.cell? ⟨w.heap.size, 4, none⟩ = some (.int .i64 mn) := HC.out _ HWw3.out 4 _ rfl
              have kw35 : w3.cell? ⟨w.heap.size, 5, none⟩ = some (.int .i64 mx) := HC.out _ HWw3.out 5 _ rfl
              go_wp2_with fail
              go_ret
              exact ⟨ret_int (by rw [← HX.out]; rfl), HB3.out⟩
            · have z3 : decide (mx < mn) = false := decide_eq_false m3
              by_cases m4 : 40 < mx
              · have z4 : decide (40 < mx) = true := decide_eq_true m4
                have hbad : badR mn mx = true := by unfold badR; simp; omega
                have HX : Hid (2 = B) := Lib.hid (by rw [← HB.out]; unfold shE; rw [HSH.out, hbad]; simp [k0, b0])
                clear hbad
                (try clear kk); (try clear k0); (try clear r0); (try clear b0); (try clear e0); (try clear m0); (try clear m1); (try clear m2); (try clear m3); (try clear m4)
                go_enter Tryz.func56, Tryz.ntmps56
                go_wp2_with fail
                refine (HBR.out _).mono ?_
                rintro e w3 ⟨rfl, hb3⟩
                have HWw3 : Hid (Below (w.heap.size + 1) (w.alloc (.cells #[.int .i64 4, .slice ra rs.length rc, .string ⟨nm.toArray⟩, .slice a n c, .int .i64 mn, .int .i64 mx] 25)) w3) := Lib.hid (by simpa using hb3)
                have HB3 := Lib.hid (HB0.out.trans (hb3.mono HB0.out.size))
                clear hb3
                have kw30 : w3.cell? ⟨w.heap.size, 0, none⟩ = some (.int .i64 4) := HC.out _ HWw3.out 0 _ rfl
                have kw31 : w3.cell? ⟨w.heap.size, 1, none⟩ = some (.slice ra rs.length rc) := HC.out _ HWw3.out 1 _ rfl
                have kw32 : w3.cell? ⟨w.heap.size, 2, none⟩ = some (.string ⟨nm.toArray⟩) := HC.out _ HWw3.out 2 _ rfl
                have kw33 : w3.cell? ⟨w.heap.size, 3, none⟩ = some (.slice a n c) := HC.out _ HWw3.out 3 _ rfl
                have kw34 : w3.cell? ⟨w.heap.size, 4, none⟩ = some (.int .i64 mn) := HC.out _ HWw3.out 4 _ rfl
                have kw35 : w3.cell? ⟨w.heap.size, 5, none⟩ = some (.int .i64 mx) := HC.out _ HWw3.out 5 _ rfl
                go_wp2_with fail
                go_ret
                exact ⟨ret_int (by rw [← HX.out]; rfl), HB3.out⟩
              · have z4 : decide (40 < mx) = false := decide_eq_false m4
                have hbad : badR mn mx = false := by unfold badR; simp; omega
                have HX : Hid (0 = B) := Lib.hid (by rw [← HB.out]; unfold shE; rw [HSH.out, hbad]; simp [k0, b0])
                clear hbad
                (try clear kk); (try clear k0); (try clear r0); (try clear b0); (try clear e0); (try clear m0); (try clear m1); (try clear m2); (try clear m3); (try clear m4)
                go_enter Tryz.func56, Tryz.ntmps56
                go_wp2_with fail
                refine (HBR.out _).mono ?_
                rintro e w3 ⟨rfl, hb3⟩
                have HWw3 : Hid (Below (w.heap.size + 1) (w.alloc (.cells #[.int .i64 4, .slice ra rs.length rc, .string ⟨nm.toArray⟩, .slice a n c, .int .i64 mn, .int .i64 mx] 25)) w3) := Lib.hid (by simpa using hb3)
                have HB3 := Lib.hid (HB0.out.trans (hb3.mono HB0.out.size))
                clear hb3
                have kw30 : w3.cell? ⟨w.heap.size, 0, none⟩ = some (.int .i64 4) := HC.out _ HWw3.out 0 _ rfl
                have kw31 : w3.cell? ⟨w.heap.size, 1, none⟩ = some (.slice ra rs.length rc) := HC.out _ HWw3.out 1 _ rfl
                have kw32 : w3.cell? ⟨w.heap.size, 2, none⟩ = some (.string ⟨nm.toArray⟩) := HC.out _ HWw3.out 2 _ rfl
                have kw33 : w3.cell? ⟨w.heap.size, 3, none⟩ = some (.slice a n c) := HC.out _ HWw3.out 3 _ rfl
                have kw34 : w3.cell? ⟨w.heap.size, 4, none⟩ = some (.int .i64 mn) := HC.out _ HWw3.out 4 _ rfl
                have kw35 : w3.cell? ⟨w.heap.size, 5, none⟩ = some (.int .i64 mx) := HC.out _ HWw3.out 5 _ rfl
                go_wp2_with fail
                go_ret
                exact ⟨ret_int (by rw [← HX.out]; rfl), HB3.out⟩
  · have y1 : ((n : Int) != 1) = true := by rw [bne_iff_ne]; omega
    have HX : Hid (1 = B) := Lib.hid (by rw [← HB.out]; unfold shE; rw [HSH.out]; simp [*])
    (try clear kk); (try clear k0); (try clear r0); (try clear b0); (try clear e0); (try clear m0); (try clear m1); (try clear m2); (try clear m3); (try clear m4)
    go_enter Tryz.func56, Tryz.ntmps56
    go_wp2_with fail
    go_ret
    exact ⟨ret_int (by rw [← HX.out]; rfl), HB0.out⟩
set_option maxRecDepth 100000 in
set_option maxHeartbeats 4000000 in
theorem rshape_5 (rs : List (UInt8 × UInt8)) (nm : List UInt8) (n : Nat) (mn mx : Int) (ra : Option Addr) (rc : Nat) (a : Option Addr) (c : Nat) (w : World) (hr : RgAt w rs (.slice ra rs.length rc)) (hml : nm.length ≤ 9223372036854775807) :
    Calls Tryz.prog 56 #[.agg #[.int .i64 5, .slice ra rs.length rc, .string ⟨nm.toArray⟩, .slice a n c, .int .i64 mn, .int .i64 mx]] w fun e w' => e = .returned (.int .i64 (shE 5 rs nm n mn mx)) ∧ Below w.heap.size w w' := by
  obtain ⟨B, hB⟩ : ∃ B, shE 5 rs nm n mn mx = B := ⟨_, rfl⟩
  rw [hB]
  have HB := Lib.hid hB
  have HB0 := Lib.hid ((Below.refl _ w).alloc (Nat.le_refl _) (.cells #[.int .i64 5, .slice ra rs.length rc, .string ⟨nm.toArray⟩, .slice a n c, .int .i64 mn, .int .i64 mx] 25))
  have HS := Lib.hid fun W (hb : Below w.heap.size w W) => sorted_any rs (.slice ra rs.length rc) W (hr.later hb)
  have HC : Hid (∀ W, Below (w.heap.size + 1) (w.alloc (.cells #[.int .i64 5, .slice ra rs.length rc, .string ⟨nm.toArray⟩, .slice a n c, .int .i64 mn, .int .i64 mx] 25)) W → ∀ i u, (#[.int .i64 5, .slice ra rs.length rc, .string ⟨nm.toArray⟩, .slice a n c, .int .i64 mn, .int .i64 mx] : Array Value)[i]? = some u → W.cell? ⟨w.heap.size, i, none⟩ = some u) := Lib.hid (fun W hb i u hu => (hb.cell (p := ⟨w.heap.size, i, none⟩) (Nat.lt_succ_self _)).trans (by simp [go_sem]; simpa using hu))
  have HSH := Lib.hid (shp_5 rs nm n mn mx)
  clear hB hr
  by_cases k0 : n = 1
  · have y1 : ((n : Int) != 1) = false := by rw [bne_eq_false_iff_eq]; omega
    have HBR := Lib.hid (bare_any 5 rs nm n mn mx ra rc a c)
    cases b0 : bareB 5 rs nm mn mx
    · rw [b0] at HBR
      have HX : Hid (1 = B) := Lib.hid (by rw [← HB.out]; unfold shE; rw [HSH.out]; simp [*])
      (try clear kk); (try clear k0); (try clear r0); (try clear b0); (try clear e0); (try clear m0); (try clear m1); (try clear m2); (try clear m3); (try clear m4)
      go_enter Tryz.func56, Tryz.ntmps56
      go_wp2_with fail
      refine (HBR.out _).mono ?_
      rintro e w3 ⟨rfl, hb3⟩
      have HWw3 : Hid (Below (w.heap.size + 1) (w.alloc (.cells #[.int .i64 5, .slice ra rs.length rc, .string ⟨nm.toArray⟩, .slice a n c, .int .i64 mn, .int .i64 mx] 25)) w3) := Lib.hid (by simpa using hb3)
      have HB3 := Lib.hid (HB0.out.trans (hb3.mono HB0.out.size))
      clear hb3
      have kw30 : w3.cell? ⟨w.heap.size, 0, none⟩ = some (.int .i64 5) := HC.out _ HWw3.out 0 _ rfl
      have kw31 : w3.cell? ⟨w.heap.size, 1, none⟩ = some (.slice ra rs.length rc) := HC.out _ HWw3.out 1 _ rfl
      have kw32 : w3.cell? ⟨w.heap.size, 2, none⟩ = some (.string ⟨nm.toArray⟩) := HC.out _ HWw3.out 2 _ rfl
      have kw33 : w3.cell? ⟨w.heap.size, 3, none⟩ = some (.slice a n c) := HC.out _ HWw3.out 3 _ rfl
      have kw34 : w3.cell? ⟨w.heap.size, 4, none⟩ = some (.int .i64 mn) := HC.out _ HWw3.out 4 _ rfl
      have kw35 : w3.cell? ⟨w.heap.size, 5, none⟩ = some (.int .i64 mx) := HC.out _ HWw3.out 5 _ rfl
      go_wp2_with fail
      go_ret
      exact ⟨ret_int (by rw [← HX.out]; rfl), HB3.out⟩
    · rw [b0] at HBR
      have HNM := Lib.hid fun W => rname_any nm W hml
      cases e0 : nmB nm
      · rw [e0] at HNM
        have HX : Hid (6 = B) := Lib.hid (by rw [← HB.out]; unfold shE; rw [HSH.out]; simp [*])
        (try clear kk); (try clear k0); (try clear r0); (try clear b0); (try clear e0); (try clear m0); (try clear m1); (try clear m2); (try clear m3); (try clear m4)
        go_enter Tryz.func56, Tryz.ntmps56
        go_wp2_with fail
        refine (HBR.out _).mono ?_
        rintro e w3 ⟨rfl, hb3⟩
        have HWw3 : Hid (Below (w.heap.size + 1) (w.alloc (.cells #[.int .i64 5, .slice ra rs.length rc, .string ⟨nm.toArray⟩, .slice a n c, .int .i64 mn, .int .i64 mx] 25)) w3) := Lib.hid (by simpa using hb3)
        have HB3 := Lib.hid (HB0.out.trans (hb3.mono HB0.out.size))
        clear hb3
        have kw30 : w3.cell? ⟨w.heap.size, 0, none⟩ = some (.int .i64 5) := HC.out _ HWw3.out 0 _ rfl
        have kw31 : w3.cell? ⟨w.heap.size, 1, none⟩ = some (.slice ra rs.length rc) := HC.out _ HWw3.out 1 _ rfl
        have kw32 : w3.cell? ⟨w.heap.size, 2, none⟩ = some (.string ⟨nm.toArray⟩) := HC.out _ HWw3.out 2 _ rfl
        have kw33 : w3.cell? ⟨w.heap.size, 3, none⟩ = some (.slice a n c) := HC.out _ HWw3.out 3 _ rfl
        have kw34 : w3.cell? ⟨w.heap.size, 4, none⟩ = some (.int .i64 mn) := HC.out _ HWw3.out 4 _ rfl
        have kw35 : w3.cell? ⟨w.heap.size, 5, none⟩ = some (.int .i64 mx) := HC.out _ HWw3.out 5 _ rfl
        go_wp2_with fail
        refine (HNM.out w3).mono ?_
        rintro e w4 ⟨rfl, rfl⟩
        go_wp2_with fail
        go_ret
        exact ⟨ret_int (by rw [← HX.out]; rfl), HB3.out⟩
      · rw [e0] at HNM
        have HX : Hid (0 = B) := Lib.hid (by rw [← HB.out]; unfold shE; rw [HSH.out]; simp [*])
        (try clear kk); (try clear k0); (try clear r0); (try clear b0); (try clear e0); (try clear m0); (try clear m1); (try clear m2); (try clear m3); (try clear m4)
        go_enter Tryz.func56, Tryz.ntmps56
        go_wp2_with fail
        refine (HBR.out _).mono ?_
        rintro e w3 ⟨rfl, hb3⟩
        have HWw3 : Hid (Below (w.heap.size + 1) (w.alloc (.cells #[.int .i64 5, .slice ra rs.length rc, .string ⟨nm.toArray⟩, .slice a n c, .int .i64 mn, .int .i64 mx] 25)) w3) := Lib.hid (by simpa using hb3)
        have HB3 := Lib.hid (HB0.out.trans (hb3.mono HB0.out.size))
        clear hb3
        have kw30 : w3.cell? ⟨w.heap.size, 0, none⟩ = some (.int .i64 5) := HC.out _ HWw3.out 0 _ rfl
        have kw31 : w3.cell? ⟨w.heap.size, 1, none⟩ = some (.slice ra rs.length rc) := HC.out _ HWw3.out 1 _ rfl
        have kw32 : w3.cell? ⟨w.heap.size, 2, none⟩ = some (.string ⟨nm.toArray⟩) := HC.out _ HWw3.out 2 _ rfl
        have kw33 : w3.cell? ⟨w.heap.size, 3, none⟩ = some (.slice a n c) := HC.out _ HWw3.out 3 _ rfl
        have kw34 : w3.cell? ⟨w.heap.size, 4, none⟩ = some (.int .i64 mn) := HC.out _ HWw3.out 4 _ rfl
        have kw35 : w3.cell? ⟨w.heap.size, 5, none⟩ = some (.int .i64 mx) := HC.out _ HWw3.out 5 _ rfl
        go_wp2_with fail
        refine (HNM.out w3).mono ?_
        rintro e w4 ⟨rfl, rfl⟩
        go_wp2_with fail
        go_ret
        exact ⟨ret_int (by rw [← HX.out]; rfl), HB3.out⟩
  · have y1 : ((n : Int) != 1) = true := by rw [bne_iff_ne]; omega
    have HX : Hid (1 = B) := Lib.hid (by rw [← HB.out]; unfold shE; rw [HSH.out]; simp [*])
    (try clear kk); (try clear k0); (try clear r0); (try clear b0); (try clear e0); (try clear m0); (try clear m1); (try clear m2); (try clear m3); (try clear m4)
    go_enter Tryz.func56, Tryz.ntmps56
    go_wp2_with fail
    go_ret
    exact ⟨ret_int (by rw [← HX.out]; rfl), HB0.out⟩

end Go.Proofs.YtphbkompnddflaaGreatDoor

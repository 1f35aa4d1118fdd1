/-
  The sanity check of the calendar's statements, and the walk of CalendarFollows.
-/
import Derived.Test.YtplbaffcgkjmjaaDoorCalH
namespace Go.Proofs.YtplbaffcgkjmjaaDoor
open Go.RowKit Go.Sort

theorem fmt_0_60 : fmtL 0 60 = [49, 57, 55, 48, 45, 48, 49, 45, 48, 49, 84, 48, 49, 58, 48, 48, 58, 48, 48, 46, 48, 48, 48, 43, 48, 49, 58, 48, 48] := by
  have e : Cal.civ (dayOf 0 60) = (1970, 1, 1) := Cal.civ_eq (by decide +kernel) (by decide +kernel)
  unfold fmtL
  rw [e]
  decide +kernel
theorem dat_0_60 : datB 0 60 = true := by decide +kernel
theorem num_2000 : Cal.num 2000 3 1 = 11017 := by decide +kernel
theorem vld_2000 : Cal.vldB 2000 3 1 = true := by decide +kernel

theorem awake_any (w : World) (hg : G w) :
    Calls Tryd.prog 6 #[] w fun e w' => e = .returned (.bool true) ∧ Below w.heap.size w w' := by
  have hD : Hid (∀ W, G W → Calls Tryd.prog 9 #[.int .i64 2000, .int .i64 3, .int .i64 1] W fun e w' => e = .returned (.tuple #[.int .i64 11017, .bool true]) ∧ Qt W w') := by
    intro W hW
    have := days_yes 2000 3 1 W hW.tab vld_2000
    rw [num_2000] at this
    exact this
  have hF : Hid (∀ W, G W → Calls Tryd.prog 18 #[.int .i64 0, .int .i64 60] W fun e w' => e = .returned (.tuple #[.string ⟨[49, 57, 55, 48, 45, 48, 49, 45, 48, 49, 84, 48, 49, 58, 48, 48, 58, 48, 48, 46, 48, 48, 48, 43, 48, 49, 58, 48, 48].toArray⟩, .int .i64 0]) ∧ Below W.heap.size W w') := by
    intro W hW
    have := format_yes 0 60 W hW dat_0_60
    rw [fmt_0_60] at this
    exact this
  have HG := Lib.hid hg
  clear hg
  go_enter Tryd.func6, Tryd.ntmps6
  go_wp2_with (first | (go_at_call 9; refine (hD.out _ HG.out).mono ?_; rintro e w1 ⟨rfl, hq⟩) | (go_at_call 18; refine (hF.out _ (HG.out.qt hq)).mono ?_; rintro e w2 ⟨rfl, hb⟩))
  go_ret
  exact ⟨by simp, (hq.below _).trans (hb.mono (by rw [hq.size]; exact Nat.le_refl _))⟩

theorem near_bd (n lo hi : Int) (h : lo ≤ hi) : lo ≤ lo + n % (hi - lo + 1) ∧ lo + n % (hi - lo + 1) ≤ hi := by
  have e1 := Int.emod_nonneg n (show hi - lo + 1 ≠ 0 by omega)
  have e2 := Int.emod_lt_of_pos n (show 0 < hi - lo + 1 by omega)
  omega
theorem wkd_succ (k : Int) : wkd (k + 1) = (wkd k + 1) % 7 := by unfold wkd; omega

theorem follows_any (n : Int) (w : World) (hg : G w) :
    Calls Tryd.prog 3 #[.int .i64 n] w fun e w' => e = .returned (.bool true) ∧ Below w.heap.size w w' := by
  obtain ⟨k, hk⟩ : ∃ k, k = -719162 + n % (2932895 - (-719162) + 1) := ⟨_, rfl⟩
  have k1 : -719162 ≤ k := hk ▸ (near_bd n (-719162) 2932895 (by decide)).1
  have k2 : k ≤ 2932895 := hk ▸ (near_bd n (-719162) 2932895 (by decide)).2
  have hN : Hid (∀ W, Calls Tryd.prog 7 #[.int .i64 n, .int .i64 (-719162), .int .i64 2932895] W fun e w' => e = .returned (.int .i64 k) ∧ W = w') := by
    intro W; rw [hk]; exact near_any n (-719162) 2932895 W (by omega) (by omega) (by omega)
  clear hk
  have hv := Cal.civ_spec k1 (by omega : k ≤ 2932896)
  have hfo := Cal.follows k1 k2
  have hC1 : ∀ W, G W → Calls Tryd.prog 8 #[.int .i64 k] W (CivPost k W) := fun W hW => civil_yes k W hW.tab k1 (by omega)
  have hC2 : ∀ W, G W → Calls Tryd.prog 8 #[.int .i64 (k + 1)] W (CivPost (k + 1) W) := fun W hW => civil_yes (k + 1) W hW.tab (by omega) (by omega)
  unfold CivPost at hC1 hC2
  generalize Cal.civ k = p at *
  obtain ⟨y, m, d⟩ := p
  generalize Cal.civ (k + 1) = q at *
  obtain ⟨v, u, t⟩ := q
  dsimp only at hv hfo hC1 hC2
  have HC1 := Lib.hid hC1
  have HC2 := Lib.hid hC2
  have HD : Hid (∀ W, G W → Calls Tryd.prog 9 #[.int .i64 y, .int .i64 m, .int .i64 d] W fun e w' => e = .returned (.tuple #[.int .i64 k, .bool true]) ∧ Qt W w') := by
    intro W hW
    have := days_yes y m d W hW.tab hv.1
    rw [hv.2] at this
    exact this
  have hm := Cal.vld_month hv.1
  have hv' := (Cal.vld_iff _ _ _).1 hv.1
  obtain ⟨y1, y2, d1, d2⟩ := hv'
  obtain ⟨m1, m2⟩ := hm
  have d3 := (Cal.dim_nonneg y m).2
  have d4 : d ≤ 31 := by omega
  have HL := Lib.hid fun W (hW : G W) => length_any y m W hW.tab (by omega) (by omega)
  have q1 : 0 ≤ wkd k := by unfold wkd; omega
  have q2 : wkd k ≤ 6 := by unfold wkd; omega
  have HW1 := Lib.hid fun W => weekday_any k W
  have HW2 : Hid (∀ W, Calls Tryd.prog 10 #[.int .i64 (k + 1)] W fun e w' => e = .returned (.int .i64 ((wkd k + 1) % 7)) ∧ W = w') := by
    intro W; rw [← wkd_succ]; exact weekday_any (k + 1) W
  have HA := Lib.hid awake_any
  have HG := Lib.hid hg
  generalize wkd k = s at *
  clear hC1 hC2 hv d2 hg
  by_cases c : 1 < t
  · obtain ⟨rfl, rfl, rfl⟩ := hfo.1 c
    clear hfo HL
    go_enter Tryd.func3, Tryd.ntmps3
    go_wp2_with fail
    refine (HA.out _ HG.out).mono ?_
    rintro e w1 ⟨rfl, hb1⟩
    have G1 := Lib.hid (HG.out.below hb1)
    go_wp2_with fail
    refine (hN.out _).mono ?_
    rintro e w' ⟨rfl, rfl⟩
    go_wp2_with fail
    refine (HC1.out _ G1.out).mono ?_
    rintro e w2 ⟨rfl, hq2⟩
    have G2 := Lib.hid (G1.out.qt hq2)
    go_wp2_with fail
    refine (HC2.out _ G2.out).mono ?_
    rintro e w3 ⟨rfl, hq3⟩
    have G3 := Lib.hid (G2.out.qt hq3)
    go_wp2_with fail
    refine (HD.out _ G3.out).mono ?_
    rintro e w4 ⟨rfl, hq4⟩
    have G4 := Lib.hid (G3.out.qt hq4)
    go_wp2_with fail
    refine (HW2.out _).mono ?_
    rintro e w' ⟨rfl, rfl⟩
    go_wp2_with fail
    refine (HW1.out _).mono ?_
    rintro e w' ⟨rfl, rfl⟩
    go_wp2_with fail
    go_ret
    exact ⟨rfl, hb1.trans (((hq2.trans hq3).trans hq4).below _)⟩
  · obtain ⟨h1, h2⟩ := hfo.2 c
    rw [← h1] at HL
    clear hfo h1
    rcases h2 with ⟨rfl, rfl⟩ | ⟨rfl, rfl, rfl⟩
    · have c' : decide (1 < t) = false := by simpa using c
      go_enter Tryd.func3, Tryd.ntmps3
      go_wp2_with fail
      refine (HA.out _ HG.out).mono ?_
      rintro e w1 ⟨rfl, hb1⟩
      have G1 := Lib.hid (HG.out.below hb1)
      go_wp2_with fail
      refine (hN.out _).mono ?_
      rintro e w' ⟨rfl, rfl⟩
      go_wp2_with fail
      refine (HC1.out _ G1.out).mono ?_
      rintro e w2 ⟨rfl, hq2⟩
      have G2 := Lib.hid (G1.out.qt hq2)
      go_wp2_with fail
      refine (HC2.out _ G2.out).mono ?_
      rintro e w3 ⟨rfl, hq3⟩
      have G3 := Lib.hid (G2.out.qt hq3)
      go_wp2_with fail
      refine (HD.out _ G3.out).mono ?_
      rintro e w4 ⟨rfl, hq4⟩
      have G4 := Lib.hid (G3.out.qt hq4)
      go_wp2_with fail
      refine (HW2.out _).mono ?_
      rintro e w' ⟨rfl, rfl⟩
      go_wp2_with fail
      refine (HW1.out _).mono ?_
      rintro e w' ⟨rfl, rfl⟩
      go_wp2_with fail
      refine (HL.out _ G4.out).mono ?_
      rintro e w5 ⟨rfl, hq5⟩
      go_wp2_with fail
      go_ret
      exact ⟨rfl, hb1.trans ((((hq2.trans hq3).trans hq4).trans hq5).below _)⟩
    · have c' : decide (1 < t) = false := by simpa using c
      go_enter Tryd.func3, Tryd.ntmps3
      go_wp2_with fail
      refine (HA.out _ HG.out).mono ?_
      rintro e w1 ⟨rfl, hb1⟩
      have G1 := Lib.hid (HG.out.below hb1)
      go_wp2_with fail
      refine (hN.out _).mono ?_
      rintro e w' ⟨rfl, rfl⟩
      go_wp2_with fail
      refine (HC1.out _ G1.out).mono ?_
      rintro e w2 ⟨rfl, hq2⟩
      have G2 := Lib.hid (G1.out.qt hq2)
      go_wp2_with fail
      refine (HC2.out _ G2.out).mono ?_
      rintro e w3 ⟨rfl, hq3⟩
      have G3 := Lib.hid (G2.out.qt hq3)
      go_wp2_with fail
      refine (HD.out _ G3.out).mono ?_
      rintro e w4 ⟨rfl, hq4⟩
      have G4 := Lib.hid (G3.out.qt hq4)
      go_wp2_with fail
      refine (HW2.out _).mono ?_
      rintro e w' ⟨rfl, rfl⟩
      go_wp2_with fail
      refine (HW1.out _).mono ?_
      rintro e w' ⟨rfl, rfl⟩
      go_wp2_with fail
      refine (HL.out _ G4.out).mono ?_
      rintro e w5 ⟨rfl, hq5⟩
      go_wp2_with fail
      go_ret
      exact ⟨rfl, hb1.trans ((((hq2.trans hq3).trans hq4).trans hq5).below _)⟩

end Go.Proofs.YtplbaffcgkjmjaaDoor

/-
  The reference's Days, Civil, Check, Millis.
-/
import Derived.Test.YtplbaffcgkjmjaaDoorCalK
namespace Go.Proofs.YtplbaffcgkjmjaaDoor
open Go.RowKit Go.Sort

theorem rdays_no (y m d : Int) (w : World) (h : Cal.vldB y m d = false) :
    Calls Tryd.prog 25 #[.int .i64 y, .int .i64 m, .int .i64 d] w fun e w' => e = .returned (.tuple #[.int .i64 0, .bool false]) ∧ w = w' := by
  have hn : ¬ (1 ≤ y ∧ y ≤ 9999 ∧ 1 ≤ d ∧ d ≤ Cal.dim y m) := fun c => by rw [(Cal.vld_iff y m d).2 c] at h; exact absurd h (by decide)
  clear h
  by_cases a : y < 1
  · go_enter Tryd.func25, Tryd.ntmps25
    go_wp2_with fail
    go_ret2
    exact ⟨rfl, rfl⟩
  · have a' : 1 ≤ y := by omega
    by_cases b : 9999 < y
    · go_enter Tryd.func25, Tryd.ntmps25
      go_wp2_with fail
      go_ret2
      exact ⟨rfl, rfl⟩
    · have b' : y ≤ 9999 := by omega
      by_cases c : d < 1
      · go_enter Tryd.func25, Tryd.ntmps25
        go_wp2_with fail
        go_ret2
        exact ⟨rfl, rfl⟩
      · have c' : 1 ≤ d := by omega
        have g : Cal.dim y m < d := by omega
        clear hn a b c
        go_enter Tryd.func25, Tryd.ntmps25
        go_wp2_with (go_at_call 30; refine (rlength_any _ _ _ (by omega) (by omega)).mono ?_; rintro e w' ⟨rfl, rfl⟩)
        go_ret2
        exact ⟨rfl, rfl⟩

theorem rdays_yes (y m d : Int) (w : World) (h : Cal.vldB y m d = true) :
    Calls Tryd.prog 25 #[.int .i64 y, .int .i64 m, .int .i64 d] w fun e w' => e = .returned (.tuple #[.int .i64 (Cal.num y m d), .bool true]) ∧ w = w' := by
  obtain ⟨y1, y2, d1, d2⟩ := (Cal.vld_iff y m d).1 h
  obtain ⟨m1, m2⟩ := Cal.vld_month h
  obtain ⟨b1, b2⟩ := Cal.dby_bd y y1 (by omega)
  have hb1 : 719162 ≤ Cal.dby 1970 := by rw [Cal.dby_1970]; omega
  have hb2 : Cal.dby 1970 ≤ 719162 := by rw [Cal.dby_1970]; omega
  have d3 := (Cal.dim_nonneg y m).2
  clear h
  go_enter Tryd.func25, Tryd.ntmps25
  go_wp2_with (first | (go_at_call 30; refine (rlength_any _ _ _ (by omega) (by omega)).mono ?_; rintro e w' ⟨rfl, rfl⟩) | (go_at_call 31; refine (before_any _ _ (by omega) (by omega)).mono ?_; rintro e w' ⟨rfl, rfl⟩))
  go_loop [8, 9] (fun n k => ∃ j : Int, 1 ≤ j ∧ j ≤ m ∧ k = .int .i64 j ∧ n = .int .i64 (Cal.dby y - Cal.dby 1970 + d - 1 + Cal.cum y j)) (fun _ k => (12 - intOf k).toNat)
  case atStart => exact ⟨1, by omega, by omega, rfl, by rw [Cal.cum_1]; simp⟩
  case round =>
    obtain ⟨j, hj1, hj2, rfl, rfl⟩ := hrel
    obtain ⟨cb1, cb2⟩ := Cal.cum_bd y j hj1 (by omega)
    obtain ⟨db1, db2⟩ := Cal.dim_nonneg y j
    have cs := Lib.hid (Cal.cum_succ y j hj1 (by omega))
    by_cases hlt : j < m
    · go_wp2_with (go_at_call 30; refine (rlength_any _ _ _ (by omega) (by omega)).mono ?_; rintro e w' ⟨rfl, rfl⟩)
      go_round
      case rel => exact ⟨j + 1, by omega, by omega, rfl, by rw [cs.out]; congr 1; omega⟩
      case measure => simp [intOf]; omega
    · obtain rfl : j = m := by omega
      go_wp2_with fail
      go_ret2
      exact ⟨by rw [show Cal.num y j d = Cal.dby y - Cal.dby 1970 + d - 1 + Cal.cum y j by unfold Cal.num; rw [Cal.dby_1970]; omega]; rfl, rfl⟩

theorem rcivil_no (n : Int) (w : World) (h : n < -719162 ∨ 2932896 < n) :
    Calls Tryd.prog 26 #[.int .i64 n] w fun e w' => e = .returned (.tuple #[.int .i64 0, .int .i64 0, .int .i64 0, .bool false]) ∧ w = w' := by
  have hb1 : 719162 ≤ Cal.dby 1970 := by rw [Cal.dby_1970]; omega
  have hb2 : Cal.dby 1970 ≤ 719162 := by rw [Cal.dby_1970]; omega
  have hd1 : 3652059 ≤ Cal.dby 10000 := by rw [Cal.dby_10000]; omega
  have hd2 : Cal.dby 10000 ≤ 3652059 := by rw [Cal.dby_10000]; omega
  rcases h with h | h
  · go_enter Tryd.func26, Tryd.ntmps26
    go_wp2_with (go_at_call 31; refine (before_any _ _ (by omega) (by omega)).mono ?_; rintro e w' ⟨rfl, rfl⟩)
    refine bodyPost_ret (res4 rfl _ _ _) rfl ?_
    exact ⟨rfl, rfl⟩
  · have h' : ¬ n < -719162 := by omega
    go_enter Tryd.func26, Tryd.ntmps26
    go_wp2_with (go_at_call 31; refine (before_any _ _ (by omega) (by omega)).mono ?_; rintro e w' ⟨rfl, rfl⟩)
    refine bodyPost_ret (res4 rfl _ _ _) rfl ?_
    exact ⟨rfl, rfl⟩

theorem rcivil_yes (n : Int) (w : World) (h1 : -719162 ≤ n) (h2 : n ≤ 2932896) :
    Calls Tryd.prog 26 #[.int .i64 n] w (CivPost n w) := by
  have hb1 : 719162 ≤ Cal.dby 1970 := by rw [Cal.dby_1970]; omega
  have hb2 : Cal.dby 1970 ≤ 719162 := by rw [Cal.dby_1970]; omega
  have hd1 : 3652059 ≤ Cal.dby 10000 := by rw [Cal.dby_10000]; omega
  have hd2 : Cal.dby 10000 ≤ 3652059 := by rw [Cal.dby_10000]; omega
  obtain ⟨N, hN⟩ : ∃ N, N = n + 719162 := ⟨_, rfl⟩
  have eN : Hid (n + Cal.dby 1970 = N) := by show n + Cal.dby 1970 = N; rw [Cal.dby_1970]; omega
  have n1 : 0 ≤ N := by omega
  have n2 : N < 3652059 := by omega
  have hd1' : Cal.dby 1 ≤ N := by have : Cal.dby 1 = 0 := by decide +kernel
                                  omega
  have HN := Lib.hid hN
  clear hN
  go_enter Tryd.func26, Tryd.ntmps26
  go_wp2_with (go_at_call 31; refine (before_any _ _ (by omega) (by omega)).mono ?_; rintro e w' ⟨rfl, rfl⟩)
  rw [eN.out]
  go_loop [7, 8] (fun l h => ∃ a b : Int, 1 ≤ a ∧ a ≤ b ∧ b ≤ 9999 ∧ Cal.dby a ≤ N ∧ N < Cal.dby (b + 1) ∧ l = .int .i64 a ∧ h = .int .i64 b) (fun l h => (intOf h - intOf l).toNat)
  case atStart => exact ⟨1, 9999, by omega, by omega, by omega, hd1', by show N < Cal.dby 10000; omega, rfl, rfl⟩
  case round =>
    obtain ⟨a, b, ha, hab, hb, hda, hdb, rfl, rfl⟩ := hrel
    by_cases hlt : a < b
    · by_cases hc : Cal.dby ((a + b + 1) / 2) ≤ N
      · go_wp2_with (go_at_call 31; refine (before_any _ _ (by omega) (by omega)).mono ?_; rintro e w' ⟨rfl, rfl⟩)
        go_round
        case rel => exact ⟨(a + b + 1) / 2, b, by omega, by omega, by omega, hc, hdb, rfl, rfl⟩
        case measure => simp [intOf]; omega
      · go_wp2_with (go_at_call 31; refine (before_any _ _ (by omega) (by omega)).mono ?_; rintro e w' ⟨rfl, rfl⟩)
        go_round
        case rel => exact ⟨a, (a + b + 1) / 2 - 1, by omega, by omega, by omega, hda, by rw [show (a + b + 1) / 2 - 1 + 1 = (a + b + 1) / 2 by omega]; omega, rfl, rfl⟩
        case measure => simp [intOf]; omega
    · obtain rfl : a = b := by omega
      obtain ⟨hb1, hb2⟩ := Cal.dby_bd a ha (by omega)
      have hs := Lib.hid (Cal.dby_succ a)
      obtain ⟨hl1, hl2⟩ := Cal.lp_01 a
      go_wp2_with (go_at_call 31; refine (before_any _ _ (by omega) (by omega)).mono ?_; rintro e w' ⟨rfl, rfl⟩)
      go_loop [6, 10] (fun r k => ∃ m : Int, 1 ≤ m ∧ m ≤ 12 ∧ k = .int .i64 m ∧ 0 ≤ N - Cal.dby a - Cal.cum a m ∧ r = .int .i64 (N - Cal.dby a - Cal.cum a m)) (fun _ k => (12 - intOf k).toNat)
      case atStart => exact ⟨1, by omega, by omega, rfl, by rw [Cal.cum_1]; omega, by rw [Cal.cum_1]; simp⟩
      case round =>
        obtain ⟨m, hm1, hm2, rfl, hr, rfl⟩ := hrel
        obtain ⟨cb1, cb2⟩ := Cal.cum_bd a m hm1 (by omega)
        obtain ⟨db1, db2⟩ := Cal.dim_nonneg a m
        have cs := Lib.hid (Cal.cum_succ a m hm1 hm2)
        by_cases hd : Cal.dim a m ≤ N - Cal.dby a - Cal.cum a m
        · have hm : m < 12 := by
            rcases Int.lt_or_le m 12 with c | c
            · exact c
            · obtain rfl : m = 12 := by omega
              have := Cal.cum_end a
              have := hs.out
              omega
          go_wp2_with (go_at_call 30; refine (rlength_any _ _ _ (by omega) (by omega)).mono ?_; rintro e w' ⟨rfl, rfl⟩)
          go_round
          case rel => exact ⟨m + 1, by omega, by omega, rfl, by rw [cs.out]; omega, by rw [cs.out]; go_num⟩
          case measure => simp [intOf]; omega
        · go_wp2_with (go_at_call 30; refine (rlength_any _ _ _ (by omega) (by omega)).mono ?_; rintro e w' ⟨rfl, rfl⟩)
          refine bodyPost_ret (res4 rfl _ _ _) rfl ?_
          have eN := HN.out
          subst eN
          exact civPost_of ha hb hr (by omega) (Qt.refl _)

end Go.Proofs.YtplbaffcgkjmjaaDoor

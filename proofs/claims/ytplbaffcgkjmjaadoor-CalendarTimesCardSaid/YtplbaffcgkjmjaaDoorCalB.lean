/-
  valid, Days and Civil of the calendar and of its reference, each by one contract.
-/
import Derived.Test.YtplbaffcgkjmjaaDoorCalA
namespace Go.Proofs.YtplbaffcgkjmjaaDoor
open Go.RowKit

theorem vld_yes {y m d : Int} (a : 1 ≤ y) (b : y ≤ 9999) (c : 1 ≤ d) (e : d ≤ Cal.dim y m) : Cal.vldB y m d = true := (Cal.vld_iff _ _ _).2 ⟨a, b, c, e⟩
theorem vld_no {y m d : Int} (h : ¬ (1 ≤ y ∧ y ≤ 9999 ∧ 1 ≤ d ∧ d ≤ Cal.dim y m)) : Cal.vldB y m d = false := by
  rw [Bool.eq_false_iff]; exact fun c => h ((Cal.vld_iff _ _ _).1 c)

theorem valid_any (y m d : Int) (w : World) (ht : Tab w) :
    Calls Tryd.prog 22 #[.int .i64 y, .int .i64 m, .int .i64 d] w fun e w' => e = .returned (.bool (Cal.vldB y m d)) ∧ Qt w w' := by
  by_cases a : 1 ≤ y
  · by_cases b : y ≤ 9999
    · by_cases c : 1 ≤ d
      · by_cases g : d ≤ Cal.dim y m
        all_goals
          have hf := Lib.hid (show Cal.vldB y m d = _ from by first | exact vld_yes a b c g | exact vld_no (fun x => g x.2.2.2))
          have hc := Lib.hid (length_any y m w ht (by omega) (by omega))
          go_enter Tryd.func22, Tryd.ntmps22
          go_wp2_with (go_at_call 11; refine hc.out.mono ?_; rintro e w1 ⟨rfl, hq⟩)
          go_ret
          exact ⟨ret_bool (by rw [hf.out]; try (simp; omega)), hq⟩
      · have hf := Lib.hid (vld_no (y := y) (m := m) (d := d) (fun x => c x.2.2.1))
        go_enter Tryd.func22, Tryd.ntmps22
        go_wp2
        go_ret
        exact ⟨ret_bool (by rw [hf.out]), Qt.refl _⟩
    · have hf := Lib.hid (vld_no (y := y) (m := m) (d := d) (fun x => b x.2.1))
      go_enter Tryd.func22, Tryd.ntmps22
      go_wp2
      go_ret
      exact ⟨ret_bool (by rw [hf.out]), Qt.refl _⟩
  · have hf := Lib.hid (vld_no (y := y) (m := m) (d := d) (fun x => a x.1))
    go_enter Tryd.func22, Tryd.ntmps22
    go_wp2
    go_ret
    exact ⟨ret_bool (by rw [hf.out]), Qt.refl _⟩

theorem days_no (y m d : Int) (w : World) (ht : Tab w) (h : Cal.vldB y m d = false) :
    Calls Tryd.prog 9 #[.int .i64 y, .int .i64 m, .int .i64 d] w fun e w' => e = .returned (.tuple #[.int .i64 0, .bool false]) ∧ Qt w w' := by
  have hc := Lib.hid (valid_any y m d w ht)
  have hh := Lib.hid h
  clear h ht
  go_enter Tryd.func9, Tryd.ntmps9
  go_wp2_with (go_at_call 22; refine hc.out.mono ?_; rintro e w1 ⟨rfl, hq⟩; rw [hh.out])
  go_ret2
  exact ⟨rfl, hq⟩

theorem days_yes (y m d : Int) (w : World) (ht : Tab w) (h : Cal.vldB y m d = true) :
    Calls Tryd.prog 9 #[.int .i64 y, .int .i64 m, .int .i64 d] w fun e w' => e = .returned (.tuple #[.int .i64 (Cal.num y m d), .bool true]) ∧ Qt w w' := by
  have hc := Lib.hid (valid_any y m d w ht)
  have hh := Lib.hid h
  obtain ⟨y1, y2, d1, d2⟩ := (Cal.vld_iff y m d).1 h
  obtain ⟨m1, m2⟩ := Cal.vld_month h
  obtain ⟨b1, b2⟩ := Cal.dby_bd y y1 (by omega)
  obtain ⟨b3, b4⟩ := Cal.cum0_bd m m1 (by omega)
  have db := (Cal.dim_nonneg y m).2
  have HT := Lib.hid ht
  clear h ht
  by_cases g : 2 < m
  · cases hl : Cal.lpB y
    all_goals
      have hl' := Lib.hid hl
      clear hl
      have hf := Lib.hid (show Cal.num y m d = _ from by unfold Cal.num Cal.cum Cal.lp; rw [if_pos g, hl'.out])
      go_enter Tryd.func9, Tryd.ntmps9
      go_wp2_with (go_at_call 22; refine hc.out.mono ?_; rintro e w1 ⟨rfl, hq⟩; rw [hh.out])
      have c1 := (HT.out.qt hq).at m (by omega) (by omega)
      go_quiet ((go_at_call 21; exact q_same (start_any _ _ (by omega) (by omega))))
      go_wp2_with (go_at_call 23; refine (leap_any _ _ (by omega) (by omega)).mono ?_; rintro e w' ⟨rfl, rfl⟩; rw [hl'.out])
      go_ret2
      exact ⟨by rw [hf.out]; simp; try omega, hq.trans (Qt.drewN _ _)⟩
  · have hf := Lib.hid (show Cal.num y m d = _ from by unfold Cal.num Cal.cum; rw [if_neg g])
    have g' : m ≤ 2 := by omega
    go_enter Tryd.func9, Tryd.ntmps9
    go_wp2_with (go_at_call 22; refine hc.out.mono ?_; rintro e w1 ⟨rfl, hq⟩; rw [hh.out])
    have c1 := (HT.out.qt hq).at m (by omega) (by omega)
    go_quiet ((go_at_call 21; exact q_same (start_any _ _ (by omega) (by omega))))
    go_wp2
    go_ret2
    exact ⟨by rw [hf.out]; simp; try omega, hq.trans (Qt.drewN _ _)⟩

theorem civil_no (n : Int) (w : World) (h : n < -719162 ∨ 2932896 < n) :
    Calls Tryd.prog 8 #[.int .i64 n] w fun e w' => e = .returned (.tuple #[.int .i64 0, .int .i64 0, .int .i64 0, .bool false]) ∧ Qt w w' := by
  rcases h with h | h
  · go_enter Tryd.func8, Tryd.ntmps8
    go_wp2_with fail
    refine bodyPost_ret (res4 rfl _ _ _) rfl ?_
    exact ⟨rfl, Qt.refl _⟩
  · have h' : ¬ n < -719162 := by omega
    have hd := Cal.dby_10000
    have hd1 : 3652059 ≤ Cal.dby 10000 := by omega
    have hd2 : Cal.dby 10000 ≤ 3652059 := by omega
    clear hd
    go_enter Tryd.func8, Tryd.ntmps8
    go_wp2_with (go_at_call 21; refine (start_any _ _ (by omega) (by omega)).mono ?_; rintro e w' ⟨rfl, rfl⟩)
    refine bodyPost_ret (res4 rfl _ _ _) rfl ?_
    exact ⟨rfl, Qt.refl _⟩

theorem num_of (n y k : Int) : Cal.num y k (n + 719162 - Cal.dby y - Cal.cum y k + 1) = n := by unfold Cal.num; omega
theorem vld_of (n y k : Int) (a : 1 ≤ y) (b : y ≤ 9999) (c : 0 ≤ n + 719162 - Cal.dby y - Cal.cum y k) (d : n + 719162 - Cal.dby y - Cal.cum y k < Cal.dim y k) :
    Cal.vldB y k (n + 719162 - Cal.dby y - Cal.cum y k + 1) = true := vld_yes a b (by omega) (by omega)

/-- What Civil returns for a day of the range. -/
def CivPost (n : Int) (w : World) (e : Ending) (w' : World) : Prop :=
  e = .returned (.tuple #[.int .i64 (Cal.civ n).1, .int .i64 (Cal.civ n).2.1, .int .i64 (Cal.civ n).2.2, .bool true]) ∧ Qt w w'
theorem civPost_of {n y k : Int} {w w' : World} (a : 1 ≤ y) (b : y ≤ 9999) (c : 0 ≤ n + 719162 - Cal.dby y - Cal.cum y k) (d : n + 719162 - Cal.dby y - Cal.cum y k < Cal.dim y k) (hq : Qt w w') :
    CivPost n w (.returned (.tuple #[.int .i64 y, .int .i64 k, .int .i64 (n + 719162 - Cal.dby y - Cal.cum y k + 1), .bool true])) w' := by
  unfold CivPost
  rw [Cal.civ_eq (vld_of n y k a b c d) (num_of n y k)]
  exact ⟨rfl, hq⟩

/-- The months of a year: the loop that both texts share. -/
theorem civil_yes (n : Int) (w : World) (ht : Tab w) (h1 : -719162 ≤ n) (h2 : n ≤ 2932896) :
    Calls Tryd.prog 8 #[.int .i64 n] w (CivPost n w) := by
  have HT := Lib.hid ht
  clear ht
  have g0 := Cal.dby_guess (n + 719162) (by omega)
  have hd1 : 3652059 ≤ Cal.dby 10000 := by rw [Cal.dby_10000]; omega
  have hd2 : Cal.dby 10000 ≤ 3652059 := by rw [Cal.dby_10000]; omega
  go_enter Tryd.func8, Tryd.ntmps8
  go_wp2_with (go_at_call 21; refine (start_any _ _ (by omega) (by omega)).mono ?_; rintro e w' ⟨rfl, rfl⟩)
  go_loop [2] (fun t => ∃ y : Int, 1 ≤ y ∧ y ≤ 9999 ∧ Cal.dby y ≤ n + 719162 ∧ t = .int .i64 y) (fun t => (9999 - intOf t).toNat)
  case atStart => exact ⟨_, by omega, by omega, g0, rfl⟩
  case round =>
    obtain ⟨y, hy1, hy2, hy3, rfl⟩ := hrel
    by_cases hc : Cal.dby (y + 1) ≤ n + 719162
    · have hlt : y < 9999 := by
        rcases Int.lt_or_le y 9999 with c | c
        · exact c
        · have := Cal.dby_mono (show (10000 : Int) ≤ y + 1 by omega); omega
      go_wp2_with (go_at_call 21; refine (start_any _ _ (by omega) (by omega)).mono ?_; rintro e w' ⟨rfl, rfl⟩)
      go_round
      case rel => exact ⟨y + 1, by omega, by omega, hc, rfl⟩
      case measure => simp [intOf]; omega
    · have hb := Cal.dby_bd y hy1 (by omega)
      obtain ⟨hb1, hb2⟩ := hb
      have hs := Lib.hid (Cal.dby_succ y)
      obtain ⟨hl1, hl2⟩ := Cal.lp_01 y
      have hz : n + 719162 < Cal.dby (y + 1) := by omega
      clear g0
      go_wp2_with (go_at_call 21; refine (start_any _ _ (by omega) (by omega)).mono ?_; rintro e w' ⟨rfl, rfl⟩)
      go_loopw [6, 3] (fun r k wr => ∃ m : Int, 1 ≤ m ∧ m ≤ 12 ∧ k = .int .i64 m ∧ 0 ≤ n + 719162 - Cal.dby y - Cal.cum y m ∧ r = .int .i64 (n + 719162 - Cal.dby y - Cal.cum y m) ∧ Qt w wr) (fun _ k _ => (12 - intOf k).toNat)
      case atStart => exact ⟨1, by omega, by omega, rfl, by rw [Cal.cum_1]; omega, by rw [Cal.cum_1]; simp, Qt.refl _⟩
      case round =>
        obtain ⟨m, hm1, hm2, rfl, hr, rfl, hq⟩ := hrel
        obtain ⟨cb1, cb2⟩ := Cal.cum_bd y m hm1 (by omega)
        obtain ⟨db1, db2⟩ := Cal.dim_nonneg y m
        have cs := Lib.hid (Cal.cum_succ y m hm1 hm2)
        by_cases hd : Cal.dim y m ≤ n + 719162 - Cal.dby y - Cal.cum y m
        · have hm : m < 12 := by
            rcases Int.lt_or_le m 12 with c | c
            · exact c
            · obtain rfl : m = 12 := by omega
              have := Cal.cum_end y
              have := hs.out
              omega
          have c1 := Lib.hid (length_any y m wr (HT.out.qt hq) (by omega) (by omega))
          go_wp2_with fail
          refine c1.out.mono ?_
          rintro e w1 ⟨rfl, hq1⟩
          have c2 := Lib.hid (length_any y m w1 (HT.out.qt (hq.trans hq1)) (by omega) (by omega))
          go_wp2_with fail
          refine c2.out.mono ?_
          rintro e w2 ⟨rfl, hq2⟩
          go_wp2_with fail
          go_roundw
          case rel => exact ⟨m + 1, by omega, by omega, rfl, by rw [cs.out]; omega, by rw [cs.out]; go_num, hq.trans (hq1.trans hq2)⟩
          case measure => simp [intOf]; omega
        · have c1 := Lib.hid (length_any y m wr (HT.out.qt hq) (by omega) (by omega))
          go_wp2_with fail
          refine c1.out.mono ?_
          rintro e w1 ⟨rfl, hq1⟩
          go_wp2_with fail
          refine bodyPost_ret (res4 rfl _ _ _) rfl ?_
          exact civPost_of hy1 hy2 hr (by omega) (hq.trans hq1)

end Go.Proofs.YtplbaffcgkjmjaaDoor

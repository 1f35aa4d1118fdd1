/-
  THE CALENDAR's SMALL FUNCTIONS, each by one contract: Mod, near, start, Leap, Length, within, Weekday, and the reference's Leap, Length, before, Weekday.
-/
import Derived.Test.YtplbaffcgkjmjaaDoorKit
import Derived.Test.YtplbaffcgkjmjaaDoorCalMath
namespace Go.Proofs.YtplbaffcgkjmjaaDoor
open Go.RowKit

theorem tmod_split (x n : Int) (hn : 1 ≤ n) : (0 ≤ x.tmod n ∧ x.tmod n = x % n) ∨ (x.tmod n < 0 ∧ x.tmod n + n = x % n ∧ x % n ≠ 0) := by
  have h1 := Int.emod_nonneg x (show n ≠ 0 by omega)
  have h2 := Int.emod_lt_of_pos x (show 0 < n by omega)
  have h3 : x.tmod n = x % n - ↑(if 0 ≤ x ∨ n ∣ x then 0 else n.natAbs) := Int.tmod_eq_emod
  by_cases c : 0 ≤ x ∨ n ∣ x
  · rw [if_pos c] at h3; left; omega
  · rw [if_neg c] at h3
    have : (n.natAbs : Int) = n := by omega
    have hz : x % n ≠ 0 := fun e => c (.inr (Int.dvd_of_emod_eq_zero e))
    right; omega
theorem tmod_bd (x n : Int) (hn : 1 ≤ n) : -n < x.tmod n ∧ x.tmod n < n := by
  have h1 := Int.emod_nonneg x (show n ≠ 0 by omega)
  have h2 := Int.emod_lt_of_pos x (show 0 < n by omega)
  rcases tmod_split x n hn with h | h <;> omega

/-- Mod: the remainder that is not negative. -/
theorem mod_any (x n : Int) (w : World) (hn : 1 ≤ n) (hn2 : n ≤ 4611686018427387904) :
    Calls Tryd.prog 20 #[.int .i64 x, .int .i64 n] w fun e w' => e = .returned (.int .i64 (x % n)) ∧ w = w' := by
  obtain ⟨h1, h2⟩ := tmod_bd x n hn
  have hs := Lib.hid (tmod_split x n hn)
  have hn0 : ¬ n < 1 := by omega
  go_enter Tryd.func20, Tryd.ntmps20
  go_wp2
  all_goals
    go_ret
    exact ⟨ret_int (by rcases hs.out with h | h <;> omega), rfl⟩

/-- near: a number of the range. -/
theorem near_any (n lo hi : Int) (w : World) (h : lo ≤ hi) (h1 : -1000000000000000 ≤ lo) (h2 : hi ≤ 1000000000000000) :
    Calls Tryd.prog 7 #[.int .i64 n, .int .i64 lo, .int .i64 hi] w fun e w' => e = .returned (.int .i64 (lo + n % (hi - lo + 1))) ∧ w = w' := by
  have e1 := Int.emod_nonneg n (show hi - lo + 1 ≠ 0 by omega)
  have e2 := Int.emod_lt_of_pos n (show 0 < hi - lo + 1 by omega)
  go_enter Tryd.func7, Tryd.ntmps7
  go_wp2_with (go_at_call 20; refine (mod_any _ _ _ (by omega) (by omega)).mono ?_; rintro e w' ⟨rfl, rfl⟩)
  go_ret
  exact ⟨rfl, rfl⟩

/-- start: the days before a year. -/
theorem start_any (y : Int) (w : World) (h1 : 1 ≤ y) (h2 : y ≤ 10001) :
    Calls Tryd.prog 21 #[.int .i64 y] w fun e w' => e = .returned (.int .i64 (Cal.dby y)) ∧ w = w' := by
  go_enter Tryd.func21, Tryd.ntmps21
  go_wp2
  go_ret
  exact ⟨rfl, rfl⟩
theorem before_any (y : Int) (w : World) (h1 : 1 ≤ y) (h2 : y ≤ 10001) :
    Calls Tryd.prog 31 #[.int .i64 y] w fun e w' => e = .returned (.int .i64 (Cal.dby y)) ∧ w = w' := by
  go_enter Tryd.func31, Tryd.ntmps31
  go_wp2
  go_ret
  exact ⟨rfl, rfl⟩

theorem leap_any (y : Int) (w : World) (h1 : 0 ≤ y) (h2 : y ≤ 10001) :
    Calls Tryd.prog 23 #[.int .i64 y] w fun e w' => e = .returned (.bool (Cal.lpB y)) ∧ w = w' := by
  cases ha : (y % 4 == 0) <;> cases hb : (y % 100 != 0) <;> cases hc : (y % 400 == 0)
  all_goals
    have hf := Lib.hid (show Cal.lpB y = _ by unfold Cal.lpB; rw [ha, hb, hc])
    go_enter Tryd.func23, Tryd.ntmps23
    go_wp2
    go_ret
    exact ⟨ret_bool (by rw [hf.out]; rfl), rfl⟩
theorem rleap_any (y : Int) (w : World) (h1 : 0 ≤ y) (h2 : y ≤ 10001) :
    Calls Tryd.prog 34 #[.int .i64 y] w fun e w' => e = .returned (.bool (Cal.lpB y)) ∧ w = w' := by
  cases ha : (y % 4 == 0) <;> cases hb : (y % 100 != 0) <;> cases hc : (y % 400 == 0)
  all_goals
    have hf := Lib.hid (show Cal.lpB y = _ by unfold Cal.lpB; rw [ha, hb, hc])
    go_enter Tryd.func34, Tryd.ntmps34
    go_wp2
    go_ret
    exact ⟨ret_bool (by rw [hf.out]; rfl), rfl⟩

/-- within. -/
def inB (n lo hi : Int) : Bool := decide (lo ≤ n ∧ n ≤ hi)
theorem inB_iff (n lo hi : Int) : inB n lo hi = true ↔ lo ≤ n ∧ n ≤ hi := by unfold inB; simp
theorem inB_no (n lo hi : Int) (h : ¬ (lo ≤ n ∧ n ≤ hi)) : inB n lo hi = false := by unfold inB; simpa using h
theorem within_any (n lo hi : Int) (w : World) :
    Calls Tryd.prog 24 #[.int .i64 n, .int .i64 lo, .int .i64 hi] w fun e w' => e = .returned (.bool (inB n lo hi)) ∧ w = w' := by
  by_cases h1 : lo ≤ n <;> by_cases h2 : n ≤ hi
  all_goals
    have hf := Lib.hid (show inB n lo hi = _ from by first | exact (inB_iff _ _ _).2 ⟨h1, h2⟩ | exact inB_no _ _ _ (fun c => h1 c.1) | exact inB_no _ _ _ (fun c => h2 c.2))
    go_enter Tryd.func24, Tryd.ntmps24
    go_wp2
    go_ret
    exact ⟨ret_bool (by rw [hf.out]), rfl⟩

def wkd (n : Int) : Int := (n + 3) % 7
theorem weekday_any (n : Int) (w : World) :
    Calls Tryd.prog 10 #[.int .i64 n] w fun e w' => e = .returned (.int .i64 (wkd n)) ∧ w = w' := by
  obtain ⟨e1, e2⟩ := tmod_bd n 7 (by omega)
  have hs := Lib.hid (tmod_split n 7 (by omega))
  go_enter Tryd.func10, Tryd.ntmps10
  go_wp2
  go_ret
  exact ⟨ret_int (by unfold wkd; have := hs.out; omega), rfl⟩

/-- THE TABLE of the days before each month, in memory. -/
def Tab (w : World) : Prop := ∀ i : Nat, i < 14 → w.cell? ⟨0, i, none⟩ = some (.int .i64 (Cal.bef.getD i 0))
theorem Tab.at {w : World} (h : Tab w) (m : Int) (h1 : 0 ≤ m) (h2 : m ≤ 13) : w.cell? ⟨0, m.toNat, none⟩ = some (.int .i64 (Cal.cum0 m)) := h m.toNat (by omega)
theorem Tab.below {w w' : World} (h : Tab w) (hb : Below w.heap.size w w') (hz : 0 < w.heap.size) : Tab w' := fun i hi => (hb.cell (p := ⟨0, i, none⟩) hz).trans (h i hi)
theorem Tab.drewN {w : World} (h : Tab w) (n : Nat) : Tab (w.drewN n) := fun i hi => h i hi
theorem Tab.qt {w w' : World} (h : Tab w) (k : Qt w w') : Tab w' := by obtain ⟨n, rfl⟩ := k; exact h.drewN n

theorem length_no (y m : Int) (w : World) (h : m < 1 ∨ 12 < m) :
    Calls Tryd.prog 11 #[.int .i64 y, .int .i64 m] w fun e w' => e = .returned (.int .i64 (Cal.dim y m)) ∧ Qt w w' := by
  have hf := Lib.hid (Cal.dim_no y m h)
  rcases h with h | h
  · go_enter Tryd.func11, Tryd.ntmps11
    go_wp2
    go_ret
    exact ⟨ret_int (by rw [hf.out]), Qt.refl _⟩
  · have h' : 1 ≤ m := by omega
    go_enter Tryd.func11, Tryd.ntmps11
    go_wp2
    go_ret
    exact ⟨ret_int (by rw [hf.out]), Qt.refl _⟩

theorem length_yes (y m : Int) (w : World) (ht : Tab w) (y1 : 0 ≤ y) (y2 : y ≤ 10001) (h1 : 1 ≤ m) (h2 : m ≤ 12) :
    Calls Tryd.prog 11 #[.int .i64 y, .int .i64 m] w fun e w' => e = .returned (.int .i64 (Cal.dim y m)) ∧ Qt w w' := by
  have c1 := ht.at m (by omega) (by omega)
  have c2 := ht.at (m + 1) (by omega) (by omega)
  have b1 := Cal.cum0_bd m h1 (by omega)
  have b2 := Cal.cum0_bd (m + 1) (by omega) (by omega)
  have hf := Lib.hid (Cal.dim_in y m h1 h2)
  clear ht
  cases hm : (m == 2)
  · go_enter Tryd.func11, Tryd.ntmps11
    go_wp2
    go_quiet (fail)
    go_wp2
    go_ret
    exact ⟨ret_int (by rw [hf.out]; simp at hm; simp [hm]), Qt.drewN _ _⟩
  · cases hl : Cal.lpB y
    · have hl' := Lib.hid hl
      clear hl
      go_enter Tryd.func11, Tryd.ntmps11
      go_wp2
      go_quiet (fail)
      go_wp2_with (go_at_call 23; refine (leap_any _ _ (by omega) (by omega)).mono ?_; rintro e w' ⟨rfl, rfl⟩; rw [hl'.out])
      go_ret
      exact ⟨ret_int (by rw [hf.out]; simp at hm; simp [hm, Cal.lp, hl'.out]), Qt.drewN _ _⟩
    · have hl' := Lib.hid hl
      clear hl
      go_enter Tryd.func11, Tryd.ntmps11
      go_wp2
      go_quiet (fail)
      go_wp2_with (go_at_call 23; refine (leap_any _ _ (by omega) (by omega)).mono ?_; rintro e w' ⟨rfl, rfl⟩; rw [hl'.out])
      go_ret
      exact ⟨ret_int (by rw [hf.out]; simp at hm; simp [hm, Cal.lp, hl'.out]), Qt.drewN _ _⟩

theorem length_any (y m : Int) (w : World) (ht : Tab w) (y1 : 0 ≤ y) (y2 : y ≤ 10001) :
    Calls Tryd.prog 11 #[.int .i64 y, .int .i64 m] w fun e w' => e = .returned (.int .i64 (Cal.dim y m)) ∧ Qt w w' := by
  by_cases h : 1 ≤ m ∧ m ≤ 12
  · exact length_yes y m w ht y1 y2 h.1 h.2
  · exact length_no y m w (by omega)

theorem dim_val (y m : Int) : Cal.dim y m = if m = 2 then 28 + Cal.lp y else if m = 4 ∨ m = 6 ∨ m = 9 ∨ m = 11 then 30 else if 1 ≤ m ∧ m ≤ 12 then 31 else 0 := by
  by_cases h : 1 ≤ m ∧ m ≤ 12
  · rw [Cal.dim_in y m h.1 h.2]
    rcases Cal.month_cases h.1 h.2 with rfl | rfl | rfl | rfl | rfl | rfl | rfl | rfl | rfl | rfl | rfl | rfl <;> simp [Cal.cum0, Cal.bef]
  · rw [Cal.dim_no y m (by omega)]
    rw [if_neg (by omega), if_neg (by omega), if_neg (by omega)]

theorem rlength_any (y m : Int) (w : World) (y1 : 0 ≤ y) (y2 : y ≤ 10001) :
    Calls Tryd.prog 30 #[.int .i64 y, .int .i64 m] w fun e w' => e = .returned (.int .i64 (Cal.dim y m)) ∧ w = w' := by
  have hf := Lib.hid (dim_val y m)
  by_cases c2 : m = 2
  · subst c2
    cases hl : Cal.lpB y
    all_goals
      have hl' := Lib.hid hl
      clear hl
      go_enter Tryd.func30, Tryd.ntmps30
      go_wp2_with (go_at_call 34; refine (rleap_any _ _ (by omega) (by omega)).mono ?_; rintro e w' ⟨rfl, rfl⟩; rw [hl'.out])
      go_ret
      exact ⟨ret_int (by rw [hf.out]; simp [Cal.lp, hl'.out]), rfl⟩
  · by_cases h : 1 ≤ m ∧ m ≤ 12
    · obtain ⟨h1, h2⟩ := h
      rcases Cal.month_cases h1 h2 with rfl | rfl | rfl | rfl | rfl | rfl | rfl | rfl | rfl | rfl | rfl | rfl
      all_goals first | (exact absurd rfl c2) | skip
      all_goals
        clear c2 h1 h2
        go_enter Tryd.func30, Tryd.ntmps30
        go_wp2
        go_ret
        exact ⟨ret_int (by rw [hf.out]; simp), rfl⟩
    · have e2 : (m == 2) = false := by simp; omega
      have e1 : (m == 1) = false := by simp; omega
      have e3 : (m == 3) = false := by simp; omega
      have e4 : (m == 4) = false := by simp; omega
      have e5 : (m == 5) = false := by simp; omega
      have e6 : (m == 6) = false := by simp; omega
      have e7 : (m == 7) = false := by simp; omega
      have e8 : (m == 8) = false := by simp; omega
      have e9 : (m == 9) = false := by simp; omega
      have e10 : (m == 10) = false := by simp; omega
      have e11 : (m == 11) = false := by simp; omega
      have e12 : (m == 12) = false := by simp; omega
      have hf2 := Lib.hid (Cal.dim_no y m (by omega))
      clear h c2 hf
      go_enter Tryd.func30, Tryd.ntmps30
      go_wp2
      go_ret
      exact ⟨ret_int (by rw [hf2.out]), rfl⟩

end Go.Proofs.YtplbaffcgkjmjaaDoor

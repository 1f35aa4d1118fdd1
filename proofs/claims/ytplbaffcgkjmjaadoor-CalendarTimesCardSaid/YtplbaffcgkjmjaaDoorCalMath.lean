/-
  PLAIN MATHEMATICS OF THE CALENDAR: leap years, days before a year and a month, the number of a date; no program in sight.
-/
import Derived.Below
namespace Go.Proofs.YtplbaffcgkjmjaaDoor.Cal

def lpB (y : Int) : Bool := y % 4 == 0 && (y % 100 != 0 || y % 400 == 0)
def lp (y : Int) : Int := if lpB y then 1 else 0
def dby (y : Int) : Int := 365 * (y - 1) + (y - 1) / 4 - (y - 1) / 100 + (y - 1) / 400
def bef : List Int := [0, 0, 31, 59, 90, 120, 151, 181, 212, 243, 273, 304, 334, 365]
def cum0 (m : Int) : Int := bef.getD m.toNat 0
def dim (y m : Int) : Int := if 1 ≤ m ∧ m ≤ 12 then cum0 (m + 1) - cum0 m + (if m = 2 then lp y else 0) else 0
def cum (y m : Int) : Int := cum0 m + if 2 < m then lp y else 0
def num (y m d : Int) : Int := dby y - 719162 + cum y m + d - 1
def vldB (y m d : Int) : Bool := decide (1 ≤ y ∧ y ≤ 9999 ∧ 1 ≤ d ∧ d ≤ dim y m)

theorem lp_01 (y : Int) : 0 ≤ lp y ∧ lp y ≤ 1 := by unfold lp; split <;> omega

theorem lpB_iff (y : Int) : lpB y = true ↔ (y % 4 = 0 ∧ (y % 100 ≠ 0 ∨ y % 400 = 0)) := by
  unfold lpB; simp

theorem dby_succ (y : Int) : dby (y + 1) = dby y + 365 + lp y := by
  unfold dby lp
  have := lpB_iff y
  by_cases h : lpB y = true
  · have h' := this.1 h
    rw [if_pos h]; omega
  · have h' : ¬ (y % 4 = 0 ∧ (y % 100 ≠ 0 ∨ y % 400 = 0)) := fun c => h (this.2 c)
    rw [if_neg h]; omega

theorem dby_mono {a b : Int} (h : a ≤ b) : dby a ≤ dby b := by unfold dby; omega
theorem dby_bd (a : Int) (h0 : 1 ≤ a) (h : a ≤ 10000) : 0 ≤ dby a ∧ dby a ≤ 3652059 := by unfold dby; omega
theorem dby_10000 : dby 10000 = 3652059 := by decide +kernel
theorem dby_1970 : dby 1970 = 719162 := by decide +kernel
theorem dby_guess (n : Int) (h0 : 0 ≤ n) : dby (n / 366 + 1) ≤ n := by unfold dby; omega

theorem month_cases {m : Int} (h1 : 1 ≤ m) (h2 : m ≤ 12) :
    m = 1 ∨ m = 2 ∨ m = 3 ∨ m = 4 ∨ m = 5 ∨ m = 6 ∨ m = 7 ∨ m = 8 ∨ m = 9 ∨ m = 10 ∨ m = 11 ∨ m = 12 := by omega

theorem dim_no (y m : Int) (h : m < 1 ∨ 12 < m) : dim y m = 0 := by
  unfold dim; rw [if_neg (by omega)]

theorem dim_in (y m : Int) (h1 : 1 ≤ m) (h2 : m ≤ 12) :
    dim y m = cum0 (m + 1) - cum0 m + (if m = 2 then lp y else 0) := by
  unfold dim; rw [if_pos ⟨h1, h2⟩]

theorem dim_bd (y m : Int) (h1 : 1 ≤ m) (h2 : m ≤ 12) : 28 ≤ dim y m ∧ dim y m ≤ 31 := by
  rw [dim_in y m h1 h2]
  have hl := lp_01 y
  rcases month_cases h1 h2 with rfl | rfl | rfl | rfl | rfl | rfl | rfl | rfl | rfl | rfl | rfl | rfl <;> simp [cum0, bef] <;> omega

theorem dim_nonneg (y m : Int) : 0 ≤ dim y m ∧ dim y m ≤ 31 := by
  by_cases h : 1 ≤ m ∧ m ≤ 12
  · have := dim_bd y m h.1 h.2; omega
  · rw [dim_no y m (by omega)]; omega

theorem cum0_bd (m : Int) (h1 : 1 ≤ m) (h2 : m ≤ 13) : 0 ≤ cum0 m ∧ cum0 m ≤ 365 := by
  obtain h | rfl : m ≤ 12 ∨ m = 13 := by omega
  · rcases month_cases h1 h with rfl | rfl | rfl | rfl | rfl | rfl | rfl | rfl | rfl | rfl | rfl | rfl <;> simp [cum0, bef]
  · simp [cum0, bef]

theorem cum_bd (y m : Int) (h1 : 1 ≤ m) (h2 : m ≤ 13) : 0 ≤ cum y m ∧ cum y m ≤ 366 := by
  have h := cum0_bd m h1 h2
  have hl := lp_01 y
  unfold cum; split <;> omega

theorem cum_succ (y m : Int) (h1 : 1 ≤ m) (h2 : m ≤ 12) : cum y (m + 1) = cum y m + dim y m := by
  rw [dim_in y m h1 h2]
  unfold cum
  rcases month_cases h1 h2 with rfl | rfl | rfl | rfl | rfl | rfl | rfl | rfl | rfl | rfl | rfl | rfl <;> simp [cum0, bef] <;> omega

theorem cum_1 (y : Int) : cum y 1 = 0 := by simp [cum, cum0, bef]
theorem cum_13 (y : Int) : cum y 13 = 365 + lp y := by simp [cum, cum0, bef]

theorem cum_end (y : Int) : cum y 12 + dim y 12 = 365 + lp y := by
  rw [← cum_succ y 12 (by omega) (by omega)]; exact cum_13 y

theorem vld_iff (y m d : Int) : vldB y m d = true ↔ (1 ≤ y ∧ y ≤ 9999 ∧ 1 ≤ d ∧ d ≤ dim y m) := by
  unfold vldB; simp

theorem vld_month {y m d : Int} (h : vldB y m d = true) : 1 ≤ m ∧ m ≤ 12 := by
  have h' := (vld_iff y m d).1 h
  rcases Classical.em (1 ≤ m ∧ m ≤ 12) with hm | hm
  · exact hm
  · rw [dim_no y m (by omega)] at h'; omega

/-- Months are ordered by their days before them. -/
theorem cum_mono (y : Int) {m m' : Int} (h1 : 1 ≤ m) (h : m < m') (h2 : m' ≤ 12) : cum y m + dim y m ≤ cum y m' := by
  rw [← cum_succ y m h1 (by omega)]
  have : ∀ (k : Nat) (a : Int), 1 ≤ a → a + k ≤ 12 → cum y a ≤ cum y (a + k) := by
    intro k
    induction k with
    | zero => intro a _ _; simp
    | succ k ih =>
      intro a ha hk
      have e1 := ih a ha (by omega)
      have e2 := cum_succ y (a + k) (by omega) (by omega)
      have e3 := dim_nonneg y (a + k)
      have e4 : a + ((k + 1 : Nat) : Int) = a + k + 1 := by omega
      rw [e4]; omega
  have := this (m' - (m + 1)).toNat (m + 1) (by omega) (by omega)
  have e : m + 1 + ((m' - (m + 1)).toNat : Int) = m' := by omega
  rwa [e] at this

/-- What is left of a date within its year. -/
theorem rest_bd {y m d : Int} (h : vldB y m d = true) : 0 ≤ cum y m + d - 1 ∧ cum y m + d - 1 < 365 + lp y := by
  have hm := vld_month h
  have h' := (vld_iff y m d).1 h
  have hc := cum_bd y m hm.1 (by omega)
  refine ⟨by omega, ?_⟩
  by_cases e : m = 12
  · subst e
    have := cum_end y
    omega
  · have := cum_mono y hm.1 (show m < 12 by omega) (Int.le_refl _)
    have := cum_end y
    have := dim_nonneg y 12
    omega

theorem num_inj {y m d y' m' d' : Int} (h : vldB y m d = true) (h' : vldB y' m' d' = true) (e : num y m d = num y' m' d') : y = y' ∧ m = m' ∧ d = d' := by
  have hr := rest_bd h
  have hr' := rest_bd h'
  have hv := (vld_iff y m d).1 h
  have hv' := (vld_iff y' m' d').1 h'
  have hm := vld_month h
  have hm' := vld_month h'
  unfold num at e
  have hy : y = y' := by
    rcases Int.lt_trichotomy y y' with hlt | heq | hgt
    · have s := dby_succ y
      have := dby_mono (show y + 1 ≤ y' by omega)
      omega
    · exact heq
    · have s := dby_succ y'
      have := dby_mono (show y' + 1 ≤ y by omega)
      omega
  subst hy
  have hmm : m = m' := by
    rcases Int.lt_trichotomy m m' with hlt | heq | hgt
    · have := cum_mono y hm.1 hlt hm'.2
      omega
    · exact heq
    · have := cum_mono y hm'.1 hgt hm.2
      omega
  subst hmm
  exact ⟨rfl, rfl, by omega⟩

/-- THE NEXT DAY. -/
theorem next_in {y m d : Int} (h : vldB y m d = true) (hd : d < dim y m) : vldB y m (d + 1) = true ∧ num y m (d + 1) = num y m d + 1 := by
  have hv := (vld_iff y m d).1 h
  refine ⟨(vld_iff _ _ _).2 (by omega), by unfold num; omega⟩
theorem next_month {y m d : Int} (h : vldB y m d = true) (hd : d = dim y m) (hm : m < 12) : vldB y (m + 1) 1 = true ∧ num y (m + 1) 1 = num y m d + 1 := by
  have hv := (vld_iff y m d).1 h
  have hmm := vld_month h
  have := dim_bd y (m + 1) (by omega) (by omega)
  have := cum_succ y m hmm.1 hmm.2
  refine ⟨(vld_iff _ _ _).2 (by omega), by unfold num; omega⟩
theorem next_year {y m d : Int} (h : vldB y m d = true) (hd : d = dim y m) (hm : m = 12) (hy : y < 9999) : vldB (y + 1) 1 1 = true ∧ num (y + 1) 1 1 = num y m d + 1 := by
  have hv := (vld_iff y m d).1 h
  subst hm
  have := dim_bd (y + 1) 1 (by omega) (by omega)
  have h1 := cum_end y
  have h3 := cum_1 (y + 1)
  have h4 := dby_succ y
  refine ⟨(vld_iff _ _ _).2 (by omega), by unfold num; omega⟩

theorem num_bd {y m d : Int} (h : vldB y m d = true) : -719162 ≤ num y m d ∧ num y m d ≤ 2932896 := by
  have hr := rest_bd h
  have hv := (vld_iff y m d).1 h
  have h1 := dby_bd y hv.1 (by omega)
  have h2 := dby_succ y
  have h3 := dby_mono (show y + 1 ≤ 10000 by omega)
  rw [dby_10000] at h3
  unfold num; omega

theorem num_last {y m d : Int} (h : vldB y m d = true) (hn : num y m d < 2932896) : ¬ (d = dim y m ∧ m = 12 ∧ y = 9999) := by
  rintro ⟨rfl, rfl, rfl⟩
  revert hn; decide +kernel

/-- EVERY NUMBER IN THE RANGE IS A DATE's. -/
theorem exists_date (k : Nat) (hk : (k : Int) ≤ 3652058) : ∃ y m d, vldB y m d = true ∧ num y m d = (k : Int) - 719162 := by
  induction k with
  | zero => exact ⟨1, 1, 1, by decide +kernel, by simp [num, dby, cum, cum0, bef]⟩
  | succ k ih =>
    obtain ⟨y, m, d, hv, hn⟩ := ih (by omega)
    have hv' := (vld_iff y m d).1 hv
    have hm := vld_month hv
    have hl := num_last hv (by omega)
    by_cases h1 : d < dim y m
    · have := next_in hv h1
      exact ⟨y, m, d + 1, this.1, by omega⟩
    · by_cases h2 : m < 12
      · have := next_month hv (by omega) h2
        exact ⟨y, m + 1, 1, this.1, by omega⟩
      · have := next_year hv (by omega) (by omega) (by omega)
        exact ⟨y + 1, 1, 1, this.1, by omega⟩

open Classical in
/-- THE DATE OF A DAY. -/
noncomputable def civ (n : Int) : Int × Int × Int :=
  if h : ∃ p : Int × Int × Int, vldB p.1 p.2.1 p.2.2 = true ∧ num p.1 p.2.1 p.2.2 = n then h.choose else (0, 0, 0)

theorem civ_eq {n y m d : Int} (hv : vldB y m d = true) (hn : num y m d = n) : civ n = (y, m, d) := by
  have h : ∃ p : Int × Int × Int, vldB p.1 p.2.1 p.2.2 = true ∧ num p.1 p.2.1 p.2.2 = n := ⟨(y, m, d), hv, hn⟩
  unfold civ
  rw [dif_pos h]
  have hs := h.choose_spec
  obtain ⟨e1, e2, e3⟩ := num_inj hs.1 hv (by rw [hs.2, hn])
  exact Prod.ext e1 (Prod.ext e2 e3)

theorem civ_spec {n : Int} (h1 : -719162 ≤ n) (h2 : n ≤ 2932896) : vldB (civ n).1 (civ n).2.1 (civ n).2.2 = true ∧ num (civ n).1 (civ n).2.1 (civ n).2.2 = n := by
  obtain ⟨y, m, d, hv, hn⟩ := exists_date (n + 719162).toNat (by omega)
  have hn' : num y m d = n := by omega
  rw [civ_eq hv hn']
  exact ⟨hv, hn'⟩

/-- THE DAY AFTER A DAY. -/
theorem follows {k : Int} (h1 : -719162 ≤ k) (h2 : k ≤ 2932895) :
    (1 < (civ (k + 1)).2.2 → (civ (k + 1)).1 = (civ k).1 ∧ (civ (k + 1)).2.1 = (civ k).2.1 ∧ (civ (k + 1)).2.2 = (civ k).2.2 + 1) ∧
    (¬ 1 < (civ (k + 1)).2.2 → (civ k).2.2 = dim (civ k).1 (civ k).2.1 ∧
      ((civ (k + 1)).2.1 = (civ k).2.1 + 1 ∧ (civ (k + 1)).1 = (civ k).1 ∨ (civ (k + 1)).2.1 = 1 ∧ (civ k).2.1 = 12 ∧ (civ (k + 1)).1 = (civ k).1 + 1)) := by
  obtain ⟨hv, hn⟩ := civ_spec h1 (by omega : k ≤ 2932896)
  generalize civ k = p at *
  obtain ⟨y, m, d⟩ := p
  simp only at hv hn ⊢
  have hv' := (vld_iff y m d).1 hv
  have hm := vld_month hv
  have hl := num_last hv (by omega)
  by_cases c1 : d < dim y m
  · have h := next_in hv c1
    rw [civ_eq h.1 (by omega)]
    simp only
    exact ⟨fun _ => ⟨trivial, trivial, trivial⟩, fun c => by omega⟩
  · by_cases c2 : m < 12
    · have h := next_month hv (by omega) c2
      rw [civ_eq h.1 (by omega)]
      simp only
      exact ⟨fun c => by omega, fun _ => ⟨by omega, .inl ⟨trivial, trivial⟩⟩⟩
    · have h := next_year hv (by omega) (by omega) (by omega)
      rw [civ_eq h.1 (by omega)]
      simp only
      exact ⟨fun c => by omega, fun _ => ⟨by omega, .inr ⟨trivial, by omega, trivial⟩⟩⟩

end Go.Proofs.YtplbaffcgkjmjaaDoor.Cal

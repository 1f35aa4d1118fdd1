/-
  Merging by rotations, plainly: what symMergeCmpFunc leaves is sorted.
-/
import Derived.Test.YtfdbjgdafolbmaaDoorSoA
namespace Go.Proofs.YtfdbjgdafolbmaaDoor
open Go.RowKit Go.Sort Go.Shelf

theorem cmp_less (a b : List UInt8) : decide (Lib.compareBytes a b < 0) = Op.bytesLess a b := by
  induction a generalizing b with
  | nil => cases b <;> simp [Lib.compareBytes, Op.bytesLess]
  | cons x a ih =>
    cases b with
    | nil => simp [Lib.compareBytes, Op.bytesLess]
    | cons y b =>
      rw [Lib.compareBytes, Op.bytesLess]
      by_cases h1 : x < y
      · simp [h1]
      · by_cases h2 : y < x
        · have hne : x ≠ y := fun e => UInt8.lt_irrefl y (by rw [e] at h2; exact h2)
          simp [h1, h2, hne]
        · obtain rfl : x = y := UInt8.le_antisymm (UInt8.not_lt.1 h2) (UInt8.not_lt.1 h1)
          rw [if_neg h1, if_neg h2, ih b]
          simp
theorem less_str (a b : List UInt8) : Op.bytesLess a b = ltStr a b := by
  unfold ltStr
  induction a generalizing b with
  | nil => cases b <;> simp [Op.bytesLess]
  | cons x a ih =>
    cases b with
    | nil => simp [Op.bytesLess]
    | cons y b =>
      rw [Op.bytesLess, ih b, Bool.eq_iff_iff]
      simp [List.cons_lt_cons_iff]
abbrev ltF : Fd → Fd → Bool := ltOf cmpF
theorem ltF_eq (x y : Fd) : ltF x y = ltStr x.1 y.1 := (cmp_less x.1 y.1).trans (less_str _ _)
theorem swoF : SWO ltF := by
  have h := swo_ltStr
  exact ⟨fun x => by rw [ltF_eq]; exact h.irrefl x.1, fun x y z => by rw [ltF_eq, ltF_eq, ltF_eq]; exact h.trans x.1 y.1 z.1, fun x y z => by rw [ltF_eq, ltF_eq, ltF_eq]; exact h.ntrans x.1 y.1 z.1⟩

/-- data[a] has gone up to k. -/
structure Up (d : Array Fd) (a k : Nat) (D : Array Fd) : Prop where
  perm : PermIn a (k + 1) d D
  at_ : D[k]! = d[a]!
  lo : ∀ p, a ≤ p → p < k → D[p]! = d[p + 1]!
theorem Up.next {d D : Array Fd} {a k : Nat} (h : Up d a k D) (hak : a ≤ k) (hk : k + 1 < d.size) : Up d a (k + 1) (swp D k (k + 1)) := by
  have hs : D.size = d.size := h.perm.1
  refine ⟨permIn_trans _ _ _ _ _ (permIn_mono _ _ _ _ _ _ (Nat.le_refl _) (by omega) (by omega) h.perm) (swp_permIn _ _ _ _ _ (by omega) (by omega) (by omega) (by omega) (by omega)), ?_, fun p h1 h2 => ?_⟩
  · rw [swp_right _ _ _ (by omega)]; exact h.at_
  · by_cases e : p = k
    · subst e
      rw [swp_left _ _ _ (by omega) (by omega)]
      exact h.perm.2.1 (p + 1) (by omega)
    · rw [swp_other _ _ _ _ e (by omega)]
      exact h.lo p h1 (by omega)
/-- data[m] has gone down to k. -/
structure Dn (d : Array Fd) (m k : Nat) (D : Array Fd) : Prop where
  perm : PermIn k (m + 1) d D
  at_ : D[k]! = d[m]!
  hi : ∀ p, k < p → p ≤ m → D[p]! = d[p - 1]!
theorem Dn.next {d D : Array Fd} {m k : Nat} (h : Dn d m (k + 1) D) (hkm : k + 1 ≤ m) (hm : m < d.size) : Dn d m k (swp D (k + 1) k) := by
  have hs : D.size = d.size := h.perm.1
  refine ⟨permIn_trans _ _ _ _ _ (permIn_mono _ _ _ _ _ _ (by omega) (Nat.le_refl _) (by omega) h.perm) (swp_permIn _ _ _ _ _ (by omega) (by omega) (by omega) (by omega) (by omega)), ?_, fun p h1 h2 => ?_⟩
  · rw [swp_right _ _ _ (by omega)]; exact h.at_
  · by_cases e : p = k + 1
    · subst e
      rw [swp_left _ _ _ (by omega) (by omega), Nat.add_sub_cancel]
      exact h.perm.2.1 k (by omega)
    · rw [swp_other _ _ _ _ e (by omega)]
      exact h.hi p (by omega) h2

structure Mg (d : Array Fd) (a b : Nat) (d' : Array Fd) : Prop where
  perm : PermIn a b d d'
  sorted : SortedIn ltF a b d'

theorem mg_up {d D : Array Fd} {a b i : Nat} (hs : SortedIn ltF (a + 1) b d) (hb : b ≤ d.size) (h1 : a + 1 ≤ i) (h2 : i ≤ b) (hl : a + 1 < i → ltF d[i - 1]! d[a]! = true) (hr : i < b → ltF d[i]! d[a]! = false) (h : Up d a (i - 1) D) : Mg d a b D := by
  have hsz : D.size = d.size := h.perm.1
  have e1 : i - 1 + 1 = i := by omega
  have hp := h.perm
  rw [e1] at hp
  refine ⟨permIn_mono _ _ _ _ _ _ (Nat.le_refl _) h2 hb hp, fun p q hp1 hpq hq => ?_⟩
  have hget : ∀ p, i ≤ p → D[p]! = d[p]! := fun p h' => hp.2.1 p (by omega)
  rcases Nat.lt_or_ge q (i - 1) with c1 | c1
  · rw [h.lo p hp1 (by omega), h.lo q (by omega) c1]
    exact hs _ _ (by omega) (by omega) (by omega)
  · rcases Nat.lt_or_ge (i - 1) q with c2 | c2
    · rw [hget q (by omega)]
      rcases Nat.lt_or_ge p (i - 1) with c3 | c3
      · rw [h.lo p hp1 c3]
        exact hs _ _ (by omega) (by omega) hq
      · rcases Nat.lt_or_ge (i - 1) p with c4 | c4
        · rw [hget p (by omega)]; exact hs _ _ (by omega) hpq hq
        · obtain rfl : p = i - 1 := by omega
          rw [h.at_]
          have hri := hr (by omega)
          rcases Nat.eq_or_lt_of_le (show i ≤ q by omega) with c5 | c5
          · rw [← c5]; exact hri
          · exact swoF.ntrans _ _ _ (hs i q (by omega) c5 hq) hri
    · obtain rfl : q = i - 1 := by omega
      rw [h.at_, h.lo p hp1 hpq]
      have hli := hl (by omega)
      rcases Nat.eq_or_lt_of_le (show p + 1 ≤ i - 1 by omega) with c5 | c5
      · rw [c5]; exact swoF.asymmA hli
      · cases e : ltF d[a]! d[p + 1]! with
        | false => rfl
        | true =>
          have := swoF.trans _ _ _ hli e
          rw [hs (p + 1) (i - 1) (by omega) c5 (by omega)] at this
          cases this
theorem mg_dn {d D : Array Fd} {a m i : Nat} (hs : SortedIn ltF a m d) (hb : m + 1 ≤ d.size) (h1 : a ≤ i) (h2 : i ≤ m) (hl : a < i → ltF d[m]! d[i - 1]! = false) (hr : i < m → ltF d[m]! d[i]! = true) (h : Dn d m i D) : Mg d a (m + 1) D := by
  have hp := h.perm
  refine ⟨permIn_mono _ _ _ _ _ _ h1 (Nat.le_refl _) hb hp, fun p q hp1 hpq hq => ?_⟩
  have hget : ∀ p, p < i → D[p]! = d[p]! := fun p h' => hp.2.1 p (by omega)
  rcases Nat.lt_or_ge q i with c1 | c1
  · rw [hget p (by omega), hget q c1]; exact hs _ _ hp1 hpq (by omega)
  · rcases Nat.lt_or_ge i q with c2 | c2
    · rw [h.hi q c2 (by omega)]
      rcases Nat.lt_or_ge p i with c3 | c3
      · rw [hget p c3]; exact hs _ _ hp1 (by omega) (by omega)
      · rcases Nat.lt_or_ge i p with c4 | c4
        · rw [h.hi p c4 (by omega)]; exact hs _ _ (by omega) (by omega) (by omega)
        · obtain rfl : p = i := by omega
          rw [h.at_]
          have hri := hr (by omega)
          rcases Nat.eq_or_lt_of_le (show p ≤ q - 1 by omega) with c5 | c5
          · rw [← c5]; exact swoF.asymmA hri
          · cases e : ltF d[q - 1]! d[m]! with
            | false => rfl
            | true =>
              have := swoF.trans _ _ _ e hri
              rw [hs p (q - 1) (by omega) c5 (by omega)] at this
              cases this
    · obtain rfl : q = i := by omega
      rw [h.at_, hget p hpq]
      have hli := hl (by omega)
      rcases Nat.eq_or_lt_of_le (show p ≤ q - 1 by omega) with c5 | c5
      · rw [c5]; exact hli
      · exact swoF.ntrans _ _ _ hli (hs p (q - 1) hp1 c5 (by omega))

/-- The middle: what the search and the rotation leave. -/
structure Mid (d : Array Fd) (a m b mid s : Nat) (d1 : Array Fd) : Prop where
  perm : PermIn a b d d1
  s1 : SortedIn ltF a s d1
  s2 : SortedIn ltF s mid d1
  s3 : SortedIn ltF mid (mid + m - s) d1
  s4 : SortedIn ltF (mid + m - s) b d1
  cross : ∀ p q, a ≤ p → p < mid → mid ≤ q → q < b → ltF d1[q]! d1[p]! = false
theorem mid_of {d d1 : Array Fd} {a m b mid s : Nat} (hb : b ≤ d.size) (ham : a < m) (hmb : m < b) (has : a ≤ s) (hsm : s ≤ m) (hs1 : s ≤ mid) (hs2 : mid + m ≤ b + s) (hm1 : a ≤ mid)
    (h1 : SortedIn ltF a m d) (h2 : SortedIn ltF m b d) (hl : a < s → mid + m - s < b → ltF d[mid + m - s]! d[s - 1]! = false) (hr : s < m → m < mid + m - s → ltF d[mid + m - s - 1]! d[s]! = true)
    (h : (s < m ∧ m < mid + m - s ∧ Rot d s m (mid + m - s) d1) ∨ (¬ (s < m ∧ m < mid + m - s) ∧ d1 = d)) : Mid d a m b mid s d1 := by
  have hperm : PermIn a b d d1 := by
    rcases h with ⟨_, _, h⟩ | ⟨_, rfl⟩
    · exact permIn_mono _ _ _ _ _ _ has (by omega) hb h.perm
    · exact permIn_refl _ _ _
  have g1 : ∀ p, p < s → d1[p]! = d[p]! := fun p hp => by
    rcases h with ⟨_, _, h⟩ | ⟨_, rfl⟩
    · exact h.perm.2.1 p (.inl hp)
    · rfl
  have g2 : ∀ p, s ≤ p → p < mid → d1[p]! = d[m + (p - s)]! := fun p hp hp' => by
    rcases h with ⟨c1, c2, h⟩ | ⟨c, rfl⟩
    · exact h.lo p hp (by omega)
    · rw [show m + (p - s) = p by omega]
  have g3 : ∀ p, mid ≤ p → p < mid + m - s → d1[p]! = d[s + (p - mid)]! := fun p hp hp' => by
    rcases h with ⟨c1, c2, h⟩ | ⟨c, rfl⟩
    · rw [h.hi p (by omega) hp', show s + (p - (s + (mid + m - s - m))) = s + (p - mid) by omega]
    · rw [show s + (p - mid) = p by omega]
  have g4 : ∀ p, mid + m - s ≤ p → d1[p]! = d[p]! := fun p hp => by
    rcases h with ⟨_, _, h⟩ | ⟨_, rfl⟩
    · exact h.perm.2.1 p (.inr hp)
    · rfl
  refine ⟨hperm, fun p q hp hpq hq => ?_, fun p q hp hpq hq => ?_, fun p q hp hpq hq => ?_, fun p q hp hpq hq => ?_, fun p q hp hp' hq hq' => ?_⟩
  · rw [g1 p (by omega), g1 q hq]; exact h1 _ _ hp hpq (by omega)
  · rw [g2 p hp (by omega), g2 q (by omega) hq]; exact h2 _ _ (by omega) (by omega) (by omega)
  · rw [g3 p hp (by omega), g3 q (by omega) hq]; exact h1 _ _ (by omega) (by omega) (by omega)
  · rw [g4 p hp, g4 q (by omega)]; exact h2 _ _ (by omega) hpq hq
  · rcases Nat.lt_or_ge p s with c1 | c1
    · rw [g1 p c1]
      rcases Nat.lt_or_ge q (mid + m - s) with c2 | c2
      · rw [g3 q hq c2]; exact h1 _ _ hp (by omega) (by omega)
      · rw [g4 q c2]
        have hx := hl (by omega) (by omega)
        have hy : ltF d[q]! d[s - 1]! = false := by
          rcases Nat.eq_or_lt_of_le c2 with c3 | c3
          · rw [← c3]; exact hx
          · exact swoF.ntrans _ _ _ (h2 _ _ (by omega) c3 hq') hx
        rcases Nat.eq_or_lt_of_le (show p ≤ s - 1 by omega) with c3 | c3
        · rw [c3]; exact hy
        · exact swoF.ntrans _ _ _ hy (h1 _ _ hp c3 (by omega))
    · rw [g2 p c1 hp']
      rcases Nat.lt_or_ge q (mid + m - s) with c2 | c2
      · rw [g3 q hq c2]
        have hx := hr (by omega) (by omega)
        -- d[end-1] < d[s]
        have hy : ltF d[s]! d[mid + m - s - 1]! = false := swoF.asymmA hx
        have hz : ltF d[s]! d[m + (p - s)]! = false := by
          rcases Nat.eq_or_lt_of_le (show m + (p - s) ≤ mid + m - s - 1 by omega) with c3 | c3
          · rw [c3]; exact hy
          · cases e : ltF d[s]! d[m + (p - s)]! with
            | false => rfl
            | true =>
              have := swoF.trans _ _ _ hx e
              rw [h2 _ _ (by omega) c3 (by omega)] at this
              cases this
        rcases Nat.eq_or_lt_of_le (show s ≤ s + (q - mid) by omega) with c3 | c3
        · rw [← c3]; exact hz
        · exact swoF.ntrans _ _ _ (h1 _ _ has c3 (by omega)) hz
      · rw [g4 q c2]; exact h2 _ _ (by omega) (by omega) hq'

/-- Both halves merged. -/
theorem Mid.done {d d1 d2 d3 : Array Fd} {a m b mid s : Nat} (h : Mid d a m b mid s d1) (hb : b ≤ d.size) (hm1 : a ≤ mid) (hm2 : mid ≤ b) (hL : Mg d1 a mid d2) (hR : Mg d2 mid b d3) : Mg d a b d3 := by
  have hs1 : d1.size = d.size := h.perm.1
  have hs2 : d2.size = d1.size := hL.perm.1
  refine ⟨permIn_trans _ _ _ _ _ h.perm (permIn_trans _ _ _ _ _ (permIn_mono _ _ _ _ _ _ (Nat.le_refl _) hm2 (by omega) hL.perm) (permIn_mono _ _ _ _ _ _ hm1 (Nat.le_refl _) (by omega) hR.perm)), fun p q hp hpq hq => ?_⟩
  have hcross : ∀ p q, a ≤ p → p < mid → mid ≤ q → q < b → ltF d3[q]! d3[p]! = false := by
    intro p q hp hp' hq hq'
    have e3 : d3[p]! = d2[p]! := hR.perm.2.1 p (by omega)
    rw [e3]
    have c2 : ∀ q, mid ≤ q → q < b → ltF d2[q]! d2[p]! = false := fun q hq hq' => by
      rw [hL.perm.2.1 q (by omega)]
      exact permIn_all d1 d2 a mid (fun x => ltF d1[q]! x = false) (by omega) hL.perm (fun i h1 h2 => h.cross i q h1 h2 hq hq') p hp hp'
    exact permIn_all d2 d3 mid b (fun x => ltF x d2[p]! = false) (by omega) hR.perm c2 q hq hq'
  rcases Nat.lt_or_ge q mid with c1 | c1
  · rw [hR.perm.2.1 p (by omega), hR.perm.2.1 q (by omega)]; exact hL.sorted p q hp hpq c1
  · rcases Nat.lt_or_ge p mid with c2 | c2
    · exact hcross p q hp c2 c1 hq
    · exact hR.sorted p q c2 hpq hq

end Go.Proofs.YtfdbjgdafolbmaaDoor

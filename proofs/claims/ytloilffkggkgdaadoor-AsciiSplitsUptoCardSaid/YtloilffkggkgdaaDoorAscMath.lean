/-
  PLAIN MATHEMATICS OF CHAPTER 1: the length of a valid sequence of bytes, the repaired string, the number of damaged bytes; no program in sight.
-/
import Derived.Below
namespace Go.Proofs.YtloilffkggkgdaaDoor.Asc

/-- The byte at an index, as a number; 999 if there is none. -/
def at_ (l : List UInt8) (i : Nat) : Nat := match l[i]? with | some c => c.toNat | none => 999
/-- There is a byte from lo to hi at an index. -/
def inAt (l : List UInt8) (i lo hi : Nat) : Bool := decide (lo ≤ at_ l i ∧ at_ l i ≤ hi)

def lo1 (c : Nat) : Nat := if c = 224 then 160 else if c = 240 then 144 else 128
def hi1 (c : Nat) : Nat := if c = 237 then 159 else if c = 244 then 143 else 191

/-- The length of the valid sequence at the beginning; 0 if there is none. -/
def vlen (l : List UInt8) : Nat :=
  let c := at_ l 0
  if c < 128 then 1
  else if c < 194 then 0
  else if c < 224 then (if inAt l 1 128 191 then 2 else 0)
  else if c < 240 then (if inAt l 1 (lo1 c) (hi1 c) && inAt l 2 128 191 then 3 else 0)
  else if c < 245 then (if inAt l 1 (lo1 c) (hi1 c) && (inAt l 2 128 191 && inAt l 3 128 191) then 4 else 0)
  else 0

theorem at_none {l : List UInt8} {i : Nat} (h : l.length ≤ i) : at_ l i = 999 := by
  unfold at_; rw [List.getElem?_eq_none h]
theorem at_lt {l : List UInt8} {i : Nat} (h : at_ l i ≤ 255) : i < l.length := by
  rcases Nat.lt_or_ge i l.length with c | c
  · exact c
  · rw [at_none c] at h; omega
theorem at_of {l : List UInt8} {i : Nat} (h : i < l.length) : at_ l i = l[i].toNat := by
  unfold at_; rw [List.getElem?_eq_getElem h]
theorem at_le {l : List UInt8} {i : Nat} (h : i < l.length) : at_ l i ≤ 255 := by
  rw [at_of h]; have := l[i].toNat_lt; omega
theorem inAt_iff (l : List UInt8) (i lo hi : Nat) : inAt l i lo hi = true ↔ lo ≤ at_ l i ∧ at_ l i ≤ hi := by unfold inAt; simp

theorem hi1_le (c : Nat) : hi1 c ≤ 191 := by unfold hi1; split <;> (try split) <;> omega
theorem lo1_le (c : Nat) : 128 ≤ lo1 c ∧ lo1 c ≤ 160 := by unfold lo1; split <;> (try split) <;> omega

theorem vlen_le (l : List UInt8) : vlen l ≤ l.length := by
  unfold vlen
  simp only
  by_cases c1 : at_ l 0 < 128
  · rw [if_pos c1]; exact at_lt (by omega)
  rw [if_neg c1]
  by_cases c2 : at_ l 0 < 194
  · rw [if_pos c2]; omega
  rw [if_neg c2]
  by_cases c3 : at_ l 0 < 224
  · rw [if_pos c3]
    by_cases d : inAt l 1 128 191 = true
    · rw [if_pos d]; rw [inAt_iff] at d; exact at_lt (by omega)
    · rw [if_neg d]; omega
  rw [if_neg c3]
  by_cases c4 : at_ l 0 < 240
  · rw [if_pos c4]
    by_cases d : (inAt l 1 (lo1 (at_ l 0)) (hi1 (at_ l 0)) && inAt l 2 128 191) = true
    · rw [if_pos d]; simp only [Bool.and_eq_true, inAt_iff] at d; exact at_lt (by omega)
    · rw [if_neg d]; omega
  rw [if_neg c4]
  by_cases c5 : at_ l 0 < 245
  · rw [if_pos c5]
    by_cases d : (inAt l 1 (lo1 (at_ l 0)) (hi1 (at_ l 0)) && (inAt l 2 128 191 && inAt l 3 128 191)) = true
    · rw [if_pos d]; simp only [Bool.and_eq_true, inAt_iff] at d; exact at_lt (by omega)
    · rw [if_neg d]; omega
  · rw [if_neg c5]; omega

theorem at_take {l r : List UInt8} {n i : Nat} (hn : n ≤ l.length) (h : i < n) : at_ (l.take n ++ r) i = at_ l i := by
  unfold at_
  rw [List.getElem?_append_left (by simp; omega), List.getElem?_take_of_lt h]
theorem inAt_take {l r : List UInt8} {n i lo hi : Nat} (hn : n ≤ l.length) (h : i < n) : inAt (l.take n ++ r) i lo hi = inAt l i lo hi := by
  unfold inAt; rw [at_take hn h]

/-- A valid sequence is valid whatever follows it. -/
theorem vlen_take (l r : List UInt8) (h : vlen l ≠ 0) : vlen (l.take (vlen l) ++ r) = vlen l := by
  have hle := vlen_le l
  generalize hv : vlen l = n at *
  have h0 : at_ (l.take n ++ r) 0 = at_ l 0 := at_take hle (by omega)
  unfold vlen at hv ⊢
  simp only at hv ⊢
  rw [h0]
  by_cases c1 : at_ l 0 < 128
  · rw [if_pos c1] at hv ⊢; exact hv
  rw [if_neg c1] at hv ⊢
  by_cases c2 : at_ l 0 < 194
  · rw [if_pos c2] at hv ⊢; exact hv
  rw [if_neg c2] at hv ⊢
  by_cases c3 : at_ l 0 < 224
  · rw [if_pos c3] at hv ⊢
    by_cases d : inAt l 1 128 191 = true
    · rw [if_pos d] at hv
      rw [inAt_take hle (by omega), if_pos d]; exact hv
    · rw [if_neg d] at hv; omega
  rw [if_neg c3] at hv ⊢
  by_cases c4 : at_ l 0 < 240
  · rw [if_pos c4] at hv ⊢
    by_cases d : (inAt l 1 (lo1 (at_ l 0)) (hi1 (at_ l 0)) && inAt l 2 128 191) = true
    · rw [if_pos d] at hv
      rw [inAt_take hle (by omega), inAt_take hle (by omega), if_pos d]; exact hv
    · rw [if_neg d] at hv; omega
  rw [if_neg c4] at hv ⊢
  by_cases c5 : at_ l 0 < 245
  · rw [if_pos c5] at hv ⊢
    by_cases d : (inAt l 1 (lo1 (at_ l 0)) (hi1 (at_ l 0)) && (inAt l 2 128 191 && inAt l 3 128 191)) = true
    · rw [if_pos d] at hv
      rw [inAt_take hle (by omega), inAt_take hle (by omega), inAt_take hle (by omega), if_pos d]; exact hv
    · rw [if_neg d] at hv; omega
  · rw [if_neg c5] at hv; omega

/-- What follows the first byte decides. -/
structure VShape (l : List UInt8) (n lo hi : Nat) : Prop where
  no1 : inAt l 1 lo hi = false → vlen l = 0
  nox : ∀ x, 2 ≤ x → x < n → inAt l x 128 191 = false → vlen l = 0
  yes : inAt l 1 lo hi = true → (∀ x, 2 ≤ x → x < n → inAt l x 128 191 = true) → vlen l = n

theorem vshape2 {l : List UInt8} (h1 : 194 ≤ at_ l 0) (h2 : at_ l 0 < 224) : VShape l 2 128 191 := by
  have e : vlen l = if inAt l 1 128 191 then 2 else 0 := by
    unfold vlen; simp only; rw [if_neg (by omega), if_neg (by omega), if_pos h2]
  exact ⟨fun h => by rw [e, h]; rfl, fun x _ _ => by omega, fun h _ => by rw [e, h]; rfl⟩
theorem vshape3 {l : List UInt8} (h1 : 224 ≤ at_ l 0) (h2 : at_ l 0 < 240) : VShape l 3 (lo1 (at_ l 0)) (hi1 (at_ l 0)) := by
  have e : vlen l = if inAt l 1 (lo1 (at_ l 0)) (hi1 (at_ l 0)) && inAt l 2 128 191 then 3 else 0 := by
    unfold vlen; simp only; rw [if_neg (by omega), if_neg (by omega), if_neg (by omega), if_pos h2]
  refine ⟨fun h => by rw [e, h]; rfl, fun x hx1 hx2 h => ?_, fun h hx => by rw [e, h, hx 2 (by omega) (by omega)]; rfl⟩
  obtain rfl : x = 2 := by omega
  rw [e, h, Bool.and_false]; rfl
theorem vshape4 {l : List UInt8} (h1 : 240 ≤ at_ l 0) (h2 : at_ l 0 < 245) : VShape l 4 (lo1 (at_ l 0)) (hi1 (at_ l 0)) := by
  have e : vlen l = if inAt l 1 (lo1 (at_ l 0)) (hi1 (at_ l 0)) && (inAt l 2 128 191 && inAt l 3 128 191) then 4 else 0 := by
    unfold vlen; simp only; rw [if_neg (by omega), if_neg (by omega), if_neg (by omega), if_neg (by omega), if_pos h2]
  refine ⟨fun h => by rw [e, h]; rfl, fun x hx1 hx2 h => ?_, fun h hx => by rw [e, h, hx 2 (by omega) (by omega), hx 3 (by omega) (by omega)]; rfl⟩
  obtain rfl | rfl : x = 2 ∨ x = 3 := by omega
  · rw [e, h, Bool.false_and, Bool.and_false]; rfl
  · rw [e, h, Bool.and_false, Bool.and_false]; rfl
theorem vlen_1 {l : List UInt8} (h : at_ l 0 < 128) : vlen l = 1 := by unfold vlen; simp only; rw [if_pos h]
theorem vlen_0 {l : List UInt8} (h : 128 ≤ at_ l 0) (h2 : at_ l 0 < 194 ∨ 245 ≤ at_ l 0) : vlen l = 0 := by
  unfold vlen; simp only; rw [if_neg (by omega)]
  rcases h2 with h2 | h2
  · rw [if_pos h2]
  · rw [if_neg (by omega), if_neg (by omega), if_neg (by omega), if_neg (by omega)]

/-- The repaired string. -/
def rep : Nat → List UInt8 → List UInt8
  | 0, _ => []
  | _ + 1, [] => []
  | k + 1, c :: l => if vlen (c :: l) = 0 then 63 :: rep k l else (c :: l).take (vlen (c :: l)) ++ rep k ((c :: l).drop (vlen (c :: l)))
/-- The number of damaged bytes. -/
def bad : Nat → List UInt8 → Nat
  | 0, _ => 0
  | _ + 1, [] => 0
  | k + 1, c :: l => if vlen (c :: l) = 0 then 1 + bad k l else bad k ((c :: l).drop (vlen (c :: l)))

theorem rep_enough : ∀ (k m : Nat) (l : List UInt8), l.length ≤ k → l.length ≤ m → rep k l = rep m l ∧ bad k l = bad m l
  | 0, m, l, hk, _ => by
    obtain rfl : l = [] := List.length_eq_zero_iff.1 (by omega)
    cases m <;> exact ⟨rfl, rfl⟩
  | k + 1, 0, l, _, hm => by
    obtain rfl : l = [] := List.length_eq_zero_iff.1 (by omega)
    exact ⟨rfl, rfl⟩
  | k + 1, m + 1, [], _, _ => ⟨rfl, rfl⟩
  | k + 1, m + 1, c :: l, hk, hm => by
    simp only [List.length_cons] at hk hm
    unfold rep bad
    by_cases h : vlen (c :: l) = 0
    · have := rep_enough k m l (by omega) (by omega)
      rw [if_pos h, if_pos h, if_pos h, if_pos h, this.1, this.2]
      exact ⟨rfl, rfl⟩
    · have := rep_enough k m ((c :: l).drop (vlen (c :: l))) (by simp; omega) (by simp; omega)
      rw [if_neg h, if_neg h, if_neg h, if_neg h, this.1, this.2]
      exact ⟨rfl, rfl⟩

def repL (l : List UInt8) : List UInt8 := rep l.length l
def badL (l : List UInt8) : Nat := bad l.length l

theorem repL_nil : repL [] = [] := rfl
theorem badL_nil : badL [] = 0 := rfl
theorem repL_bad {l : List UInt8} (h0 : l ≠ []) (h : vlen l = 0) : repL l = 63 :: repL (l.drop 1) ∧ badL l = 1 + badL (l.drop 1) := by
  cases l with
  | nil => exact absurd rfl h0
  | cons c l =>
    unfold repL badL
    simp only [List.length_cons, List.drop_succ_cons, List.drop_zero]
    constructor
    · conv => lhs; unfold rep
      rw [if_pos h]
    · conv => lhs; unfold bad
      rw [if_pos h]
theorem repL_good {l : List UInt8} (h0 : l ≠ []) (h : vlen l ≠ 0) : repL l = l.take (vlen l) ++ repL (l.drop (vlen l)) ∧ badL l = badL (l.drop (vlen l)) := by
  cases l with
  | nil => exact absurd rfl h0
  | cons c l =>
    unfold repL badL
    have e := rep_enough l.length ((c :: l).drop (vlen (c :: l))).length ((c :: l).drop (vlen (c :: l))) (by simp; omega) (Nat.le_refl _)
    simp only [List.length_cons]
    rw [← e.1, ← e.2]
    constructor
    · conv => lhs; unfold rep
      rw [if_neg h]
    · conv => lhs; unfold bad
      rw [if_neg h]

theorem repL_length (l : List UInt8) : (repL l).length = l.length := by
  generalize hk : l.length = k
  induction k using Nat.strongRecOn generalizing l with
  | _ k ih =>
    by_cases h0 : l = []
    · subst h0; rw [repL_nil]; simpa using hk
    have hpos : 0 < l.length := List.length_pos_iff.2 h0
    by_cases h : vlen l = 0
    · rw [(repL_bad h0 h).1]
      have := ih (l.drop 1).length (by simp; omega) (l.drop 1) rfl
      simp only [List.length_cons, this, List.length_drop]; omega
    · rw [(repL_good h0 h).1]
      have hle := vlen_le l
      have := ih (l.drop (vlen l)).length (by simp; omega) (l.drop (vlen l)) rfl
      simp only [List.length_append, List.length_take, this, List.length_drop]; omega

theorem vlen_63 (r : List UInt8) : vlen (63 :: r) = 1 := by
  unfold vlen
  simp only
  rw [if_pos (show at_ (63 :: r) 0 < 128 by unfold at_; simp)]

/-- Repairing again changes nothing, and finds nothing. -/
theorem repL_again (l : List UInt8) : repL (repL l) = repL l ∧ badL (repL l) = 0 := by
  generalize hk : l.length = k
  induction k using Nat.strongRecOn generalizing l with
  | _ k ih =>
    by_cases h0 : l = []
    · subst h0; exact ⟨rfl, rfl⟩
    have hpos : 0 < l.length := List.length_pos_iff.2 h0
    by_cases h : vlen l = 0
    · rw [(repL_bad h0 h).1]
      have hi := ih (l.drop 1).length (by simp; omega) (l.drop 1) rfl
      have hv := vlen_63 (repL (l.drop 1))
      have hg := repL_good (l := 63 :: repL (l.drop 1)) (by simp) (by omega)
      rw [hg.1, hg.2, hv]
      simp only [List.take_succ_cons, List.take_zero, List.drop_succ_cons, List.drop_zero, hi.1, hi.2]
      exact ⟨rfl, trivial⟩
    · rw [(repL_good h0 h).1]
      have hle := vlen_le l
      have hi := ih (l.drop (vlen l)).length (by simp; omega) (l.drop (vlen l)) rfl
      have hv := vlen_take l (repL (l.drop (vlen l))) h
      have hne : l.take (vlen l) ++ repL (l.drop (vlen l)) ≠ [] := by
        intro e
        have e2 : (l.take (vlen l) ++ repL (l.drop (vlen l))).length = 0 := by rw [e]; rfl
        rw [List.length_append, repL_length, List.length_take, List.length_drop] at e2
        omega
      have hg := repL_good hne (by rw [hv]; exact h)
      rw [hg.1, hg.2, hv]
      have ht : (l.take (vlen l) ++ repL (l.drop (vlen l))).take (vlen l) = l.take (vlen l) := by
        rw [List.take_append_of_le_length (by rw [List.length_take]; omega), List.take_take, Nat.min_self]
      have hd : (l.take (vlen l) ++ repL (l.drop (vlen l))).drop (vlen l) = repL (l.drop (vlen l)) := by
        rw [List.drop_append_of_le_length (by rw [List.length_take]; omega)]
        rw [List.drop_of_length_le (by rw [List.length_take]; omega), List.nil_append]
      rw [ht, hd, hi.1, hi.2]
      exact ⟨rfl, rfl⟩

end Go.Proofs.YtloilffkggkgdaaDoor.Asc

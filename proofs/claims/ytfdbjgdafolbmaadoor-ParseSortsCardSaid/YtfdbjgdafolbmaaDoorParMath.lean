/-
  PLAIN MATHEMATICS OF CHAPTER 11: what is read within quotation marks, fields that are separated by a byte; no program in sight.
-/
import Derived.Test.YtfdbjgdafolbmaaDoorStr
namespace Go.Proofs.YtfdbjgdafolbmaaDoor.Asc

/-- What follows an opening quotation mark, with backslashes: the value and the rest. -/
def qd : List UInt8 → List UInt8 → Option (List UInt8 × List UInt8)
  | [], _ => none
  | [c], acc => if c = 34 then some (acc, []) else none
  | c :: d :: r, acc => if c = 34 then some (acc, d :: r) else if c = 92 then (if d = 34 ∨ d = 92 then qd r (acc ++ [d]) else none) else qd (d :: r) (acc ++ [c])
/-- What follows an opening quotation mark, doubled ones standing for one. -/
def dq : List UInt8 → List UInt8 → Option (List UInt8 × List UInt8)
  | [], _ => none
  | [c], acc => if c = 34 then some (acc, []) else none
  | c :: d :: r, acc => if c = 34 then (if d = 34 then dq r (acc ++ [34]) else some (acc, d :: r)) else dq (d :: r) (acc ++ [c])

theorem qd_end (l acc : List UInt8) : qd (l.drop l.length) acc = none := by rw [List.drop_length, qd]
theorem qd_q {l : List UInt8} {k : Nat} (h : k < l.length) (hc : l[k] = 34) (acc : List UInt8) : qd (l.drop k) acc = some (acc, l.drop (k + 1)) := by
  rw [drop_cons h, hc]
  generalize l.drop (k + 1) = r
  cases r <;> simp [qd]
theorem qd_o {l : List UInt8} {k : Nat} (h : k < l.length) (h1 : l[k] ≠ 34) (h2 : l[k] ≠ 92) (acc : List UInt8) : qd (l.drop k) acc = qd (l.drop (k + 1)) (acc ++ [l[k]]) := by
  rw [drop_cons h]
  generalize l[k] = c at *
  generalize l.drop (k + 1) = r
  cases r with
  | nil => simp [qd, h1]
  | cons d r => rw [qd, if_neg h1, if_neg h2]
theorem qd_b {l : List UInt8} {k : Nat} (h : k + 1 < l.length) (h1 : l[k] = 92) (h2 : l[k + 1] = 34 ∨ l[k + 1] = 92) (acc : List UInt8) : qd (l.drop k) acc = qd (l.drop (k + 2)) (acc ++ [l[k + 1]]) := by
  rw [drop_cons (show k < l.length by omega), drop_cons h, h1, qd, if_neg (by decide), if_pos rfl, if_pos h2]
theorem qd_n {l : List UInt8} {k : Nat} (h : k < l.length) (h1 : l[k] = 92) (h2 : ∀ h : k + 1 < l.length, ¬ (l[k + 1] = 34 ∨ l[k + 1] = 92)) (acc : List UInt8) : qd (l.drop k) acc = none := by
  rw [drop_cons h, h1]
  rcases Nat.lt_or_ge (k + 1) l.length with c | c
  · rw [drop_cons c, qd, if_neg (by decide), if_pos rfl, if_neg (h2 c)]
  · rw [List.drop_of_length_le c, qd, if_neg (by decide)]

theorem dq_end (l acc : List UInt8) : dq (l.drop l.length) acc = none := by rw [List.drop_length, dq]
theorem dq_o {l : List UInt8} {k : Nat} (h : k < l.length) (h1 : l[k] ≠ 34) (acc : List UInt8) : dq (l.drop k) acc = dq (l.drop (k + 1)) (acc ++ [l[k]]) := by
  rw [drop_cons h]
  generalize l[k] = c at *
  generalize l.drop (k + 1) = r
  cases r with
  | nil => simp [dq, h1]
  | cons d r => rw [dq, if_neg h1]
theorem dq_d {l : List UInt8} {k : Nat} (h : k + 1 < l.length) (h1 : l[k] = 34) (h2 : l[k + 1] = 34) (acc : List UInt8) : dq (l.drop k) acc = dq (l.drop (k + 2)) (acc ++ [34]) := by
  rw [drop_cons (show k < l.length by omega), drop_cons h, h1, dq, if_pos rfl, if_pos h2]
theorem dq_q {l : List UInt8} {k : Nat} (h : k < l.length) (h1 : l[k] = 34) (h2 : ∀ h : k + 1 < l.length, l[k + 1] ≠ 34) (acc : List UInt8) : dq (l.drop k) acc = some (acc, l.drop (k + 1)) := by
  rw [drop_cons h, h1]
  rcases Nat.lt_or_ge (k + 1) l.length with c | c
  · rw [drop_cons c, dq, if_pos rfl, if_neg (h2 c)]
  · rw [List.drop_of_length_le c, dq, if_pos rfl]

/-- The results as Go hands them back. -/
def vOf (r : Option (List UInt8 × List UInt8)) : List UInt8 := match r with | some x => x.1 | none => []
def rOf (r : Option (List UInt8 × List UInt8)) : List UInt8 := match r with | some x => x.2 | none => []

/-- A field up to a separator: the value, the rest, whether it is right. -/
def dlV (s : List UInt8) (sep : UInt8) : List UInt8 := if s.head? = some 34 then vOf (dq (s.drop 1) []) else s.take (pos s sep)
def dlR (s : List UInt8) (sep : UInt8) : List UInt8 := if s.head? = some 34 then rOf (dq (s.drop 1) []) else s.drop (pos s sep)
def dlB (s : List UInt8) (sep : UInt8) : Bool := if s.head? = some 34 then (dq (s.drop 1) []).isSome && (decide (dlR s sep = []) || decide ((dlR s sep).head? = some sep)) else true

theorem dq_len (n : Nat) : ∀ l acc : List UInt8, l.length ≤ n → (rOf (dq l acc)).length ≤ l.length := by
  induction n with
  | zero => intro l acc h; obtain rfl := List.length_eq_zero_iff.1 (by omega : l.length = 0); simp [dq, rOf]
  | succ n ih =>
    intro l acc h
    match l with
    | [] => simp [dq, rOf]
    | [c] => unfold dq; split <;> simp [rOf]
    | c :: d :: r =>
      simp only [List.length_cons] at h ⊢
      unfold dq
      split
      · split
        · have := ih r (acc ++ [34]) (by omega); omega
        · simp [rOf]
      · have := ih (d :: r) (acc ++ [c]) (by simp; omega); simp at this; omega
theorem dlR_le (s : List UInt8) (sep : UInt8) : (dlR s sep).length ≤ s.length := by
  unfold dlR
  split
  · have := dq_len _ (s.drop 1) [] (Nat.le_refl _); rw [List.length_drop] at this; omega
  · rw [List.length_drop]; omega

/-- All fields. -/
def dall : Nat → List UInt8 → UInt8 → Option (List (List UInt8))
  | 0, _, _ => none
  | f + 1, s, sep => if dlB s sep then (if dlR s sep = [] then some [dlV s sep] else (dall f (dlR s sep).tail sep).map (dlV s sep :: ·)) else none
theorem dall_enough (sep : UInt8) : ∀ (f g : Nat) (s : List UInt8), s.length < f → s.length < g → dall f s sep = dall g s sep
  | 0, _, _, h, _ => by omega
  | _ + 1, 0, _, _, h => by omega
  | f + 1, g + 1, s, hf, hg => by
    unfold dall
    have hl := dlR_le s sep
    by_cases hr : dlR s sep = []
    · simp [hr]
    · have : (dlR s sep).tail.length < s.length := by
        rw [List.length_tail]
        have : 0 < (dlR s sep).length := List.length_pos_iff.2 hr
        omega
      rw [dall_enough sep f g (dlR s sep).tail (by omega) (by omega)]
def delimd (s : List UInt8) (sep : UInt8) : Option (List (List UInt8)) := dall (s.length + 1) s sep
theorem delimd_step (s : List UInt8) (sep : UInt8) : delimd s sep = if dlB s sep then (if dlR s sep = [] then some [dlV s sep] else (delimd (dlR s sep).tail sep).map (dlV s sep :: ·)) else none := by
  unfold delimd
  conv => lhs; unfold dall
  by_cases hr : dlR s sep = []
  · simp [hr]
  · have hl := dlR_le s sep
    have : (dlR s sep).tail.length < s.length := by
      rw [List.length_tail]
      have : 0 < (dlR s sep).length := List.length_pos_iff.2 hr
      omega
    rw [dall_enough sep s.length ((dlR s sep).tail.length + 1) (dlR s sep).tail this (by omega)]

/-! ### Fields that are quoted and joined -/
/-- Quotation marks doubled. -/
def dbl : List UInt8 → List UInt8
  | [] => []
  | c :: l => if c = 34 then 34 :: 34 :: dbl l else c :: dbl l
def special (sep : UInt8) (x : List UInt8) : Bool := x.any fun c => decide (c = 34) || decide (c = sep)
def item (sep : UInt8) (pl : Bool) (x : List UInt8) : List UInt8 := if special sep x || pl then 34 :: (dbl x ++ [34]) else x
def joinQ (sep : UInt8) (pl : Bool) : List (List UInt8) → List UInt8
  | [] => []
  | [x] => item sep pl x
  | x :: y :: r => item sep pl x ++ sep :: joinQ sep pl (y :: r)

theorem dq_dbl (x : List UInt8) : ∀ (r acc : List UInt8), r.head? ≠ some 34 → dq (dbl x ++ 34 :: r) acc = some (acc ++ x, r) := by
  induction x with
  | nil =>
    intro r acc h
    cases r with
    | nil => simp [dbl, dq]
    | cons d r =>
      have hd : d ≠ 34 := fun e => h (by simp [e])
      simp [dbl, dq, hd]
  | cons c x ih =>
    intro r acc h
    have hi := ih r (acc ++ [c]) h
    unfold dbl
    by_cases hc : c = 34
    · subst hc
      rw [if_pos rfl]
      simp only [List.cons_append]
      rw [dq, if_pos rfl, if_pos rfl, hi]
      simp
    · rw [if_neg hc]
      have hne : ∃ d t, dbl x ++ 34 :: r = d :: t := by
        cases e : dbl x ++ 34 :: r with
        | nil => simp at e
        | cons d t => exact ⟨d, t, rfl⟩
      obtain ⟨d, t, e⟩ := hne
      rw [e] at hi
      rw [List.cons_append, e, dq, if_neg hc, hi]
      simp
theorem pos_app {x r : List UInt8} {sep : UInt8} (h : ∀ c ∈ x, c ≠ sep) (hr : r = [] ∨ r.head? = some sep) : pos (x ++ r) sep = x.length := by
  induction x with
  | nil =>
    rcases hr with rfl | hr
    · rfl
    · cases r with
      | nil => cases hr
      | cons d r => simp at hr; subst hr; simp [pos, List.findIdx_cons]
  | cons c x ih =>
    have hc := h c (by simp)
    have := ih (fun d hd => h d (List.mem_cons_of_mem _ hd))
    unfold pos at this ⊢
    rw [List.cons_append, List.findIdx_cons, this, beq_eq_false_iff_ne.2 hc]
    rfl
theorem special_no {sep : UInt8} {x : List UInt8} (h : special sep x = false) : ∀ c ∈ x, c ≠ 34 ∧ c ≠ sep := by
  intro c hc
  unfold special at h
  rw [List.any_eq_false] at h
  have := h c hc
  simp at this
  exact this
theorem item_read {sep : UInt8} (hs : sep ≠ 34) (pl : Bool) (x r : List UInt8) (hr : r = [] ∨ r.head? = some sep) :
    dlV (item sep pl x ++ r) sep = x ∧ dlR (item sep pl x ++ r) sep = r ∧ dlB (item sep pl x ++ r) sep = true := by
  have h34 : r.head? ≠ some 34 := by
    rcases hr with rfl | hr
    · simp
    · rw [hr]; simpa using hs
  unfold item
  by_cases hq : (special sep x || pl) = true
  · rw [if_pos hq]
    have hh : (34 :: (dbl x ++ [34]) ++ r).head? = some 34 := rfl
    have hd : (34 :: (dbl x ++ [34]) ++ r).drop 1 = dbl x ++ 34 :: r := by simp
    have hR : dlR (34 :: (dbl x ++ [34]) ++ r) sep = r := by unfold dlR; rw [if_pos hh, hd, dq_dbl x r [] h34]; rfl
    refine ⟨?_, hR, ?_⟩
    · unfold dlV; rw [if_pos hh, hd, dq_dbl x r [] h34]; rfl
    · unfold dlB; rw [if_pos hh, hR, hd, dq_dbl x r [] h34]
      rcases hr with rfl | hr
      · simp
      · simp [hr]
  · rw [if_neg hq]
    have hsp : special sep x = false := by simp at hq; exact hq.1
    have hn := special_no hsp
    have hh : (x ++ r).head? ≠ some 34 := by
      cases x with
      | nil => exact h34
      | cons c x => have := (hn c (by simp)).1; simpa using this
    have hp := pos_app (fun c hc => (hn c hc).2) hr
    refine ⟨?_, ?_, ?_⟩
    · unfold dlV; rw [if_neg hh, hp, List.take_left]
    · unfold dlR; rw [if_neg hh, hp, List.drop_left]
    · unfold dlB; rw [if_neg hh]
/-- Fields that are quoted and joined are split again. -/
theorem delimd_join {sep : UInt8} (hs : sep ≠ 34) (pl : Bool) : ∀ l : List (List UInt8), l ≠ [] → delimd (joinQ sep pl l) sep = some l
  | [], h => absurd rfl h
  | [x], _ => by
    obtain ⟨h1, h2, h3⟩ := item_read hs pl x [] (.inl rfl)
    rw [List.append_nil] at h1 h2 h3
    rw [joinQ, delimd_step, h1, h2, h3]
    rfl
  | x :: y :: r, _ => by
    obtain ⟨h1, h2, h3⟩ := item_read hs pl x (sep :: joinQ sep pl (y :: r)) (.inr rfl)
    rw [joinQ, delimd_step, h1, h2, h3, if_pos rfl, if_neg (by simp), List.tail_cons, delimd_join hs pl (y :: r) (by simp)]
    rfl
theorem joinQ_snoc (sep : UInt8) (pl : Bool) (l : List (List UInt8)) (x : List UInt8) (h : l ≠ []) : joinQ sep pl (l ++ [x]) = joinQ sep pl l ++ [sep] ++ item sep pl x := by
  induction l with
  | nil => exact absurd rfl h
  | cons a l ih =>
    cases l with
    | nil => simp [joinQ]
    | cons b l =>
      have := ih (by simp)
      rw [List.cons_append] at this
      rw [List.cons_append, List.cons_append, joinQ, this, joinQ]
      simp

end Go.Proofs.YtfdbjgdafolbmaaDoor.Asc

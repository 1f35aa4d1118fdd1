/-
  The decoder, plainly: members, an object, objects within objects.
-/
import Derived.Test.YtfdbjgdafolbmaaDoorJsL
namespace Go.Proofs.YtfdbjgdafolbmaaDoor
open Go.RowKit Go.Sort Go.Shelf
namespace Js

theorem hdc (c : UInt8) (q : List UInt8) : (c :: q).head? = some c := rfl
theorem blk_suf (r : List UInt8) : blk r <:+ r := List.dropWhile_suffix _
theorem exp_eq {c : UInt8} {r q : List UInt8} (h : exp c r = some q) : blk r = c :: q := by
  unfold exp at h
  split at h
  · rename_i h1
    injection h with h
    revert h1 h
    cases blk r with
    | nil => intro h; cases h
    | cons d t => intro h1 h2; injection h1 with h1; rw [h1, ← h2]; rfl
  · cases h
theorem exp_suf {c : UInt8} {r q : List UInt8} (h : exp c r = some q) : q <:+ r := by
  have h1 := blk_suf r
  rw [exp_eq h] at h1
  exact (List.suffix_cons c q).trans h1
theorem txtL_suf : ∀ (n : Nat) (r acc : List UInt8) (x : List UInt8 × List UInt8), r.length ≤ n → txtL r acc = some x → x.2 <:+ r := by
  intro n
  induction n with
  | zero =>
    intro r acc x hn h
    obtain rfl : r = [] := List.length_eq_zero_iff.1 (by omega)
    simp [txtL] at h
  | succ n ih =>
    intro r acc x hn h
    cases r with
    | nil => simp [txtL] at h
    | cons c r =>
      by_cases h32 : c.toNat < 32
      · rw [txtL_low h32] at h; cases h
      · by_cases h34 : c = 34
        · subst h34
          rw [txtL_q] at h
          injection h with h
          subst h
          exact List.suffix_cons _ _
        · by_cases h92 : c = 92
          · subst h92
            cases r with
            | nil => rw [txtL_bn (fun _ _ h => by cases h)] at h; cases h
            | cons d r =>
              cases hu : unesc d with
              | none => rw [txtL_bn (fun d' q e => by injection e with e1 e2; rw [← e1]; exact hu)] at h; cases h
              | some y =>
                rw [txtL_b hu] at h
                exact ((ih r _ x (by simp at hn; omega) h).trans (List.suffix_cons _ _)).trans (List.suffix_cons _ _)
          · rw [txtL_o h32 h34 h92] at h
            exact (ih r _ x (by simp at hn; omega) h).trans (List.suffix_cons _ _)
theorem txt_suf {r : List UInt8} {x : List UInt8 × List UInt8} (h : txt r = some x) : x.2 <:+ r := by
  unfold txt at h
  cases he : exp 34 r with
  | none => rw [he] at h; cases h
  | some q =>
    rw [he] at h
    exact (txtL_suf q.length q [] x (Nat.le_refl _) h).trans (exp_suf he)
theorem pick3_suf {q : List UInt8} {y : List UInt8 × List UInt8} (h : pick3 q = some y) : y.2 <:+ q := by
  cases q with
  | nil => cases h
  | cons c q =>
    unfold pick3 at h
    simp only at h
    split at h
    · exact txt_suf h
    · split at h
      · unfold num at h
        split at h
        · cases h
        · injection h with h
          subst h
          refine (List.dropWhile_suffix _).trans ?_
          unfold unsgn
          split
          · exact List.tail_suffix _
          · exact List.suffix_refl _
      · unfold wrd at h
        split at h
        · injection h with h; subst h; exact List.drop_suffix _ _
        · split at h
          · injection h with h; subst h; exact List.drop_suffix _ _
          · split at h
            · injection h with h; subst h; exact List.drop_suffix _ _
            · cases h
theorem not_mem_suf {c : UInt8} {a r : List UInt8} (h : a <:+ r) (hr : c ∉ r) : c ∉ a := fun hm => hr (h.subset hm)
theorem head_ne {r : List UInt8} (h : 123 ∉ r) : (blk r).head? ≠ some 123 := fun e => not_mem_suf (blk_suf r) h (List.mem_of_head? e)
theorem val_t (k : Nat) {r : List UInt8} (h : 123 ∉ r) (ob : List UInt8 → List UInt8 → Res) (nm : List UInt8) :
    val ob nm r = one nm (pick3 (blk r)) ∧ val ob nm (r ++ br k) = one nm ((pick3 (blk r)).map (app (br k))) := by
  refine ⟨val_pick ob nm r (head_ne h), ?_⟩
  rw [val_pick ob nm _ (head_ne ?_), pick_br]
  intro hm
  rcases List.mem_append.1 hm with h' | h'
  · exact h h'
  · exact absurd (br_mem h') (by decide)

def Good (k n : Nat) (r : List UInt8) : Prop :=
  ∃ (r' : List UInt8) (d : List Fd), (∀ ob pre, mem (val ob) pre n r = .ok r' (d.map (px pre))) ∧ (∀ ob pre, mem (val ob) pre n (r ++ br k) = .ok (r' ++ br k) (d.map (px pre))) ∧ (∃ u, r = u ++ 125 :: r') ∧ 4 * d.length + r'.length ≤ r.length ∧ ∀ x ∈ d, x.1.length ≤ r.length
def Wrong (k n : Nat) (r : List UInt8) : Prop :=
  (∀ ob pre, mem (val ob) pre n r = .err 1) ∧ ((∀ ob pre, mem (val ob) pre n (r ++ br k) = .err 1) ∨ ∃ j, k = j + 1 ∧ ∀ ob pre, ∃ fs, mem (val ob) pre n (r ++ br k) = .ok (br j) fs)
theorem mem_t (k : Nat) : ∀ (n : Nat) (r : List UInt8), 123 ∉ r → Good k n r ∨ Wrong k n r := by
  intro n
  induction n with
  | zero => intro r _; exact .inr ⟨fun _ _ => rfl, .inl fun _ _ => rfl⟩
  | succ n ih =>
    intro r hr
    have hbr := txt_br r k
    cases ht : txt r with
    | none =>
      rw [ht] at hbr
      refine .inr ⟨fun ob pre => by rw [mem, ht], .inl fun ob pre => ?_⟩
      rw [mem, hbr]; rfl
    | some x =>
      rw [ht] at hbr
      have l1 := txt_len ht
      have s1 := txt_suf ht
      have n1 := not_mem_suf s1 hr
      have hex := exp_br 58 (by decide) x.2 k
      cases he : exp 58 x.2 with
      | none =>
        rw [he] at hex
        refine .inr ⟨fun ob pre => by rw [mem, ht]; simp only [he], .inl fun ob pre => ?_⟩
        rw [mem, hbr]
        simp only [Option.map_some, app, hex, Option.map_none]
      | some r2 =>
        rw [he] at hex
        have l2 := exp_len he
        have s2 := exp_suf he
        have n2 := not_mem_suf s2 n1
        have hv := val_t k n2
        cases hp : pick3 (blk r2) with
        | none =>
          simp only [hp, one, Option.map_none] at hv
          refine .inr ⟨fun ob pre => by rw [mem, ht]; simp only [he, (hv ob (pre ++ x.1)).1], .inl fun ob pre => ?_⟩
          rw [mem, hbr]
          simp only [Option.map_some, app, hex, (hv ob (pre ++ x.1)).2]
        | some y =>
          simp only [hp, one, Option.map_some, app] at hv
          have l3 := pick3_len hp
          have lb := blk_len r2
          have s3 := (pick3_suf hp).trans (blk_suf r2)
          have n3 := not_mem_suf s3 n2
          have hm1 : ∀ ob pre, mem (val ob) pre (n + 1) r = if (blk y.2).head? = some 125 then .ok (blk y.2).tail [(pre ++ x.1, y.1)] else
              match exp 44 y.2 with | none => .err 1 | some r4 => match mem (val ob) pre n r4 with | .err c => .err c | .ok r5 fs2 => .ok r5 ([(pre ++ x.1, y.1)] ++ fs2) := fun ob pre => by
            rw [mem, ht]; simp only [he, (hv ob (pre ++ x.1)).1]; rfl
          have hm2 : ∀ ob pre, mem (val ob) pre (n + 1) (r ++ br k) = if (blk (y.2 ++ br k)).head? = some 125 then .ok (blk (y.2 ++ br k)).tail [(pre ++ x.1, y.1)] else
              match exp 44 (y.2 ++ br k) with | none => .err 1 | some r4 => match mem (val ob) pre n r4 with | .err c => .err c | .ok r5 fs2 => .ok r5 ([(pre ++ x.1, y.1)] ++ fs2) := fun ob pre => by
            rw [mem, hbr]; simp only [Option.map_some, app, hex, (hv ob (pre ++ x.1)).2]; rfl
          have h44 := exp_br 44 (by decide) y.2 k
          have hx1 : x.1.length ≤ r.length := by omega
          cases hb : blk y.2 with
          | nil =>
            have hb2 := blk_end hb (br k)
            rw [blk_br] at hb2
            have e44 : exp 44 y.2 = none := by unfold exp; rw [hb]; rfl
            rw [e44] at h44
            refine .inr ⟨fun ob pre => by rw [hm1, hb, if_neg (by simp), e44], ?_⟩
            cases k with
            | zero => exact .inl fun ob pre => by rw [hm2, hb2, if_neg (by simp [br]), h44]; rfl
            | succ j => exact .inr ⟨j, rfl, fun ob pre => ⟨_, by rw [hm2, hb2, br_succ, if_pos (hdc _ _)]; rfl⟩⟩
          | cons c q =>
            have hb2 := blk_app hb (br k)
            have lq := blk_len y.2
            rw [hb] at lq
            by_cases hc : c = 125
            · subst hc
              refine .inl ⟨q, [(x.1, y.1)], fun ob pre => by rw [hm1, hb, if_pos (hdc _ _)]; rfl, fun ob pre => by rw [hm2, hb2, if_pos (hdc _ _)]; rfl, ?_, ?_, ?_⟩
              · have s4 : 125 :: q <:+ r := by rw [← hb]; exact (((blk_suf y.2).trans s3).trans s2).trans s1
                obtain ⟨u, hu⟩ := s4
                exact ⟨u, hu.symm⟩
              · simp at lq ⊢; omega
              · intro z hz; simp at hz; subst hz; exact hx1
            · have hne : ∀ q' : List UInt8, ¬ (c :: q').head? = some 125 := fun q' h => hc (by simpa using h)
              cases h4 : exp 44 y.2 with
              | none =>
                rw [h4] at h44
                refine .inr ⟨fun ob pre => by rw [hm1, hb, if_neg (hne _), h4], .inl fun ob pre => by rw [hm2, hb2, if_neg (hne _), h44]; rfl⟩
              | some r4 =>
                rw [h4] at h44
                have l4 := exp_len h4
                have s4 := exp_suf h4
                have n4 := not_mem_suf s4 n3
                have g1 : ∀ ob pre, mem (val ob) pre (n + 1) r = match mem (val ob) pre n r4 with | .err c => .err c | .ok r5 fs2 => .ok r5 ([(pre ++ x.1, y.1)] ++ fs2) := fun ob pre => by
                  rw [hm1, hb, if_neg (hne _), h4]
                have g2 : ∀ ob pre, mem (val ob) pre (n + 1) (r ++ br k) = match mem (val ob) pre n (r4 ++ br k) with | .err c => .err c | .ok r5 fs2 => .ok r5 ([(pre ++ x.1, y.1)] ++ fs2) := fun ob pre => by
                  rw [hm2, hb2, if_neg (hne _), h44]; rfl
                rcases ih r4 n4 with ⟨r', d, a1, a2, ⟨u, hu⟩, a4, a5⟩ | ⟨a1, a2 | ⟨j, hj, a2⟩⟩
                · refine .inl ⟨r', (x.1, y.1) :: d, fun ob pre => by rw [g1, a1]; rfl, fun ob pre => by rw [g2, a2]; rfl, ?_, ?_, ?_⟩
                  · obtain ⟨v, hv⟩ := ((s4.trans s3).trans s2).trans s1
                    exact ⟨v ++ u, by rw [List.append_assoc, ← hu]; exact hv.symm⟩
                  · simp at lq ⊢; omega
                  · intro z hz
                    rcases List.mem_cons.1 hz with h | h
                    · subst h; exact hx1
                    · have := a5 z h; omega
                · exact .inr ⟨fun ob pre => by rw [g1, a1], .inl fun ob pre => by rw [g2, a2]⟩
                · refine .inr ⟨fun ob pre => by rw [g1, a1], .inr ⟨j, hj, fun ob pre => ?_⟩⟩
                  obtain ⟨fs, hf⟩ := a2 ob pre
                  exact ⟨_, by rw [g2, hf]⟩

/-- An object alone, and followed by braces. -/
def GoodO (k : Nat) (s : List UInt8) : Prop :=
  ∃ (r' : List UInt8) (d : List Fd), (∀ m pre, obj (m + 1) pre s = .ok r' (d.map (px pre))) ∧ (∀ m pre, obj (m + 1) pre (s ++ br k) = .ok (r' ++ br k) (d.map (px pre))) ∧ (∃ u, s = u ++ 125 :: r') ∧ 4 * d.length + r'.length ≤ s.length ∧ ∀ x ∈ d, x.1.length ≤ s.length
def WrongO (k : Nat) (s : List UInt8) : Prop :=
  (∀ m pre, obj (m + 1) pre s = .err 1) ∧ ((∀ m pre, obj (m + 1) pre (s ++ br k) = .err 1) ∨ ∃ j, k = j + 1 ∧ ∀ m pre, ∃ fs, obj (m + 1) pre (s ++ br k) = .ok (br j) fs)
theorem exp_123 (b : List UInt8) : exp 123 (123 :: b) = some b := by unfold exp; rw [blk_no (by decide)]; rfl
theorem obj_eq (m : Nat) (pre b : List UInt8) : obj (m + 1) pre (123 :: b) = if (blk b).head? = some 125 then .ok (blk b).tail [] else mem (val (obj m)) pre 1000 b := by
  rw [obj, exp_123]
theorem obj_t (k : Nat) (b : List UInt8) (hb : 123 ∉ b) : GoodO k (123 :: b) ∨ WrongO k (123 :: b) := by
  have g1 := fun m pre => obj_eq m pre b
  have g2 : ∀ m pre, obj (m + 1) pre (123 :: b ++ br k) = if (blk (b ++ br k)).head? = some 125 then .ok (blk (b ++ br k)).tail [] else mem (val (obj m)) pre 1000 (b ++ br k) := fun m pre => obj_eq m pre (b ++ br k)
  have hmem := mem_t k 1000 b hb
  cases h : blk b with
  | nil =>
    have hb2 := blk_end h (br k)
    rw [blk_br] at hb2
    have htx : txt b = none := by rw [← txt_blk, h]; rfl
    have hme : ∀ ob pre, mem (val ob) pre 1000 b = .err 1 := fun ob pre => by rw [mem, htx]
    refine .inr ⟨fun m pre => by rw [g1, h, if_neg (by simp), hme], ?_⟩
    cases k with
    | zero =>
      refine .inl fun m pre => ?_
      rw [g2, hb2, if_neg (by simp [br]), br_zero, List.append_nil, hme]
    | succ j => exact .inr ⟨j, rfl, fun m pre => ⟨[], by rw [g2, hb2, br_succ, if_pos (hdc _ _)]; rfl⟩⟩
  | cons c q =>
    have hb2 := blk_app h (br k)
    have hl := blk_len b
    rw [h] at hl
    by_cases hc : c = 125
    · subst hc
      refine .inl ⟨q, [], fun m pre => by rw [g1, h, if_pos (hdc _ _)]; rfl, fun m pre => by rw [g2, hb2, if_pos (hdc _ _)]; rfl, ?_, by simp at hl ⊢; omega, fun x hx => by simp at hx⟩
      have s4 := blk_suf b
      rw [h] at s4
      obtain ⟨u, hu⟩ := s4
      exact ⟨123 :: u, by rw [List.cons_append, hu]⟩
    · have hne : ∀ q' : List UInt8, ¬ (c :: q').head? = some 125 := fun q' h => hc (by simpa using h)
      have e1 : ∀ m pre, obj (m + 1) pre (123 :: b) = mem (val (obj m)) pre 1000 b := fun m pre => by rw [g1, h, if_neg (hne _)]
      have e2 : ∀ m pre, obj (m + 1) pre (123 :: b ++ br k) = mem (val (obj m)) pre 1000 (b ++ br k) := fun m pre => by rw [g2, hb2, if_neg (hne _)]
      rcases hmem with ⟨r', d, a1, a2, ⟨u, hu⟩, a4, a5⟩ | ⟨a1, a2 | ⟨j, hj, a2⟩⟩
      · refine .inl ⟨r', d, fun m pre => by rw [e1, a1], fun m pre => by rw [e2, a2], ⟨123 :: u, by rw [List.cons_append, ← hu]⟩, by simp; omega, fun x hx => by have := a5 x hx; simp; omega⟩
      · exact .inr ⟨fun m pre => by rw [e1, a1], .inl fun m pre => by rw [e2, a2]⟩
      · refine .inr ⟨fun m pre => by rw [e1, a1], .inr ⟨j, hj, fun m pre => ?_⟩⟩
        obtain ⟨fs, hf⟩ := a2 (obj m) pre
        exact ⟨fs, by rw [e2, hf]⟩

/-! Objects within objects. -/
def wrap (s : List UInt8) : List UInt8 := [123, 34, 107, 34, 58] ++ s ++ [125]
def wraps (s : List UInt8) : Nat → List UInt8
  | 0 => s
  | k + 1 => wrap (wraps s k)
def kd : Nat → List UInt8
  | 0 => []
  | k + 1 => kd k ++ [107, 46]
theorem kd_cons (k : Nat) : kd (k + 1) = [107, 46] ++ kd k := by
  induction k with
  | zero => rfl
  | succ k ih =>
    show kd (k + 1) ++ [107, 46] = [107, 46] ++ (kd k ++ [107, 46])
    rw [ih, List.append_assoc]
theorem kd_len (k : Nat) : (kd k).length = 2 * k := by
  induction k with
  | zero => rfl
  | succ k ih => rw [kd, List.length_append, ih]; simp; omega
theorem wraps_len (s : List UInt8) (k : Nat) : (wraps s k).length = s.length + 6 * k := by
  induction k with
  | zero => rfl
  | succ k ih => rw [wraps, wrap]; simp [ih]; omega
theorem wraps_head (b : List UInt8) (k : Nat) : ∃ q, wraps (123 :: b) k = 123 :: q := by
  cases k with
  | zero => exact ⟨b, rfl⟩
  | succ k => exact ⟨_, rfl⟩
theorem br_snoc (i : Nat) : [125] ++ br i = br (i + 1) := rfl
theorem obj_wrap (m : Nat) (pre q : List UInt8) (i : Nat) : obj (m + 1) pre (wrap (123 :: q) ++ br i) =
    match obj m (pre ++ [107, 46]) (123 :: q ++ br (i + 1)) with
    | .err c => .err c
    | .ok r3 fs => if (blk r3).head? = some 125 then .ok (blk r3).tail fs else match exp 44 r3 with | none => .err 1 | some r4 => match mem (val (obj m)) pre 999 r4 with | .err c => .err c | .ok r5 fs2 => .ok r5 (fs ++ fs2) := by
  have e1 : wrap (123 :: q) ++ br i = 123 :: (34 :: 107 :: 34 :: 58 :: (123 :: q ++ br (i + 1))) := by
    simp [wrap, br_succ]
  have hb : blk (34 :: 107 :: 34 :: 58 :: (123 :: q ++ br (i + 1))) = 34 :: 107 :: 34 :: 58 :: (123 :: q ++ br (i + 1)) := blk_no (by decide)
  have ht : txt (34 :: 107 :: 34 :: 58 :: (123 :: q ++ br (i + 1))) = some ([107], 58 :: (123 :: q ++ br (i + 1))) := by
    unfold txt exp
    rw [hb, if_pos (hdc _ _)]
    show txtL (107 :: 34 :: 58 :: (123 :: q ++ br (i + 1))) [] = _
    rw [txtL_o (by decide) (by decide) (by decide), txtL_q]
    rfl
  have he : exp 58 (58 :: (123 :: q ++ br (i + 1))) = some (123 :: q ++ br (i + 1)) := by
    unfold exp
    rw [blk_no (by decide), if_pos (hdc _ _)]; rfl
  have hv : ∀ ob, val ob (pre ++ [107]) (123 :: q ++ br (i + 1)) = ob (pre ++ [107, 46]) (123 :: q ++ br (i + 1)) := fun ob => by
    unfold val
    rw [List.cons_append, blk_no (by decide)]
    simp
  rw [e1, obj_eq, hb, if_neg (by simp), mem, ht]
  simp only [he, hv]
  cases obj m (pre ++ [107, 46]) (123 :: q ++ br (i + 1)) with
  | err c => rfl
  | ok r3 fs => rfl

theorem obj_wraps_err (m : Nat) (b : List UInt8) (c : Nat) : ∀ (k i : Nat) (pre : List UInt8), obj m (pre ++ kd k) (123 :: b ++ br (k + i)) = .err c → obj (m + k) pre (wraps (123 :: b) k ++ br i) = .err c := by
  intro k
  induction k with
  | zero => intro i pre h; rw [kd, List.append_nil, Nat.zero_add] at h; exact h
  | succ k ih =>
    intro i pre h
    obtain ⟨q, hq⟩ := wraps_head b k
    have h1 := ih (i + 1) (pre ++ [107, 46]) (by rw [List.append_assoc, ← kd_cons, show k + (i + 1) = k + 1 + i by omega]; exact h)
    rw [hq] at h1
    rw [wraps, hq, ← Nat.add_assoc, obj_wrap, h1]
theorem obj_wraps_ok (m : Nat) (b : List UInt8) (j : Nat) (fs : List Fd) : ∀ (k i : Nat) (pre : List UInt8), obj m (pre ++ kd k) (123 :: b ++ br (k + i)) = .ok (br j) fs →
    obj (m + k) pre (wraps (123 :: b) k ++ br i) = if k ≤ j then .ok (br (j - k)) fs else .err 1 := by
  intro k
  induction k with
  | zero => intro i pre h; rw [kd, List.append_nil, Nat.zero_add] at h; rw [if_pos (by omega)]; exact h
  | succ k ih =>
    intro i pre h
    obtain ⟨q, hq⟩ := wraps_head b k
    have h1 := ih (i + 1) (pre ++ [107, 46]) (by rw [List.append_assoc, ← kd_cons, show k + (i + 1) = k + 1 + i by omega]; exact h)
    rw [hq] at h1
    rw [wraps, hq, ← Nat.add_assoc, obj_wrap, h1]
    by_cases hk : k ≤ j
    · rw [if_pos hk]
      simp only [blk_br]
      by_cases hk1 : k + 1 ≤ j
      · rw [if_pos hk1, show j - k = (j - (k + 1)) + 1 by omega, br_succ, if_pos (hdc _ _)]; rfl
      · rw [if_neg hk1, show j - k = 0 by omega, br_zero, if_neg (by simp)]; rfl
    · rw [if_neg hk, if_neg (by omega)]

end Js
end Go.Proofs.YtfdbjgdafolbmaaDoor

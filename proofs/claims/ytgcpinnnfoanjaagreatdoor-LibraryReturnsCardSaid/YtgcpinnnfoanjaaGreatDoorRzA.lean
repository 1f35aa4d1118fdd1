/-
  Joined: LbM, LbA.
-/
import Derived.Test.YtgcpinnnfoanjaaGreatDoorPatD
import Derived.Lib.Index
/-
  What the library of patterns computes, plainly; and that expanding twice is expanding once.
-/
namespace Go.Proofs.YtgcpinnnfoanjaaGreatDoor.Lb

abbrev Def := List UInt8 × List UInt8
/-- The first "%{": what stands ahead of it and behind it. -/
def cutPM : List UInt8 → Option (List UInt8 × List UInt8)
  | [] => none
  | c :: t => if c = 37 ∧ t.head? = some 123 then some ([], t.tail) else (cutPM t).map fun x => (c :: x.1, x.2)
/-- What stands behind "%{": a name, a field, and the rest. -/
def readM (q : List UInt8) : Option (List UInt8 × List UInt8 × Nat) :=
  if nlen q = 0 then none
  else if (q.drop (nlen q)).head? = some 58 then
    if nlen (q.drop (nlen q + 1)) = 0 then none
    else if (q.drop (nlen q + 1 + nlen (q.drop (nlen q + 1)))).head? = some 125 then some (q.take (nlen q), (q.drop (nlen q + 1)).take (nlen (q.drop (nlen q + 1))), nlen q + 1 + nlen (q.drop (nlen q + 1)) + 1) else none
  else if (q.drop (nlen q)).head? = some 125 then some (q.take (nlen q), [], nlen q + 1) else none
/-- A reference: its place, its name, its field. -/
structure Ref where
  fr : Nat
  to : Nat
  nm : List UInt8
  fd : List UInt8
/-- The references of a source from a place on. -/
def rfs (s : List UInt8) : Nat → Nat → Option (List Ref)
  | 0, _ => none
  | n + 1, at_ => match cutPM (s.drop at_) with
    | none => some []
    | some (p, q) => match readM q with
      | none => none
      | some (nm, fd, k) => (rfs s n (at_ + p.length + 2 + k)).map (⟨at_ + p.length, at_ + p.length + 2 + k, nm, fd⟩ :: ·)
def refsM (s : List UInt8) : Option (List Ref) := rfs s (s.length + 1) 0
/-- The first definition with a name. -/
def findM (l : List (List UInt8 × List UInt8)) (nm : List UInt8) : Option Nat := l.findIdx? fun d => d.1 = nm
def fldL (fd : List UInt8) : List UInt8 := if fd = [] then [] else fd ++ [58]
abbrev Res := Except Nat (List UInt8)
/-- What the loop over references gives. -/
def expL (l : List (List UInt8 × List UInt8)) (sub : Nat → Res) (b : List Nat) (s : List UInt8) : List Ref → Nat → List UInt8 → Res
  | [], at_, out => if 400 < (out ++ s.drop at_).length then .error 3 else .ok (out ++ s.drop at_)
  | r :: L, at_, out =>
    if 400 < (out ++ (s.drop at_).take (r.fr - at_)).length then .error 3
    else match findM l r.nm with
      | none => .error 6
      | some i => if i ∈ b then .error 8
        else match sub i with
          | .error e => .error e
          | .ok t => expL l sub b s L r.to (out ++ (s.drop at_).take (r.fr - at_) ++ 40 :: (fldL r.fd ++ t ++ [41]))
def srcOf (l : List (List UInt8 × List UInt8)) (i : Nat) : List UInt8 := ((l[i]?).map (·.2)).getD []
/-- Expanding a source; b: the definitions that are being expanded. -/
def expM (l : List (List UInt8 × List UInt8)) : Nat → List UInt8 → List Nat → Res
  | 0, _, _ => .error 0
  | n + 1, s, b => match refsM s with
    | none => .error 1
    | some L => expL l (fun i => expM l n (srcOf l i) (i :: b)) b s L 0 []

/-- Where the first "%{" stands. -/
theorem index_cut : ∀ l : List UInt8, Go.Lib.index l [37, 123] = match cutPM l with
    | none => -1
    | some x => (x.1.length : Int)
  | [] => rfl
  | c :: t => by
    rw [Go.Lib.index, cutPM]
    have ih := index_cut t
    have hp : ([37, 123] : List UInt8).isPrefixOf (c :: t) = decide (c = 37 ∧ t.head? = some 123) := by
      cases t with
      | nil => simp [List.isPrefixOf]
      | cons d t =>
        simp only [List.isPrefixOf, Bool.and_true, List.head?_cons, Option.some.injEq]
        rw [Bool.eq_iff_iff]
        simp only [Bool.and_eq_true, beq_iff_eq, decide_eq_true_iff]
        exact ⟨fun h => ⟨h.1.symm, h.2.symm⟩, fun h => ⟨h.1.symm, h.2.symm⟩⟩
    rw [hp]
    by_cases h : c = 37 ∧ t.head? = some 123
    · rw [if_pos h, if_pos (decide_eq_true h)]
      rfl
    · rw [if_neg h, if_neg (by simp only [decide_eq_true_iff]; exact h), ih]
      cases hq : cutPM t with
      | none => rfl
      | some x =>
        simp only [Option.map_some, List.length_cons]
        have : ¬ (((x.1.length : Int) == -1) = true) := by rw [beq_iff_eq]; omega
        rw [if_neg this]
        exact (Int.natCast_succ _).symm
/-- A list without "%{". -/
def noPM (s : List UInt8) : Prop := cutPM s = none
theorem noPM_cons {c : UInt8} {t : List UInt8} : noPM (c :: t) ↔ ¬ (c = 37 ∧ t.head? = some 123) ∧ noPM t := by
  unfold noPM
  rw [cutPM]
  by_cases h : c = 37 ∧ t.head? = some 123
  · rw [if_pos h]; simp [h]
  · rw [if_neg h]; simp [h]
theorem noPM_nil : noPM [] := rfl
theorem noPM_append {a b : List UInt8} (ha : noPM a) (hb : noPM b) (h : b.head? ≠ some 123) : noPM (a ++ b) := by
  induction a with
  | nil => exact hb
  | cons c t ih =>
    rw [noPM_cons] at ha
    rw [List.cons_append, noPM_cons]
    refine ⟨?_, ih ha.2⟩
    rintro ⟨h1, h2⟩
    cases t with
    | nil => exact h h2
    | cons d t => exact ha.1 ⟨h1, h2⟩
/-- .. where the first part does not end in '%'. -/
theorem noPM_append' {a b : List UInt8} (ha : noPM a) (hb : noPM b) (h : a.getLast? ≠ some 37) : noPM (a ++ b) := by
  induction a with
  | nil => exact hb
  | cons c t ih =>
    rw [noPM_cons] at ha
    rw [List.cons_append, noPM_cons]
    cases t with
    | nil =>
      refine ⟨fun h1 => h (by simp [h1.1]), hb⟩
    | cons d t =>
      refine ⟨fun h1 => ha.1 ⟨h1.1, h1.2⟩, ih ha.2 (fun h2 => h (by rw [List.getLast?_cons_cons]; exact h2))⟩
theorem cutPM_parts : ∀ {s p q : List UInt8}, cutPM s = some (p, q) → s = p ++ 37 :: 123 :: q ∧ noPM p
  | [], _, _, h => by cases h
  | c :: t, p, q, h => by
    rw [cutPM] at h
    split at h
    · next h1 =>
      injection h with h
      injection h with h2 h3
      subst h2 h3
      obtain ⟨rfl, h4⟩ := h1
      cases t with
      | nil => cases h4
      | cons d t =>
        injection h4 with h4
        subst h4
        exact ⟨rfl, rfl⟩
    · next h1 =>
      rw [Option.map_eq_some_iff] at h
      obtain ⟨⟨p', q'⟩, h2, h3⟩ := h
      injection h3 with h3 h4
      subst h3 h4
      obtain ⟨h5, h6⟩ := cutPM_parts h2
      refine ⟨by rw [List.cons_append, ← h5], noPM_cons.2 ⟨?_, h6⟩⟩
      rintro ⟨h7, h8⟩
      refine h1 ⟨h7, ?_⟩
      rw [h5]
      cases p' with
      | nil => simp at h8
      | cons d p' => exact h8
theorem noPM_take {s : List UInt8} (h : noPM s) : ∀ k, noPM (s.take k) := by
  induction s with
  | nil => intro k; simp [noPM_nil]
  | cons c t ih =>
    intro k
    rw [noPM_cons] at h
    cases k with
    | zero => rfl
    | succ k =>
      rw [List.take_succ_cons, noPM_cons]
      refine ⟨?_, ih h.2 k⟩
      rintro ⟨h1, h2⟩
      refine h.1 ⟨h1, ?_⟩
      cases t with
      | nil => simp at h2
      | cons d t =>
        cases k with
        | zero => simp at h2
        | succ k => exact h2
theorem noPM_drop {s : List UInt8} (h : noPM s) : ∀ k, noPM (s.drop k) := by
  induction s with
  | nil => intro k; simp [noPM_nil]
  | cons c t ih =>
    intro k
    cases k with
    | zero => exact h
    | succ k => exact ih (noPM_cons.1 h).2 k
theorem tw_take (p : UInt8 → Bool) (t : List UInt8) : ∀ c ∈ t.take (t.takeWhile p).length, p c = true := by
  induction t with
  | nil => intro c h; simp at h
  | cons x t ih =>
    intro c h
    rw [List.takeWhile_cons] at h
    split at h
    · next h1 =>
      rw [List.length_cons, List.take_succ_cons] at h
      rcases List.mem_cons.1 h with rfl | h
      · exact h1
      · exact ih c h
    · simp at h
theorem nlen_word {q : List UInt8} : ∀ c ∈ q.take (nlen q), Asc.isWord c.toNat = true := by
  unfold nlen
  cases q with
  | nil => intro c h; simp at h
  | cons x t =>
    simp only
    split
    · next h1 =>
      split
      · intro c h; simp at h
      · intro c h
        rw [Nat.add_comm, List.take_succ_cons] at h
        rcases List.mem_cons.1 h with rfl | h
        · unfold Asc.isWord; rw [h1]; simp
        · exact tw_take (fun x => Asc.isWord x.toNat) t c h
    · intro c h; simp at h
theorem noPM_word {a : List UInt8} (h : ∀ c ∈ a, Asc.isWord c.toNat = true) : noPM a := by
  induction a with
  | nil => rfl
  | cons c t ih =>
    rw [noPM_cons]
    refine ⟨?_, ih fun x hx => h x (List.mem_cons_of_mem _ hx)⟩
    rintro ⟨rfl, _⟩
    have := h 37 (by simp)
    revert this
    decide
/-- What the references of a source are like. -/
theorem readM_word {q nm fd : List UInt8} {k : Nat} (h : readM q = some (nm, fd, k)) : (∀ c ∈ nm, Asc.isWord c.toNat = true) ∧ (∀ c ∈ fd, Asc.isWord c.toNat = true) := by
  unfold readM at h
  repeat' split at h
  all_goals first
    | (cases h; done)
    | (cases h; exact ⟨nlen_word, nlen_word⟩)
    | (cases h; exact ⟨nlen_word, fun c h => by cases h⟩)
theorem refs_none {s : List UInt8} (h : noPM s) : refsM s = some [] := by
  unfold refsM
  rw [rfs, List.drop_zero, h]
/-- A reference of a source: the text ahead of it has no "%{", its field is a word. -/
def RefOk (s : List UInt8) (at_ : Nat) (r : Ref) : Prop := noPM ((s.drop at_).take (r.fr - at_)) ∧ (∀ c ∈ r.fd, Asc.isWord c.toNat = true)
/-- .. of all of them, and of what stands behind the last. -/
def RefsOk (s : List UInt8) : List Ref → Nat → Prop
  | [], at_ => noPM (s.drop at_)
  | r :: L, at_ => RefOk s at_ r ∧ RefsOk s L r.to
theorem rfs_ok (s : List UInt8) (n : Nat) : ∀ at_ L, rfs s n at_ = some L → RefsOk s L at_ := by
  induction n with
  | zero => intro at_ L h; cases h
  | succ n ih =>
    intro at_ L h
    rw [rfs] at h
    split at h
    · next h1 => injection h with h; subst h; exact h1
    · next p q h1 =>
      split at h
      · cases h
      · next nm fd k h2 =>
        rw [Option.map_eq_some_iff] at h
        obtain ⟨L', h3, rfl⟩ := h
        obtain ⟨h4, h5⟩ := cutPM_parts h1
        refine ⟨⟨?_, (readM_word h2).2⟩, ih _ _ h3⟩
        simp only [Nat.add_sub_cancel_left]
        rw [h4, List.take_left' rfl]
        exact h5
/-- What a list of bytes may be put behind: it does not end in '%' .. -/
theorem fldL_ok {fd : List UInt8} (h : ∀ c ∈ fd, Asc.isWord c.toNat = true) : noPM (fldL fd) ∧ (fldL fd).getLast? ≠ some 37 := by
  unfold fldL
  split
  · exact ⟨rfl, by simp⟩
  · exact ⟨noPM_append (noPM_word h) rfl (by decide), by simp⟩
/-- What is written for a reference has no "%{". -/
theorem seg_ok {fd t : List UInt8} (h : ∀ c ∈ fd, Asc.isWord c.toNat = true) (ht : noPM t) : noPM (40 :: (fldL fd ++ t ++ [41])) := by
  obtain ⟨h1, h2⟩ := fldL_ok h
  have h3 : noPM (fldL fd ++ t) := noPM_append' h1 ht h2
  have h4 : noPM (fldL fd ++ t ++ [41]) := noPM_append h3 rfl (by decide)
  exact noPM_cons.2 ⟨fun h => absurd h.1 (by decide), h4⟩
theorem seg_last (fd t : List UInt8) : (40 :: (fldL fd ++ t ++ [41])).getLast? ≠ some 37 := by
  rw [show (40 :: (fldL fd ++ t ++ [41])) = (40 :: (fldL fd ++ t)) ++ [41] by simp, List.getLast?_concat]
  decide
theorem expL_noPM (l : List (List UInt8 × List UInt8)) (sub : Nat → Res) (b : List Nat) (s : List UInt8) (hs : ∀ i t, sub i = .ok t → noPM t) : ∀ (L : List Ref) (at_ : Nat) (out : List UInt8), RefsOk s L at_ → noPM out → out.getLast? ≠ some 37 → ∀ t, expL l sub b s L at_ out = .ok t → noPM t
  | [], at_, out, h, ho, hl, t, he => by
    rw [expL] at he
    split at he
    · cases he
    · injection he with he
      subst he
      exact noPM_append' ho h hl
  | r :: L, at_, out, h, ho, hl, t, he => by
    rw [expL] at he
    split at he
    · cases he
    · split at he
      · cases he
      · split at he
        · cases he
        · split at he
          · cases he
          · next u hu =>
            have h1 := noPM_append' ho h.1.1 hl
            have h2 := seg_ok h.1.2 (hs _ _ hu)
            have h3 : noPM (out ++ (s.drop at_).take (r.fr - at_) ++ 40 :: (fldL r.fd ++ u ++ [41])) := noPM_append h1 h2 (by simp)
            refine expL_noPM l sub b s hs L r.to _ h.2 h3 ?_ t he
            rw [List.getLast?_append]
            have := seg_last r.fd u
            cases hq : (40 :: (fldL r.fd ++ u ++ [41])).getLast? with
            | none => simp at hq
            | some x => rw [hq] at this; simpa using this
/-- WHAT WAS EXPANDED REFERS TO NOTHING. -/
theorem expM_noPM (l : List (List UInt8 × List UInt8)) (n : Nat) : ∀ (s : List UInt8) (b : List Nat) (t : List UInt8), expM l n s b = .ok t → noPM t := by
  induction n with
  | zero => intro s b t h; cases h
  | succ n ih =>
    intro s b t h
    rw [expM] at h
    split at h
    · cases h
    · next L hL => exact expL_noPM l _ b s (fun i t h => ih _ _ t h) L 0 [] (rfs_ok s _ 0 L hL) rfl (by simp) t h
theorem expL_len (l : List (List UInt8 × List UInt8)) (sub : Nat → Res) (b : List Nat) (s : List UInt8) : ∀ (L : List Ref) (at_ : Nat) (out : List UInt8) (t : List UInt8), expL l sub b s L at_ out = .ok t → t.length ≤ 400
  | [], at_, out, t, he => by
    rw [expL] at he
    split at he
    · cases he
    · injection he with he
      subst he
      omega
  | r :: L, at_, out, t, he => by
    rw [expL] at he
    repeat' split at he
    all_goals first
      | cases he
      | exact expL_len l sub b s L r.to _ t he
theorem expM_len (l : List (List UInt8 × List UInt8)) (n : Nat) (s : List UInt8) (b : List Nat) (t : List UInt8) (h : expM l n s b = .ok t) : t.length ≤ 400 := by
  cases n with
  | zero => cases h
  | succ n =>
    rw [expM] at h
    split at h
    · cases h
    · exact expL_len l _ b s _ 0 [] t h
/-- EXPANDING TWICE IS EXPANDING ONCE. -/
theorem expM_plain (l : List (List UInt8 × List UInt8)) (n : Nat) (t : List UInt8) (b : List Nat) (h : noPM t) (hl : t.length ≤ 400) : expM l (n + 1) t b = .ok t := by
  rw [expM, refs_none h]
  simp only
  rw [expL, List.nil_append, List.drop_zero, if_neg (by omega)]
/-- What comes does not hang on what is being expanded. -/
theorem expL_indep (l : List (List UInt8 × List UInt8)) (sub sub' : Nat → Res) (b b' : List Nat) (s : List UInt8) (hs : ∀ i t t', sub i = .ok t → sub' i = .ok t' → t = t') : ∀ (L : List Ref) (at_ : Nat) (out t t' : List UInt8), expL l sub b s L at_ out = .ok t → expL l sub' b' s L at_ out = .ok t' → t = t'
  | [], at_, out, t, t', h, h' => by
    rw [expL] at h h'
    rw [h] at h'
    injection h'
  | r :: L, at_, out, t, t', h, h' => by
    rw [expL] at h h'
    split at h
    · cases h
    · next h1 =>
      rw [if_neg h1] at h'
      split at h
      · cases h
      · next i hi =>
        simp only [hi] at h'
        split at h
        · cases h
        · split at h'
          · cases h'
          · split at h
            · cases h
            · next u hu =>
              split at h'
              · cases h'
              · next u' hu' =>
                obtain rfl := hs i u u' hu hu'
                exact expL_indep l sub sub' b b' s hs L r.to _ t t' h h'
theorem expM_indep (l : List (List UInt8 × List UInt8)) (n : Nat) : ∀ (n' : Nat) (s : List UInt8) (b b' : List Nat) (t t' : List UInt8), expM l n s b = .ok t → expM l n' s b' = .ok t' → t = t' := by
  induction n with
  | zero => intro n' s b b' t t' h; cases h
  | succ n ih =>
    intro n' s b b' t t' h h'
    cases n' with
    | zero => cases h'
    | succ n' =>
      rw [expM] at h h'
      split at h
      · cases h
      · next L hL =>
        simp only [hL] at h'
        exact expL_indep l _ _ b b' s (fun i t t' h h' => ih _ _ _ _ t t' h h') L 0 [] t t' h h'
/-- The definition k has this source. -/
def setSrc (l : List (List UInt8 × List UInt8)) (k : Nat) (x : List UInt8) : List (List UInt8 × List UInt8) := match l[k]? with
  | none => l
  | some d => l.set k (d.1, x)
theorem findM_set (l : List (List UInt8 × List UInt8)) (k : Nat) (x nm : List UInt8) : findM (setSrc l k x) nm = findM l nm := by
  unfold findM setSrc
  split
  · rfl
  · next d hd =>
    induction l generalizing k with
    | nil => simp at hd
    | cons e l ih =>
      cases k with
      | zero =>
        simp only [List.getElem?_cons_zero, Option.some.injEq] at hd
        subst hd
        rw [List.set_cons_zero, List.findIdx?_cons, List.findIdx?_cons]
      | succ k =>
        rw [List.set_cons_succ, List.findIdx?_cons, List.findIdx?_cons, ih k (by simpa using hd)]
theorem srcOf_set (l : List (List UInt8 × List UInt8)) (k : Nat) (x : List UInt8) (i : Nat) : srcOf (setSrc l k x) i = if i = k ∧ k < l.length then x else srcOf l i := by
  unfold srcOf setSrc
  split
  · next h =>
    rw [List.getElem?_eq_none_iff] at h
    rw [if_neg (by omega)]
  · next d hd =>
    have hk : k < l.length := (List.getElem?_eq_some_iff.1 hd).1
    rw [List.getElem?_set]
    by_cases e : i = k
    · subst e
      rw [if_pos rfl, if_pos hk, if_pos ⟨rfl, hk⟩]
      rfl
    · rw [if_neg (fun h => e h.symm), if_neg (fun h => e h.1)]
/-- WITH A DEFINITION REPLACED BY WHAT IT EXPANDS TO, SOURCES EXPAND TO THE SAME. -/
theorem expL_set (l : List (List UInt8 × List UInt8)) (k : Nat) (x : List UInt8) (sub sub' : Nat → Res) (b : List Nat) (s : List UInt8) (hs : ∀ i t, sub i = .ok t → sub' i = .ok t) : ∀ (L : List Ref) (at_ : Nat) (out t : List UInt8), expL l sub b s L at_ out = .ok t → expL (setSrc l k x) sub' b s L at_ out = .ok t
  | [], at_, out, t, h => by
    rw [expL] at h ⊢
    exact h
  | r :: L, at_, out, t, h => by
    rw [expL] at h ⊢
    rw [findM_set]
    split at h
    · cases h
    · next h1 =>
      rw [if_neg h1]
      split at h
      · cases h
      · next i hi =>
        split at h
        · cases h
        · next h2 =>
          rw [if_neg h2]
          split at h
          · cases h
          · next u hu =>
            rw [hs i u hu]
            exact expL_set l k x sub sub' b s hs L r.to _ t h
theorem expM_set (l : List (List UInt8 × List UInt8)) (k : Nat) (x : List UInt8) (m : Nat) (hk : k < l.length) (hx : expM l m (srcOf l k) [] = .ok x) (n : Nat) : ∀ (s : List UInt8) (b : List Nat) (t : List UInt8), expM l n s b = .ok t → expM (setSrc l k x) n s b = .ok t := by
  induction n with
  | zero => intro s b t h; cases h
  | succ n ih =>
    intro s b t h
    rw [expM] at h ⊢
    split at h
    · cases h
    · next L hL =>
      refine expL_set l k x _ _ b s (fun i u hu => ?_) L 0 [] t h
      rw [srcOf_set]
      by_cases e : i = k
      · subst e
        rw [if_pos ⟨rfl, hk⟩]
        obtain rfl := expM_indep l _ _ _ _ _ u x hu hx
        cases n with
        | zero => cases hu
        | succ n => exact expM_plain _ n u _ (expM_noPM _ _ _ _ _ hu) (expM_len _ _ _ _ _ hu)
      · rw [if_neg (fun h => e h.1)]
        exact ih _ _ _ hu
end Go.Proofs.YtgcpinnnfoanjaaGreatDoor.Lb
/-
  Names of the library.
-/
namespace Go.Proofs.YtgcpinnnfoanjaaGreatDoor
open Go.RowKit

set_option maxRecDepth 100000 in
set_option maxHeartbeats 2000000 in
theorem lname_any (l : List UInt8) (w : World) (hk : Kinds w) (hml : l.length ≤ 9223372036854775807) :
    Calls Tryz.prog 46 #[.string ⟨l.toArray⟩] w fun e w' => e = .returned (.int .i64 (nlen l)) ∧ w = w' := by
  rcases Nat.eq_zero_or_pos l.length with h0 | hpos
  · obtain rfl := List.length_eq_zero_iff.1 h0
    clear h0 hml
    go_enter Tryz.func46, Tryz.ntmps46
    go_wp2_with fail
    go_ret
    exact ⟨rfl, rfl⟩
  · have e2 : (l.isEmpty) = false := by cases l with | nil => simp at hpos | cons a b => rfl
    obtain ⟨c0, ⟨_, hx0⟩, hc0, hb0⟩ := byte_at l 0 hpos
    have HL := Lib.hid (letter_any c0 w hb0 hk)
    have HKW := Lib.hid hk
    obtain ⟨R, hR⟩ : ∃ R, nlen l = R := ⟨_, rfl⟩
    have HR := Lib.hid hR
    rw [hR]
    have HC0 := Lib.hid hc0
    clear hk hR hc0
    cases hl : Asc.isLetter c0
    · have HZ : Hid ((0 : Nat) = R) := Lib.hid (by rw [← HR.out, nlen_no hpos (by rw [HC0.out]; exact hl)])
      rw [hl] at HL
      clear hl
      go_enter Tryz.func46, Tryz.ntmps46
      go_wp2_with (go_at_call 67; refine HL.out.mono ?_; rintro e w' ⟨rfl, rfl⟩)
      go_ret
      exact ⟨ret_int (by rw [← HZ.out]; rfl), rfl⟩
    · have HA : Hid (∀ k, 1 ≤ k → k ≤ l.length → (∀ i (h : i < l.length), 1 ≤ i → i < k → Asc.isWord (l[i]).toNat = true) → (∀ h : k < l.length, Asc.isWord (l[k]).toNat = false) → (if 32 < k then 0 else k) = R) :=
        Lib.hid (fun k h1 h2 h3 h4 => by rw [← HR.out, nlen_at h1 h2 (by rw [HC0.out]; exact hl) h3 h4])
      rw [hl] at HL
      clear hl hx0
      obtain ⟨c0', ⟨_, hx0⟩, hc0', _⟩ := byte_at l 0 hpos
      have ec : c0' = c0 := hc0'.symm.trans HC0.out
      rw [ec] at hx0
      clear hc0' ec
      go_enter Tryz.func46, Tryz.ntmps46
      go_wp2_with (go_at_call 67; refine HL.out.mono ?_; rintro e w' ⟨rfl, rfl⟩)
      go_loop [3] (fun i => ∃ k : Nat, 1 ≤ k ∧ k ≤ l.length ∧ i = .int .i64 k ∧ Hid (∀ i (h : i < l.length), 1 ≤ i → i < k → Asc.isWord (l[i]).toNat = true)) (fun i => l.length - (intOf i).toNat)
      case atStart => exact ⟨1, by omega, by omega, rfl, Lib.hid (fun _ _ _ _ => by omega)⟩
      case round =>
        obtain ⟨k, hk1, hkl, rfl, HALL⟩ := hrel
        by_cases hlt : k < l.length
        · obtain ⟨c, ⟨_, hx⟩, hc, hb⟩ := byte_at l k hlt
          have HC := Lib.hid hc
          have HW := Lib.hid (word_any c w hb HKW.out)
          clear hc hx0
          cases hw : Asc.isWord c
          · have HZ : Hid ((if 32 < k then 0 else k) = R) := Lib.hid (HA.out k hk1 hkl HALL.out (fun _ => by rw [HC.out]; exact hw))
            rw [hw] at HW
            clear hw
            by_cases h32 : 32 < k
            · have z1 : decide ((32 : Int) < (k : Int)) = true := decide_eq_true (by omega)
              have HZ2 : Hid ((0 : Nat) = R) := Lib.hid (by rw [← HZ.out, if_pos h32])
              go_wp2_with (go_at_call 68; refine HW.out.mono ?_; rintro e w' ⟨rfl, rfl⟩)
              go_ret
              exact ⟨ret_int (by rw [← HZ2.out]; rfl), rfl⟩
            · have z1 : decide ((32 : Int) < (k : Int)) = false := decide_eq_false (by omega)
              have HZ2 : Hid (k = R) := Lib.hid (by rw [← HZ.out, if_neg h32])
              go_wp2_with (go_at_call 68; refine HW.out.mono ?_; rintro e w' ⟨rfl, rfl⟩)
              go_ret
              exact ⟨ret_int (by rw [← HZ2.out]), rfl⟩
          · have HN : Hid (∀ i (h : i < l.length), 1 ≤ i → i < k + 1 → Asc.isWord (l[i]).toNat = true) := Lib.hid (fun i h h1 h2 => by
              by_cases e : i = k
              · subst e; rw [HC.out]; exact hw
              · exact HALL.out i h h1 (by omega))
            rw [hw] at HW
            clear hw
            go_wp2_with (go_at_call 68; refine HW.out.mono ?_; rintro e w' ⟨rfl, rfl⟩)
            go_round
            case rel => exact ⟨k + 1, by omega, by omega, by go_num, HN⟩
            case measure => simp [intOf]; omega
        · obtain rfl : k = l.length := by omega
          have HZ : Hid ((if 32 < l.length then 0 else l.length) = R) := Lib.hid (HA.out _ hk1 hkl HALL.out (fun hh => by omega))
          by_cases h32 : 32 < l.length
          · have z1 : decide ((32 : Int) < (l.length : Int)) = true := decide_eq_true (by omega)
            have HZ2 : Hid ((0 : Nat) = R) := Lib.hid (by rw [← HZ.out, if_pos h32])
            go_wp2_with fail
            go_ret
            exact ⟨ret_int (by rw [← HZ2.out]; rfl), rfl⟩
          · have z1 : decide ((32 : Int) < (l.length : Int)) = false := decide_eq_false (by omega)
            have HZ2 : Hid (l.length = R) := Lib.hid (by rw [← HZ.out, if_neg h32])
            go_wp2_with fail
            go_ret
            exact ⟨ret_int (by rw [← HZ2.out]), rfl⟩

set_option maxRecDepth 100000 in
theorem lisname_any (l : List UInt8) (w : World) (hk : Kinds w) (hml : l.length ≤ 9223372036854775807) :
    Calls Tryz.prog 27 #[.string ⟨l.toArray⟩] w fun e w' => e = .returned (.bool (nmB l)) ∧ w = w' := by
  rcases Nat.eq_zero_or_pos l.length with h0 | hpos
  · obtain rfl := List.length_eq_zero_iff.1 h0
    rw [nmB_no (fun h => by have := h.1; simp at this)]
    clear h0 hml
    go_enter Tryz.func27, Tryz.ntmps27
    go_wp2_with fail
    go_ret
    exact ⟨rfl, rfl⟩
  · have e2 : (l.isEmpty) = false := by cases l with | nil => simp at hpos | cons a b => rfl
    have HN := Lib.hid (lname_any l w hk hml)
    have hle := nlen_le l
    have HI := Lib.hid (nm_iff hpos)
    obtain ⟨n, hn⟩ : ∃ n, nlen l = n := ⟨_, rfl⟩
    rw [hn] at HN hle HI
    clear hn hk
    by_cases e : n = l.length
    · rw [nmB_yes (HI.out.2 e)]
      subst e
      clear hle
      go_enter Tryz.func27, Tryz.ntmps27
      go_wp2_with (go_at_call 46; refine HN.out.mono ?_; rintro e w' ⟨rfl, rfl⟩)
      go_ret
      exact ⟨rfl, rfl⟩
    · rw [nmB_no (fun h => e (HI.out.1 h))]
      have z1 : ((n : Int) == (l.length : Int)) = false := by rw [beq_eq_false_iff_ne]; omega
      clear HI
      go_enter Tryz.func27, Tryz.ntmps27
      go_wp2_with (go_at_call 46; refine HN.out.mono ?_; rintro e w' ⟨rfl, rfl⟩)
      go_ret
      exact ⟨ret_bool (by first | rfl | simpa using e), rfl⟩

end Go.Proofs.YtgcpinnnfoanjaaGreatDoor

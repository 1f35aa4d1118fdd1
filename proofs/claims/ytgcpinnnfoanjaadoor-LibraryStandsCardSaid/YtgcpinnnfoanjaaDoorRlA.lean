/-
  Joined: LbM, LbA, Shelf, LbB, LbC.
-/
import Derived.Test.YtgcpinnnfoanjaaDoorPatD
import Derived.Lib.Index
import Derived.Shelf.Strings.Builder1
import Derived.Shelf.Small.Strs
import Derived.Shelf.Strings.BuilderF
import Derived.Shelf.Strings.BuilderK
import Derived.Shelf.Strings.Search1
import Derived.Shelf.Strings.Search2
import Derived.Shelf.Strings.Search3
import Derived.Shelf.LaysM
import Derived.Shelf.Strings.Shaped
import Derived.Shelf.Strings.Prefix
import Derived.Shelf.Strings.BuilderCap
import Derived.Test.YtgcpinnnfoanjaaDoorProg
import Derived.Laws.Rows
import Derived.Test.YtgcpinnnfoanjaaDoorRowM
/-
  What the library of patterns computes, plainly; and that expanding twice is expanding once.
-/
namespace Go.Proofs.YtgcpinnnfoanjaaDoor.Lb

abbrev Def := List UInt8 × List UInt8
/-- The first "%{": what stands ahead of it and behind it. -/
def cutPM : List UInt8 → Option (List UInt8 × List UInt8)
  | [] => none
  | c :: t => if c = 37 ∧ t.head? = some 123 then some ([], t.tail) else (cutPM t).map fun x => (c :: x.1, x.2)
/-- What stands behind "%{": a name, a field, and the rest. -/
def readM (q : List UInt8) : Option (List UInt8 × List UInt8 × Nat) :=
  if nlen q = 0 then none
  else if (q.drop (nlen q)).head? = some 58 then
    if nlen (q.drop (nlen q + 1)) = 0 then none
    else if (q.drop (nlen q + 1 + nlen (q.drop (nlen q + 1)))).head? = some 125 then some (q.take (nlen q), (q.drop (nlen q + 1)).take (nlen (q.drop (nlen q + 1))), nlen q + 1 + nlen (q.drop (nlen q + 1)) + 1) else none
  else if (q.drop (nlen q)).head? = some 125 then some (q.take (nlen q), [], nlen q + 1) else none
/-- A reference: its place, its name, its field. -/
structure Ref where
  fr : Nat
  to : Nat
  nm : List UInt8
  fd : List UInt8
/-- The references of a source from a place on. -/
def rfs (s : List UInt8) : Nat → Nat → Option (List Ref)
  | 0, _ => none
  | n + 1, at_ => match cutPM (s.drop at_) with
    | none => some []
    | some (p, q) => match readM q with
      | none => none
      | some (nm, fd, k) => (rfs s n (at_ + p.length + 2 + k)).map (⟨at_ + p.length, at_ + p.length + 2 + k, nm, fd⟩ :: ·)
def refsM (s : List UInt8) : Option (List Ref) := rfs s (s.length + 1) 0
/-- The first definition with a name. -/
def findM (l : List (List UInt8 × List UInt8)) (nm : List UInt8) : Option Nat := l.findIdx? fun d => d.1 = nm
def fldL (fd : List UInt8) : List UInt8 := if fd = [] then [] else fd ++ [58]
abbrev Res := Except Nat (List UInt8)
/-- What the loop over references gives. -/
def expL (l : List (List UInt8 × List UInt8)) (sub : Nat → Res) (b : List Nat) (s : List UInt8) : List Ref → Nat → List UInt8 → Res
  | [], at_, out => if 400 < (out ++ s.drop at_).length then .error 3 else .ok (out ++ s.drop at_)
  | r :: L, at_, out =>
    if 400 < (out ++ (s.drop at_).take (r.fr - at_)).length then .error 3
    else match findM l r.nm with
      | none => .error 6
      | some i => if i ∈ b then .error 8
        else match sub i with
          | .error e => .error e
          | .ok t => expL l sub b s L r.to (out ++ (s.drop at_).take (r.fr - at_) ++ 40 :: (fldL r.fd ++ t ++ [41]))
def srcOf (l : List (List UInt8 × List UInt8)) (i : Nat) : List UInt8 := ((l[i]?).map (·.2)).getD []
/-- Expanding a source; b: the definitions that are being expanded. -/
def expM (l : List (List UInt8 × List UInt8)) : Nat → List UInt8 → List Nat → Res
  | 0, _, _ => .error 0
  | n + 1, s, b => match refsM s with
    | none => .error 1
    | some L => expL l (fun i => expM l n (srcOf l i) (i :: b)) b s L 0 []

/-- Where the first "%{" stands. -/
theorem index_cut : ∀ l : List UInt8, Go.Lib.index l [37, 123] = match cutPM l with
    | none => -1
    | some x => (x.1.length : Int)
  | [] => rfl
  | c :: t => by
    rw [Go.Lib.index, cutPM]
    have ih := index_cut t
    have hp : ([37, 123] : List UInt8).isPrefixOf (c :: t) = decide (c = 37 ∧ t.head? = some 123) := by
      cases t with
      | nil => simp [List.isPrefixOf]
      | cons d t =>
        simp only [List.isPrefixOf, Bool.and_true, List.head?_cons, Option.some.injEq]
        rw [Bool.eq_iff_iff]
        simp only [Bool.and_eq_true, beq_iff_eq, decide_eq_true_iff]
        exact ⟨fun h => ⟨h.1.symm, h.2.symm⟩, fun h => ⟨h.1.symm, h.2.symm⟩⟩
    rw [hp]
    by_cases h : c = 37 ∧ t.head? = some 123
    · rw [if_pos h, if_pos (decide_eq_true h)]
      rfl
    · rw [if_neg h, if_neg (by simp only [decide_eq_true_iff]; exact h), ih]
      cases hq : cutPM t with
      | none => rfl
      | some x =>
        simp only [Option.map_some, List.length_cons]
        have : ¬ (((x.1.length : Int) == -1) = true) := by rw [beq_iff_eq]; omega
        rw [if_neg this]
        exact (Int.natCast_succ _).symm
/-- A list without "%{". -/
def noPM (s : List UInt8) : Prop := cutPM s = none
theorem noPM_cons {c : UInt8} {t : List UInt8} : noPM (c :: t) ↔ ¬ (c = 37 ∧ t.head? = some 123) ∧ noPM t := by
  unfold noPM
  rw [cutPM]
  by_cases h : c = 37 ∧ t.head? = some 123
  · rw [if_pos h]; simp [h]
  · rw [if_neg h]; simp [h]
theorem noPM_nil : noPM [] := rfl
theorem noPM_append {a b : List UInt8} (ha : noPM a) (hb : noPM b) (h : b.head? ≠ some 123) : noPM (a ++ b) := by
  induction a with
  | nil => exact hb
  | cons c t ih =>
    rw [noPM_cons] at ha
    rw [List.cons_append, noPM_cons]
    refine ⟨?_, ih ha.2⟩
    rintro ⟨h1, h2⟩
    cases t with
    | nil => exact h h2
    | cons d t => exact ha.1 ⟨h1, h2⟩
/-- .. where the first part does not end in '%'. -/
theorem noPM_append' {a b : List UInt8} (ha : noPM a) (hb : noPM b) (h : a.getLast? ≠ some 37) : noPM (a ++ b) := by
  induction a with
  | nil => exact hb
  | cons c t ih =>
    rw [noPM_cons] at ha
    rw [List.cons_append, noPM_cons]
    cases t with
    | nil =>
      refine ⟨fun h1 => h (by simp [h1.1]), hb⟩
    | cons d t =>
      refine ⟨fun h1 => ha.1 ⟨h1.1, h1.2⟩, ih ha.2 (fun h2 => h (by rw [List.getLast?_cons_cons]; exact h2))⟩
theorem cutPM_parts : ∀ {s p q : List UInt8}, cutPM s = some (p, q) → s = p ++ 37 :: 123 :: q ∧ noPM p
  | [], _, _, h => by cases h
  | c :: t, p, q, h => by
    rw [cutPM] at h
    split at h
    · next h1 =>
      injection h with h
      injection h with h2 h3
      subst h2 h3
      obtain ⟨rfl, h4⟩ := h1
      cases t with
      | nil => cases h4
      | cons d t =>
        injection h4 with h4
        subst h4
        exact ⟨rfl, rfl⟩
    · next h1 =>
      rw [Option.map_eq_some_iff] at h
      obtain ⟨⟨p', q'⟩, h2, h3⟩ := h
      injection h3 with h3 h4
      subst h3 h4
      obtain ⟨h5, h6⟩ := cutPM_parts h2
      refine ⟨by rw [List.cons_append, ← h5], noPM_cons.2 ⟨?_, h6⟩⟩
      rintro ⟨h7, h8⟩
      refine h1 ⟨h7, ?_⟩
      rw [h5]
      cases p' with
      | nil => simp at h8
      | cons d p' => exact h8
theorem noPM_take {s : List UInt8} (h : noPM s) : ∀ k, noPM (s.take k) := by
  induction s with
  | nil => intro k; simp [noPM_nil]
  | cons c t ih =>
    intro k
    rw [noPM_cons] at h
    cases k with
    | zero => rfl
    | succ k =>
      rw [List.take_succ_cons, noPM_cons]
      refine ⟨?_, ih h.2 k⟩
      rintro ⟨h1, h2⟩
      refine h.1 ⟨h1, ?_⟩
      cases t with
      | nil => simp at h2
      | cons d t =>
        cases k with
        | zero => simp at h2
        | succ k => exact h2
theorem noPM_drop {s : List UInt8} (h : noPM s) : ∀ k, noPM (s.drop k) := by
  induction s with
  | nil => intro k; simp [noPM_nil]
  | cons c t ih =>
    intro k
    cases k with
    | zero => exact h
    | succ k => exact ih (noPM_cons.1 h).2 k
theorem tw_take (p : UInt8 → Bool) (t : List UInt8) : ∀ c ∈ t.take (t.takeWhile p).length, p c = true := by
  induction t with
  | nil => intro c h; simp at h
  | cons x t ih =>
    intro c h
    rw [List.takeWhile_cons] at h
    split at h
    · next h1 =>
      rw [List.length_cons, List.take_succ_cons] at h
      rcases List.mem_cons.1 h with rfl | h
      · exact h1
      · exact ih c h
    · simp at h
theorem nlen_word {q : List UInt8} : ∀ c ∈ q.take (nlen q), Asc.isWord c.toNat = true := by
  unfold nlen
  cases q with
  | nil => intro c h; simp at h
  | cons x t =>
    simp only
    split
    · next h1 =>
      split
      · intro c h; simp at h
      · intro c h
        rw [Nat.add_comm, List.take_succ_cons] at h
        rcases List.mem_cons.1 h with rfl | h
        · unfold Asc.isWord; rw [h1]; simp
        · exact tw_take (fun x => Asc.isWord x.toNat) t c h
    · intro c h; simp at h
theorem noPM_word {a : List UInt8} (h : ∀ c ∈ a, Asc.isWord c.toNat = true) : noPM a := by
  induction a with
  | nil => rfl
  | cons c t ih =>
    rw [noPM_cons]
    refine ⟨?_, ih fun x hx => h x (List.mem_cons_of_mem _ hx)⟩
    rintro ⟨rfl, _⟩
    have := h 37 (by simp)
    revert this
    decide
/-- What the references of a source are like. -/
theorem readM_word {q nm fd : List UInt8} {k : Nat} (h : readM q = some (nm, fd, k)) : (∀ c ∈ nm, Asc.isWord c.toNat = true) ∧ (∀ c ∈ fd, Asc.isWord c.toNat = true) := by
  unfold readM at h
  repeat' split at h
  all_goals first
    | (cases h; done)
    | (cases h; exact ⟨nlen_word, nlen_word⟩)
    | (cases h; exact ⟨nlen_word, fun c h => by cases h⟩)
theorem refs_none {s : List UInt8} (h : noPM s) : refsM s = some [] := by
  unfold refsM
  rw [rfs, List.drop_zero, h]
/-- A reference of a source: the text ahead of it has no "%{", its field is a word. -/
def RefOk (s : List UInt8) (at_ : Nat) (r : Ref) : Prop := noPM ((s.drop at_).take (r.fr - at_)) ∧ (∀ c ∈ r.fd, Asc.isWord c.toNat = true)
/-- .. of all of them, and of what stands behind the last. -/
def RefsOk (s : List UInt8) : List Ref → Nat → Prop
  | [], at_ => noPM (s.drop at_)
  | r :: L, at_ => RefOk s at_ r ∧ RefsOk s L r.to
theorem rfs_ok (s : List UInt8) (n : Nat) : ∀ at_ L, rfs s n at_ = some L → RefsOk s L at_ := by
  induction n with
  | zero => intro at_ L h; cases h
  | succ n ih =>
    intro at_ L h
    rw [rfs] at h
    split at h
    · next h1 => injection h with h; subst h; exact h1
    · next p q h1 =>
      split at h
      · cases h
      · next nm fd k h2 =>
        rw [Option.map_eq_some_iff] at h
        obtain ⟨L', h3, rfl⟩ := h
        obtain ⟨h4, h5⟩ := cutPM_parts h1
        refine ⟨⟨?_, (readM_word h2).2⟩, ih _ _ h3⟩
        simp only [Nat.add_sub_cancel_left]
        rw [h4, List.take_left' rfl]
        exact h5
/-- What a list of bytes may be put behind: it does not end in '%' .. -/
theorem fldL_ok {fd : List UInt8} (h : ∀ c ∈ fd, Asc.isWord c.toNat = true) : noPM (fldL fd) ∧ (fldL fd).getLast? ≠ some 37 := by
  unfold fldL
  split
  · exact ⟨rfl, by simp⟩
  · exact ⟨noPM_append (noPM_word h) rfl (by decide), by simp⟩
/-- What is written for a reference has no "%{". -/
theorem seg_ok {fd t : List UInt8} (h : ∀ c ∈ fd, Asc.isWord c.toNat = true) (ht : noPM t) : noPM (40 :: (fldL fd ++ t ++ [41])) := by
  obtain ⟨h1, h2⟩ := fldL_ok h
  have h3 : noPM (fldL fd ++ t) := noPM_append' h1 ht h2
  have h4 : noPM (fldL fd ++ t ++ [41]) := noPM_append h3 rfl (by decide)
  exact noPM_cons.2 ⟨fun h => absurd h.1 (by decide), h4⟩
theorem seg_last (fd t : List UInt8) : (40 :: (fldL fd ++ t ++ [41])).getLast? ≠ some 37 := by
  rw [show (40 :: (fldL fd ++ t ++ [41])) = (40 :: (fldL fd ++ t)) ++ [41] by simp, List.getLast?_concat]
  decide
theorem expL_noPM (l : List (List UInt8 × List UInt8)) (sub : Nat → Res) (b : List Nat) (s : List UInt8) (hs : ∀ i t, sub i = .ok t → noPM t) : ∀ (L : List Ref) (at_ : Nat) (out : List UInt8), RefsOk s L at_ → noPM out → out.getLast? ≠ some 37 → ∀ t, expL l sub b s L at_ out = .ok t → noPM t
  | [], at_, out, h, ho, hl, t, he => by
    rw [expL] at he
    split at he
    · cases he
    · injection he with he
      subst he
      exact noPM_append' ho h hl
  | r :: L, at_, out, h, ho, hl, t, he => by
    rw [expL] at he
    split at he
    · cases he
    · split at he
      · cases he
      · split at he
        · cases he
        · split at he
          · cases he
          · next u hu =>
            have h1 := noPM_append' ho h.1.1 hl
            have h2 := seg_ok h.1.2 (hs _ _ hu)
            have h3 : noPM (out ++ (s.drop at_).take (r.fr - at_) ++ 40 :: (fldL r.fd ++ u ++ [41])) := noPM_append h1 h2 (by simp)
            refine expL_noPM l sub b s hs L r.to _ h.2 h3 ?_ t he
            rw [List.getLast?_append]
            have := seg_last r.fd u
            cases hq : (40 :: (fldL r.fd ++ u ++ [41])).getLast? with
            | none => simp at hq
            | some x => rw [hq] at this; simpa using this
/-- WHAT WAS EXPANDED REFERS TO NOTHING. -/
theorem expM_noPM (l : List (List UInt8 × List UInt8)) (n : Nat) : ∀ (s : List UInt8) (b : List Nat) (t : List UInt8), expM l n s b = .ok t → noPM t := by
  induction n with
  | zero => intro s b t h; cases h
  | succ n ih =>
    intro s b t h
    rw [expM] at h
    split at h
    · cases h
    · next L hL => exact expL_noPM l _ b s (fun i t h => ih _ _ t h) L 0 [] (rfs_ok s _ 0 L hL) rfl (by simp) t h
theorem expL_len (l : List (List UInt8 × List UInt8)) (sub : Nat → Res) (b : List Nat) (s : List UInt8) : ∀ (L : List Ref) (at_ : Nat) (out : List UInt8) (t : List UInt8), expL l sub b s L at_ out = .ok t → t.length ≤ 400
  | [], at_, out, t, he => by
    rw [expL] at he
    split at he
    · cases he
    · injection he with he
      subst he
      omega
  | r :: L, at_, out, t, he => by
    rw [expL] at he
    repeat' split at he
    all_goals first
      | cases he
      | exact expL_len l sub b s L r.to _ t he
theorem expM_len (l : List (List UInt8 × List UInt8)) (n : Nat) (s : List UInt8) (b : List Nat) (t : List UInt8) (h : expM l n s b = .ok t) : t.length ≤ 400 := by
  cases n with
  | zero => cases h
  | succ n =>
    rw [expM] at h
    split at h
    · cases h
    · exact expL_len l _ b s _ 0 [] t h
/-- EXPANDING TWICE IS EXPANDING ONCE. -/
theorem expM_plain (l : List (List UInt8 × List UInt8)) (n : Nat) (t : List UInt8) (b : List Nat) (h : noPM t) (hl : t.length ≤ 400) : expM l (n + 1) t b = .ok t := by
  rw [expM, refs_none h]
  simp only
  rw [expL, List.nil_append, List.drop_zero, if_neg (by omega)]
/-- What comes does not hang on what is being expanded. -/
theorem expL_indep (l : List (List UInt8 × List UInt8)) (sub sub' : Nat → Res) (b b' : List Nat) (s : List UInt8) (hs : ∀ i t t', sub i = .ok t → sub' i = .ok t' → t = t') : ∀ (L : List Ref) (at_ : Nat) (out t t' : List UInt8), expL l sub b s L at_ out = .ok t → expL l sub' b' s L at_ out = .ok t' → t = t'
  | [], at_, out, t, t', h, h' => by
    rw [expL] at h h'
    rw [h] at h'
    injection h'
  | r :: L, at_, out, t, t', h, h' => by
    rw [expL] at h h'
    split at h
    · cases h
    · next h1 =>
      rw [if_neg h1] at h'
      split at h
      · cases h
      · next i hi =>
        simp only [hi] at h'
        split at h
        · cases h
        · split at h'
          · cases h'
          · split at h
            · cases h
            · next u hu =>
              split at h'
              · cases h'
              · next u' hu' =>
                obtain rfl := hs i u u' hu hu'
                exact expL_indep l sub sub' b b' s hs L r.to _ t t' h h'
theorem expM_indep (l : List (List UInt8 × List UInt8)) (n : Nat) : ∀ (n' : Nat) (s : List UInt8) (b b' : List Nat) (t t' : List UInt8), expM l n s b = .ok t → expM l n' s b' = .ok t' → t = t' := by
  induction n with
  | zero => intro n' s b b' t t' h; cases h
  | succ n ih =>
    intro n' s b b' t t' h h'
    cases n' with
    | zero => cases h'
    | succ n' =>
      rw [expM] at h h'
      split at h
      · cases h
      · next L hL =>
        simp only [hL] at h'
        exact expL_indep l _ _ b b' s (fun i t t' h h' => ih _ _ _ _ t t' h h') L 0 [] t t' h h'
/-- The definition k has this source. -/
def setSrc (l : List (List UInt8 × List UInt8)) (k : Nat) (x : List UInt8) : List (List UInt8 × List UInt8) := match l[k]? with
  | none => l
  | some d => l.set k (d.1, x)
theorem findM_set (l : List (List UInt8 × List UInt8)) (k : Nat) (x nm : List UInt8) : findM (setSrc l k x) nm = findM l nm := by
  unfold findM setSrc
  split
  · rfl
  · next d hd =>
    induction l generalizing k with
    | nil => simp at hd
    | cons e l ih =>
      cases k with
      | zero =>
        simp only [List.getElem?_cons_zero, Option.some.injEq] at hd
        subst hd
        rw [List.set_cons_zero, List.findIdx?_cons, List.findIdx?_cons]
      | succ k =>
        rw [List.set_cons_succ, List.findIdx?_cons, List.findIdx?_cons, ih k (by simpa using hd)]
theorem srcOf_set (l : List (List UInt8 × List UInt8)) (k : Nat) (x : List UInt8) (i : Nat) : srcOf (setSrc l k x) i = if i = k ∧ k < l.length then x else srcOf l i := by
  unfold srcOf setSrc
  split
  · next h =>
    rw [List.getElem?_eq_none_iff] at h
    rw [if_neg (by omega)]
  · next d hd =>
    have hk : k < l.length := (List.getElem?_eq_some_iff.1 hd).1
    rw [List.getElem?_set]
    by_cases e : i = k
    · subst e
      rw [if_pos rfl, if_pos hk, if_pos ⟨rfl, hk⟩]
      rfl
    · rw [if_neg (fun h => e h.symm), if_neg (fun h => e h.1)]
/-- WITH A DEFINITION REPLACED BY WHAT IT EXPANDS TO, SOURCES EXPAND TO THE SAME. -/
theorem expL_set (l : List (List UInt8 × List UInt8)) (k : Nat) (x : List UInt8) (sub sub' : Nat → Res) (b : List Nat) (s : List UInt8) (hs : ∀ i t, sub i = .ok t → sub' i = .ok t) : ∀ (L : List Ref) (at_ : Nat) (out t : List UInt8), expL l sub b s L at_ out = .ok t → expL (setSrc l k x) sub' b s L at_ out = .ok t
  | [], at_, out, t, h => by
    rw [expL] at h ⊢
    exact h
  | r :: L, at_, out, t, h => by
    rw [expL] at h ⊢
    rw [findM_set]
    split at h
    · cases h
    · next h1 =>
      rw [if_neg h1]
      split at h
      · cases h
      · next i hi =>
        split at h
        · cases h
        · next h2 =>
          rw [if_neg h2]
          split at h
          · cases h
          · next u hu =>
            rw [hs i u hu]
            exact expL_set l k x sub sub' b s hs L r.to _ t h
theorem expM_set (l : List (List UInt8 × List UInt8)) (k : Nat) (x : List UInt8) (m : Nat) (hk : k < l.length) (hx : expM l m (srcOf l k) [] = .ok x) (n : Nat) : ∀ (s : List UInt8) (b : List Nat) (t : List UInt8), expM l n s b = .ok t → expM (setSrc l k x) n s b = .ok t := by
  induction n with
  | zero => intro s b t h; cases h
  | succ n ih =>
    intro s b t h
    rw [expM] at h ⊢
    split at h
    · cases h
    · next L hL =>
      refine expL_set l k x _ _ b s (fun i u hu => ?_) L 0 [] t h
      rw [srcOf_set]
      by_cases e : i = k
      · subst e
        rw [if_pos ⟨rfl, hk⟩]
        obtain rfl := expM_indep l _ _ _ _ _ u x hu hx
        cases n with
        | zero => cases hu
        | succ n => exact expM_plain _ n u _ (expM_noPM _ _ _ _ _ hu) (expM_len _ _ _ _ _ hu)
      · rw [if_neg (fun h => e h.1)]
        exact ih _ _ _ hu
end Go.Proofs.YtgcpinnnfoanjaaDoor.Lb
/-
  Names of the library.
-/
namespace Go.Proofs.YtgcpinnnfoanjaaDoor
open Go.RowKit

set_option maxRecDepth 100000 in
set_option maxHeartbeats 2000000 in
theorem lname_any (l : List UInt8) (w : World) (hk : Kinds w) (hml : l.length ≤ 9223372036854775807) :
    Calls Tryd.prog 19 #[.string ⟨l.toArray⟩] w fun e w' => e = .returned (.int .i64 (nlen l)) ∧ w = w' := by
  rcases Nat.eq_zero_or_pos l.length with h0 | hpos
  · obtain rfl := List.length_eq_zero_iff.1 h0
    clear h0 hml
    go_enter Tryd.func19, Tryd.ntmps19
    go_wp2_with fail
    go_ret
    exact ⟨rfl, rfl⟩
  · have e2 : (l.isEmpty) = false := by cases l with | nil => simp at hpos | cons a b => rfl
    obtain ⟨c0, ⟨_, hx0⟩, hc0, hb0⟩ := byte_at l 0 hpos
    have HL := Lib.hid (letter_any c0 w hb0 hk)
    have HKW := Lib.hid hk
    obtain ⟨R, hR⟩ : ∃ R, nlen l = R := ⟨_, rfl⟩
    have HR := Lib.hid hR
    rw [hR]
    have HC0 := Lib.hid hc0
    clear hk hR hc0
    cases hl : Asc.isLetter c0
    · have HZ : Hid ((0 : Nat) = R) := Lib.hid (by rw [← HR.out, nlen_no hpos (by rw [HC0.out]; exact hl)])
      rw [hl] at HL
      clear hl
      go_enter Tryd.func19, Tryd.ntmps19
      go_wp2_with (go_at_call 29; refine HL.out.mono ?_; rintro e w' ⟨rfl, rfl⟩)
      go_ret
      exact ⟨ret_int (by rw [← HZ.out]; rfl), rfl⟩
    · have HA : Hid (∀ k, 1 ≤ k → k ≤ l.length → (∀ i (h : i < l.length), 1 ≤ i → i < k → Asc.isWord (l[i]).toNat = true) → (∀ h : k < l.length, Asc.isWord (l[k]).toNat = false) → (if 32 < k then 0 else k) = R) :=
        Lib.hid (fun k h1 h2 h3 h4 => by rw [← HR.out, nlen_at h1 h2 (by rw [HC0.out]; exact hl) h3 h4])
      rw [hl] at HL
      clear hl hx0
      obtain ⟨c0', ⟨_, hx0⟩, hc0', _⟩ := byte_at l 0 hpos
      have ec : c0' = c0 := hc0'.symm.trans HC0.out
      rw [ec] at hx0
      clear hc0' ec
      go_enter Tryd.func19, Tryd.ntmps19
      go_wp2_with (go_at_call 29; refine HL.out.mono ?_; rintro e w' ⟨rfl, rfl⟩)
      go_loop [3] (fun i => ∃ k : Nat, 1 ≤ k ∧ k ≤ l.length ∧ i = .int .i64 k ∧ Hid (∀ i (h : i < l.length), 1 ≤ i → i < k → Asc.isWord (l[i]).toNat = true)) (fun i => l.length - (intOf i).toNat)
      case atStart => exact ⟨1, by omega, by omega, rfl, Lib.hid (fun _ _ _ _ => by omega)⟩
      case round =>
        obtain ⟨k, hk1, hkl, rfl, HALL⟩ := hrel
        by_cases hlt : k < l.length
        · obtain ⟨c, ⟨_, hx⟩, hc, hb⟩ := byte_at l k hlt
          have HC := Lib.hid hc
          have HW := Lib.hid (word_any c w hb HKW.out)
          clear hc hx0
          cases hw : Asc.isWord c
          · have HZ : Hid ((if 32 < k then 0 else k) = R) := Lib.hid (HA.out k hk1 hkl HALL.out (fun _ => by rw [HC.out]; exact hw))
            rw [hw] at HW
            clear hw
            by_cases h32 : 32 < k
            · have z1 : decide ((32 : Int) < (k : Int)) = true := decide_eq_true (by omega)
              have HZ2 : Hid ((0 : Nat) = R) := Lib.hid (by rw [← HZ.out, if_pos h32])
              go_wp2_with (go_at_call 30; refine HW.out.mono ?_; rintro e w' ⟨rfl, rfl⟩)
              go_ret
              exact ⟨ret_int (by rw [← HZ2.out]; rfl), rfl⟩
            · have z1 : decide ((32 : Int) < (k : Int)) = false := decide_eq_false (by omega)
              have HZ2 : Hid (k = R) := Lib.hid (by rw [← HZ.out, if_neg h32])
              go_wp2_with (go_at_call 30; refine HW.out.mono ?_; rintro e w' ⟨rfl, rfl⟩)
              go_ret
              exact ⟨ret_int (by rw [← HZ2.out]), rfl⟩
          · have HN : Hid (∀ i (h : i < l.length), 1 ≤ i → i < k + 1 → Asc.isWord (l[i]).toNat = true) := Lib.hid (fun i h h1 h2 => by
              by_cases e : i = k
              · subst e; rw [HC.out]; exact hw
              · exact HALL.out i h h1 (by omega))
            rw [hw] at HW
            clear hw
            go_wp2_with (go_at_call 30; refine HW.out.mono ?_; rintro e w' ⟨rfl, rfl⟩)
            go_round
            case rel => exact ⟨k + 1, by omega, by omega, by go_num, HN⟩
            case measure => simp [intOf]; omega
        · obtain rfl : k = l.length := by omega
          have HZ : Hid ((if 32 < l.length then 0 else l.length) = R) := Lib.hid (HA.out _ hk1 hkl HALL.out (fun hh => by omega))
          by_cases h32 : 32 < l.length
          · have z1 : decide ((32 : Int) < (l.length : Int)) = true := decide_eq_true (by omega)
            have HZ2 : Hid ((0 : Nat) = R) := Lib.hid (by rw [← HZ.out, if_pos h32])
            go_wp2_with fail
            go_ret
            exact ⟨ret_int (by rw [← HZ2.out]; rfl), rfl⟩
          · have z1 : decide ((32 : Int) < (l.length : Int)) = false := decide_eq_false (by omega)
            have HZ2 : Hid (l.length = R) := Lib.hid (by rw [← HZ.out, if_neg h32])
            go_wp2_with fail
            go_ret
            exact ⟨ret_int (by rw [← HZ2.out]), rfl⟩

set_option maxRecDepth 100000 in
theorem lisname_any (l : List UInt8) (w : World) (hk : Kinds w) (hml : l.length ≤ 9223372036854775807) :
    Calls Tryd.prog 13 #[.string ⟨l.toArray⟩] w fun e w' => e = .returned (.bool (nmB l)) ∧ w = w' := by
  rcases Nat.eq_zero_or_pos l.length with h0 | hpos
  · obtain rfl := List.length_eq_zero_iff.1 h0
    rw [nmB_no (fun h => by have := h.1; simp at this)]
    clear h0 hml
    go_enter Tryd.func13, Tryd.ntmps13
    go_wp2_with fail
    go_ret
    exact ⟨rfl, rfl⟩
  · have e2 : (l.isEmpty) = false := by cases l with | nil => simp at hpos | cons a b => rfl
    have HN := Lib.hid (lname_any l w hk hml)
    have hle := nlen_le l
    have HI := Lib.hid (nm_iff hpos)
    obtain ⟨n, hn⟩ : ∃ n, nlen l = n := ⟨_, rfl⟩
    rw [hn] at HN hle HI
    clear hn hk
    by_cases e : n = l.length
    · rw [nmB_yes (HI.out.2 e)]
      subst e
      clear hle
      go_enter Tryd.func13, Tryd.ntmps13
      go_wp2_with (go_at_call 19; refine HN.out.mono ?_; rintro e w' ⟨rfl, rfl⟩)
      go_ret
      exact ⟨rfl, rfl⟩
    · rw [nmB_no (fun h => e (HI.out.1 h))]
      have z1 : ((n : Int) == (l.length : Int)) = false := by rw [beq_eq_false_iff_ne]; omega
      clear HI
      go_enter Tryd.func13, Tryd.ntmps13
      go_wp2_with (go_at_call 19; refine HN.out.mono ?_; rintro e w' ⟨rfl, rfl⟩)
      go_ret
      exact ⟨ret_bool (by first | rfl | simpa using e), rfl⟩

end Go.Proofs.YtgcpinnnfoanjaaDoor
/- CONTRACTS OF Go's LIBRARY, laid at this translation by the kit's tool. -/
namespace Go.Proofs
open Go.Shelf
def Tryd.lays170_ren : Go.Shelf.Ren := ⟨fun | 170 => 22 | n => n, fun | 70 => 65 | 3 => 3 | 0 => 0 | 72 => 67 | 37 => 22 | 5 => 5 | n => n, fun | n => n⟩
theorem Tryd.lays170 : Go.Proofs.Lays.n170 Tryd.prog Tryd.lays170_ren := {
  mixed := by kernel_rfl
  f170 := Tryd.func22.trans (congrArg some (by kernel_rfl))
  t0 := Tryd.underlying0
  a0 := Tryd.isAgg0
  z0 := Tryd.sizeOf0
  v0 := Tryd.zeroValue0
  t3 := Tryd.underlying3
  a3 := Tryd.isAgg3
  z3 := Tryd.sizeOf3
  v3 := Tryd.zeroValue3
  t37 := Tryd.underlying22
  a37 := Tryd.isAgg22
  z37 := Tryd.sizeOf22
  v37 := Tryd.zeroValue22
  t70 := Tryd.underlying65
  a70 := Tryd.isAgg65
  z70 := Tryd.sizeOf65
  v70 := Tryd.zeroValue65
  t72 := Tryd.underlying67
  a72 := Tryd.isAgg67
  z72 := Tryd.sizeOf67
  v72 := Tryd.zeroValue67 }
open Go.RowKit in
theorem Tryd.Builder_Len (B b : Nat) (bs : List Value) (w : World) (h : Lib.IsBuilder 67 5 B b bs w) :
    Calls Tryd.prog 22 #[.pointer (some ⟨b, 0, none⟩)] w fun e w' => e = .returned (.int .i64 bs.length) ∧ w' = w := Any.Builder_Len Tryd.lays170 B b bs w h
def Tryd.lays169_ren : Go.Shelf.Ren := ⟨fun | 169 => 26 | n => n, fun | 70 => 65 | 9 => 9 | 0 => 0 | 72 => 67 | 37 => 22 | 127 => 89 | 3 => 3 | 5 => 5 | n => n, fun | n => n⟩
theorem Tryd.lays169 : Go.Proofs.Lays.n169 Tryd.prog Tryd.lays169_ren := {
  mixed := by kernel_rfl
  f169 := Tryd.func26.trans (congrArg some (by kernel_rfl))
  t0 := Tryd.underlying0
  a0 := Tryd.isAgg0
  z0 := Tryd.sizeOf0
  v0 := Tryd.zeroValue0
  t3 := Tryd.underlying3
  a3 := Tryd.isAgg3
  z3 := Tryd.sizeOf3
  v3 := Tryd.zeroValue3
  t9 := Tryd.underlying9
  a9 := Tryd.isAgg9
  z9 := Tryd.sizeOf9
  v9 := Tryd.zeroValue9
  t37 := Tryd.underlying22
  a37 := Tryd.isAgg22
  z37 := Tryd.sizeOf22
  v37 := Tryd.zeroValue22
  t70 := Tryd.underlying65
  a70 := Tryd.isAgg65
  z70 := Tryd.sizeOf65
  v70 := Tryd.zeroValue65
  t72 := Tryd.underlying67
  a72 := Tryd.isAgg67
  z72 := Tryd.sizeOf67
  v72 := Tryd.zeroValue67
  t127 := Tryd.underlying89
  a127 := Tryd.isAgg89
  z127 := Tryd.sizeOf89
  v127 := Tryd.zeroValue89 }
theorem Tryd.Builder_Extra_169 : Builder.Extra Tryd.prog Tryd.lays169_ren := {
  sizeBuilder := by kernel_rfl
  liesBuilder := by kernel_rfl
  t5 := Tryd.underlying5
  a5 := Tryd.isAgg5
  z5 := Tryd.sizeOf5
  v5 := Tryd.zeroValue5
  infoByte := by kernel_rfl
  cellsByte := by kernel_rfl
  sizeByte := by kernel_rfl
  neB5 := by decide }
open Go.RowKit in
theorem Tryd.Builder_String (B b : Nat) (l : List UInt8) (w : World) (h : Lib.IsBuilder 67 5 B b (Lib.byteCells l) w) (h0 : l ≠ []) :
    Calls Tryd.prog 26 #[.pointer (some ⟨b, 0, none⟩)] w fun e w' => e = .returned (.string ⟨l.toArray⟩) ∧ Below B w w' := Any.Builder_String Tryd.lays169 Tryd.Builder_Extra_169 B b l w h h0
open Go.RowKit in
theorem Tryd.Builder_String_empty (B b : Nat) (w : World) (h : Lib.IsBuilder 67 5 B b [] w) (hBw : B ≤ w.heap.size) :
    Calls Tryd.prog 26 #[.pointer (some ⟨b, 0, none⟩)] w fun e w' => e = .returned (.string ⟨#[]⟩) ∧ Below B w w' := Any.Builder_String_empty Tryd.lays169 Tryd.Builder_Extra_169 B b w h hBw
open Go.RowKit in
theorem Tryd.Builder_String_any (B b : Nat) (l : List UInt8) (w : World) (h : Lib.IsBuilder 67 5 B b (Lib.byteCells l) w) (hBw : B ≤ w.heap.size) :
    Calls Tryd.prog 26 #[.pointer (some ⟨b, 0, none⟩)] w fun e w' => e = .returned (.string ⟨l.toArray⟩) ∧ Below B w w' := Any.Builder_String_any Tryd.lays169 Tryd.Builder_Extra_169 B b l w h hBw
def Tryd.lays137_ren : Go.Shelf.Ren := ⟨fun | 137 => 70 | 217 => 46 | 266 => 57 | n => n, fun | 9 => 9 | 5 => 5 | 3 => 3 | n => n, fun | n => n⟩
theorem Tryd.lays137 : Go.Proofs.Lays.n137 Tryd.prog Tryd.lays137_ren := {
  mixed := by kernel_rfl
  f137 := Tryd.func70.trans (congrArg some (by kernel_rfl))
  f217 := Tryd.func46.trans (congrArg some (by kernel_rfl))
  f266 := Tryd.func57.trans (congrArg some (by kernel_rfl))
  t3 := Tryd.underlying3
  a3 := Tryd.isAgg3
  z3 := Tryd.sizeOf3
  v3 := Tryd.zeroValue3
  t5 := Tryd.underlying5
  a5 := Tryd.isAgg5
  z5 := Tryd.sizeOf5
  v5 := Tryd.zeroValue5
  t9 := Tryd.underlying9
  a9 := Tryd.isAgg9
  z9 := Tryd.sizeOf9
  v9 := Tryd.zeroValue9 }
open Go.RowKit in
theorem Tryd.strings_IndexByte (s : ByteArray) (c : Int) (w : World) :
    Calls Tryd.prog 70 #[.string s, .int .u8 c] w fun e w' => e = .returned (.int .i64 (Lib.indexByte s.data.toList c.toNat.toUInt8)) ∧ w' = w := Any.strings_IndexByte Tryd.lays137 s c w
open Go.RowKit in
theorem Tryd.Builder_Len_f (B b : Nat) (bs : List Value) (w : World) (h : Lib.IsBuilderF 67 5 B b bs w) :
    Calls Tryd.prog 22 #[.pointer (some ⟨b, 0, none⟩)] w fun e w' => e = .returned (.int .i64 bs.length) ∧ w' = w := Any.Builder_Len_f Tryd.lays170 B b bs w h
open Go.RowKit in
theorem Tryd.Builder_String_f (B b : Nat) (l : List UInt8) (w : World) (h : Lib.IsBuilderF 67 5 B b (Lib.byteCells l) w) (h0 : l ≠ []) :
    Calls Tryd.prog 26 #[.pointer (some ⟨b, 0, none⟩)] w fun e w' => e = .returned (.string ⟨l.toArray⟩) ∧ (Lib.IsBuilderF 67 5 B b (Lib.byteCells l) w' ∧ Below B w w') := Any.Builder_String_f Tryd.lays169 Tryd.Builder_Extra_169 B b l w h h0
open Go.RowKit in
theorem Tryd.Builder_String_empty_f (B b : Nat) (w : World) (h : Lib.IsBuilderF 67 5 B b [] w) (hBw : B ≤ w.heap.size) :
    Calls Tryd.prog 26 #[.pointer (some ⟨b, 0, none⟩)] w fun e w' => e = .returned (.string ⟨#[]⟩) ∧ (Lib.IsBuilderF 67 5 B b [] w' ∧ Below B w w') := Any.Builder_String_empty_f Tryd.lays169 Tryd.Builder_Extra_169 B b w h hBw
open Go.RowKit in
theorem Tryd.Builder_String_any_f (B b : Nat) (l : List UInt8) (w : World) (h : Lib.IsBuilderF 67 5 B b (Lib.byteCells l) w) (hBw : B ≤ w.heap.size) :
    Calls Tryd.prog 26 #[.pointer (some ⟨b, 0, none⟩)] w fun e w' => e = .returned (.string ⟨l.toArray⟩) ∧ (Lib.IsBuilderF 67 5 B b (Lib.byteCells l) w' ∧ Below B w w') := Any.Builder_String_any_f Tryd.lays169 Tryd.Builder_Extra_169 B b l w h hBw
open Go.RowKit in
theorem Tryd.Builder_String_k (B b : Nat) (l : List UInt8) (w : World) (h : Lib.IsBuilderF 67 5 B b (Lib.byteCells l) w) (h0 : l ≠ []) :
    Calls Tryd.prog 26 #[.pointer (some ⟨b, 0, none⟩)] w fun e w' => e = .returned (.string ⟨l.toArray⟩) ∧ (Lib.IsBuilderF 67 5 B b (Lib.byteCells l) w' ∧ Below B w w' ∧ Lib.OthersKept 5 (some b) w w') := Any.Builder_String_k Tryd.lays169 Tryd.Builder_Extra_169 B b l w h h0
open Go.RowKit in
theorem Tryd.Builder_String_empty_k (B b : Nat) (w : World) (h : Lib.IsBuilderF 67 5 B b [] w) (hBw : B ≤ w.heap.size) :
    Calls Tryd.prog 26 #[.pointer (some ⟨b, 0, none⟩)] w fun e w' => e = .returned (.string ⟨#[]⟩) ∧ (Lib.IsBuilderF 67 5 B b [] w' ∧ Below B w w' ∧ Lib.OthersKept 5 (some b) w w') := Any.Builder_String_empty_k Tryd.lays169 Tryd.Builder_Extra_169 B b w h hBw
open Go.RowKit in
theorem Tryd.Builder_String_any_k (B b : Nat) (l : List UInt8) (w : World) (h : Lib.IsBuilderF 67 5 B b (Lib.byteCells l) w) (hBw : B ≤ w.heap.size) :
    Calls Tryd.prog 26 #[.pointer (some ⟨b, 0, none⟩)] w fun e w' => e = .returned (.string ⟨l.toArray⟩) ∧ (Lib.IsBuilderF 67 5 B b (Lib.byteCells l) w' ∧ Below B w w' ∧ Lib.OthersKept 5 (some b) w w') := Any.Builder_String_any_k Tryd.lays169 Tryd.Builder_Extra_169 B b l w h hBw
def Tryd.lays217_ren : Go.Shelf.Ren := ⟨fun | 217 => 46 | 266 => 57 | n => n, fun | 9 => 9 | 5 => 5 | 3 => 3 | n => n, fun | n => n⟩
theorem Tryd.lays217 : Go.Proofs.Lays.n217 Tryd.prog Tryd.lays217_ren := {
  mixed := by kernel_rfl
  f217 := Tryd.func46.trans (congrArg some (by kernel_rfl))
  f266 := Tryd.func57.trans (congrArg some (by kernel_rfl))
  t3 := Tryd.underlying3
  a3 := Tryd.isAgg3
  z3 := Tryd.sizeOf3
  v3 := Tryd.zeroValue3
  t5 := Tryd.underlying5
  a5 := Tryd.isAgg5
  z5 := Tryd.sizeOf5
  v5 := Tryd.zeroValue5
  t9 := Tryd.underlying9
  a9 := Tryd.isAgg9
  z9 := Tryd.sizeOf9
  v9 := Tryd.zeroValue9 }
open Go.RowKit Go.Lib in
theorem Tryd.stringslite_IndexByte (s : ByteArray) (c : Int) (w : World) :
    Calls Tryd.prog 46 #[.string s, .int .u8 c] w fun e w' => e = .returned (.int .i64 (Lib.indexByte s.data.toList c.toNat.toUInt8)) ∧ w' = w := Any.stringslite_IndexByte Tryd.lays217 s c w
def Tryd.lays224_ren : Go.Shelf.Ren := ⟨fun | 224 => 48 | n => n, fun | 3 => 3 | n => n, fun | n => n⟩
theorem Tryd.lays224 : Go.Proofs.Lays.n224 Tryd.prog Tryd.lays224_ren := {
  mixed := by kernel_rfl
  f224 := Tryd.func48.trans (congrArg some (by kernel_rfl))
  t3 := Tryd.underlying3
  a3 := Tryd.isAgg3
  z3 := Tryd.sizeOf3
  v3 := Tryd.zeroValue3 }
open Go.RowKit Go.Lib in
theorem Tryd.bytealg_Cutover (n : Int) (h0 : 0 ≤ n) (h1 : n < 4611686018427387904) (w : World) :
    Calls Tryd.prog 48 #[.int .i64 n] w fun e w' => e = .returned (.int .i64 ((n + 16) / 8)) ∧ w' = w := Any.bytealg_Cutover Tryd.lays224 n h0 h1 w
def Tryd.lays314_ren : Go.Shelf.Ren := ⟨fun | 314 => 58 | n => n, fun | 9 => 9 | 51 => 107 | 3 => 3 | 4 => 4 | 5 => 5 | 46 => 102 | n => n, fun | n => n⟩
theorem Tryd.lays314 : Go.Proofs.Lays.n314 Tryd.prog Tryd.lays314_ren := {
  mixed := by kernel_rfl
  f314 := Tryd.func58.trans (congrArg some (by kernel_rfl))
  t3 := Tryd.underlying3
  a3 := Tryd.isAgg3
  z3 := Tryd.sizeOf3
  v3 := Tryd.zeroValue3
  t4 := Tryd.underlying4
  a4 := Tryd.isAgg4
  z4 := Tryd.sizeOf4
  v4 := Tryd.zeroValue4
  t5 := Tryd.underlying5
  a5 := Tryd.isAgg5
  z5 := Tryd.sizeOf5
  v5 := Tryd.zeroValue5
  t9 := Tryd.underlying9
  a9 := Tryd.isAgg9
  z9 := Tryd.sizeOf9
  v9 := Tryd.zeroValue9
  t46 := Tryd.underlying102
  a46 := Tryd.isAgg102
  z46 := Tryd.sizeOf102
  v46 := Tryd.zeroValue102
  t51 := Tryd.underlying107
  a51 := Tryd.isAgg107
  z51 := Tryd.sizeOf107
  v51 := Tryd.zeroValue107 }
open Go.RowKit Go.Lib in
theorem Tryd.bytealg_hashStr (sep : ByteArray) (hs : sep.size < 4294967281) (w : World) :
    Calls Tryd.prog 58 #[.string sep] w fun e w' => e = .returned (.tuple #[.int .u32 (RK.H sep.data.toList % 4294967296), .int .u32 (16777619 ^ sep.size % 4294967296)]) ∧ w' = w := Any.bytealg_hashStr Tryd.lays314 sep hs w
def Tryd.lays267_ren : Go.Shelf.Ren := ⟨fun | 267 => 49 | 314 => 58 | n => n, fun | 9 => 9 | 3 => 3 | 146 => 108 | 51 => 107 | 4 => 4 | 5 => 5 | 46 => 102 | n => n, fun | n => n⟩
theorem Tryd.lays267 : Go.Proofs.Lays.n267 Tryd.prog Tryd.lays267_ren := {
  mixed := by kernel_rfl
  f267 := Tryd.func49.trans (congrArg some (by kernel_rfl))
  f314 := Tryd.func58.trans (congrArg some (by kernel_rfl))
  t3 := Tryd.underlying3
  a3 := Tryd.isAgg3
  z3 := Tryd.sizeOf3
  v3 := Tryd.zeroValue3
  t4 := Tryd.underlying4
  a4 := Tryd.isAgg4
  z4 := Tryd.sizeOf4
  v4 := Tryd.zeroValue4
  t5 := Tryd.underlying5
  a5 := Tryd.isAgg5
  z5 := Tryd.sizeOf5
  v5 := Tryd.zeroValue5
  t9 := Tryd.underlying9
  a9 := Tryd.isAgg9
  z9 := Tryd.sizeOf9
  v9 := Tryd.zeroValue9
  t46 := Tryd.underlying102
  a46 := Tryd.isAgg102
  z46 := Tryd.sizeOf102
  v46 := Tryd.zeroValue102
  t51 := Tryd.underlying107
  a51 := Tryd.isAgg107
  z51 := Tryd.sizeOf107
  v51 := Tryd.zeroValue107
  t146 := Tryd.underlying108
  a146 := Tryd.isAgg108
  z146 := Tryd.sizeOf108
  v146 := Tryd.zeroValue108 }
open Go.RowKit Go.Lib in
theorem Tryd.bytealg_IndexRabinKarp (s sep : ByteArray) (h1 : 1 ≤ sep.size) (h2 : sep.size ≤ s.size) (hs : s.size < 4294967281) (w : World) :
    Calls Tryd.prog 49 #[.string s, .string sep] w fun e w' => e = .returned (.int .i64 (Lib.index s.data.toList sep.data.toList)) ∧ w' = w := Any.bytealg_IndexRabinKarp Tryd.lays267 s sep h1 h2 hs w
def Tryd.lays219_ren : Go.Shelf.Ren := ⟨fun | 219 => 37 | 217 => 46 | 225 => 47 | 224 => 48 | 267 => 49 | 266 => 57 | 314 => 58 | n => n, fun | 9 => 9 | 3 => 3 | 4 => 4 | 5 => 5 | 46 => 102 | 146 => 108 | 51 => 107 | n => n, fun | 1 => 1 | n => n⟩
theorem Tryd.lays219 : Go.Proofs.Lays.n219 Tryd.prog Tryd.lays219_ren := {
  mixed := by kernel_rfl
  f217 := Tryd.func46.trans (congrArg some (by kernel_rfl))
  f219 := Tryd.func37.trans (congrArg some (by kernel_rfl))
  f224 := Tryd.func48.trans (congrArg some (by kernel_rfl))
  f225 := Tryd.func47.trans (congrArg some (by kernel_rfl))
  f266 := Tryd.func57.trans (congrArg some (by kernel_rfl))
  f267 := Tryd.func49.trans (congrArg some (by kernel_rfl))
  f314 := Tryd.func58.trans (congrArg some (by kernel_rfl))
  t3 := Tryd.underlying3
  a3 := Tryd.isAgg3
  z3 := Tryd.sizeOf3
  v3 := Tryd.zeroValue3
  t4 := Tryd.underlying4
  a4 := Tryd.isAgg4
  z4 := Tryd.sizeOf4
  v4 := Tryd.zeroValue4
  t5 := Tryd.underlying5
  a5 := Tryd.isAgg5
  z5 := Tryd.sizeOf5
  v5 := Tryd.zeroValue5
  t9 := Tryd.underlying9
  a9 := Tryd.isAgg9
  z9 := Tryd.sizeOf9
  v9 := Tryd.zeroValue9
  t46 := Tryd.underlying102
  a46 := Tryd.isAgg102
  z46 := Tryd.sizeOf102
  v46 := Tryd.zeroValue102
  t51 := Tryd.underlying107
  a51 := Tryd.isAgg107
  z51 := Tryd.sizeOf107
  v51 := Tryd.zeroValue107
  t146 := Tryd.underlying108
  a146 := Tryd.isAgg108
  z146 := Tryd.sizeOf108
  v146 := Tryd.zeroValue108
  g1 := by kernel_rfl }
open Go.RowKit Go.Lib in
theorem Tryd.stringslite_Index_one (s : ByteArray) (c : UInt8) (w : World) :
    Calls Tryd.prog 37 #[.string s, .string ⟨#[c]⟩] w fun e w' => e = .returned (.int .i64 (Lib.indexByte s.data.toList c)) ∧ w' = w := Any.stringslite_Index_one Tryd.lays219 s c w
open Go.RowKit Go.Lib in
theorem Tryd.stringslite_Index (s sub : ByteArray) (m : Int) (w : World) (hs : s.size < 4294967281) (hm : w.cell? ⟨1, 0, none⟩ = some (.int .i64 m)) :
    Calls Tryd.prog 37 #[.string s, .string sub] w fun e w' => e = .returned (.int .i64 (Lib.index s.data.toList sub.data.toList)) ∧ w' = w := Any.stringslite_Index Tryd.lays219 s sub m w hs hm
def Tryd.lays143_ren : Go.Shelf.Ren := ⟨fun | 143 => 27 | 219 => 37 | 217 => 46 | 225 => 47 | 224 => 48 | 267 => 49 | 266 => 57 | 314 => 58 | n => n, fun | 9 => 9 | 3 => 3 | 4 => 4 | 5 => 5 | 46 => 102 | 146 => 108 | 51 => 107 | n => n, fun | 1 => 1 | n => n⟩
theorem Tryd.lays143 : Go.Proofs.Lays.n143 Tryd.prog Tryd.lays143_ren := {
  mixed := by kernel_rfl
  f143 := Tryd.func27.trans (congrArg some (by kernel_rfl))
  f217 := Tryd.func46.trans (congrArg some (by kernel_rfl))
  f219 := Tryd.func37.trans (congrArg some (by kernel_rfl))
  f224 := Tryd.func48.trans (congrArg some (by kernel_rfl))
  f225 := Tryd.func47.trans (congrArg some (by kernel_rfl))
  f266 := Tryd.func57.trans (congrArg some (by kernel_rfl))
  f267 := Tryd.func49.trans (congrArg some (by kernel_rfl))
  f314 := Tryd.func58.trans (congrArg some (by kernel_rfl))
  t3 := Tryd.underlying3
  a3 := Tryd.isAgg3
  z3 := Tryd.sizeOf3
  v3 := Tryd.zeroValue3
  t4 := Tryd.underlying4
  a4 := Tryd.isAgg4
  z4 := Tryd.sizeOf4
  v4 := Tryd.zeroValue4
  t5 := Tryd.underlying5
  a5 := Tryd.isAgg5
  z5 := Tryd.sizeOf5
  v5 := Tryd.zeroValue5
  t9 := Tryd.underlying9
  a9 := Tryd.isAgg9
  z9 := Tryd.sizeOf9
  v9 := Tryd.zeroValue9
  t46 := Tryd.underlying102
  a46 := Tryd.isAgg102
  z46 := Tryd.sizeOf102
  v46 := Tryd.zeroValue102
  t51 := Tryd.underlying107
  a51 := Tryd.isAgg107
  z51 := Tryd.sizeOf107
  v51 := Tryd.zeroValue107
  t146 := Tryd.underlying108
  a146 := Tryd.isAgg108
  z146 := Tryd.sizeOf108
  v146 := Tryd.zeroValue108
  g1 := by kernel_rfl }
open Go.RowKit Go.Lib in
theorem Tryd.strings_Index_one (s : ByteArray) (c : UInt8) (w : World) :
    Calls Tryd.prog 27 #[.string s, .string ⟨#[c]⟩] w fun e w' => e = .returned (.int .i64 (Lib.indexByte s.data.toList c)) ∧ w' = w := Any.strings_Index_one Tryd.lays143 s c w
open Go.RowKit Go.Lib in
theorem Tryd.strings_Index (s sub : ByteArray) (m : Int) (w : World) (hs : s.size < 4294967281) (hm : w.cell? ⟨1, 0, none⟩ = some (.int .i64 m)) :
    Calls Tryd.prog 27 #[.string s, .string sub] w fun e w' => e = .returned (.int .i64 (Lib.index s.data.toList sub.data.toList)) ∧ w' = w := Any.strings_Index Tryd.lays143 s sub m w hs hm
def Tryd.laysM219_ren : Go.Shelf.Ren := ⟨fun | 219 => 37 | 217 => 46 | 225 => 47 | 224 => 48 | 267 => 49 | 266 => 57 | 314 => 58 | n => n, fun | 9 => 9 | 3 => 3 | 4 => 4 | 5 => 5 | 46 => 102 | 146 => 108 | 51 => 107 | n => n, fun | 1 => 1 | n => n⟩
theorem Tryd.laysM219 : Go.Proofs.LaysM.n219 Tryd.prog Tryd.laysM219_ren := {
  mixed := by kernel_rfl
  f217 := Tryd.func46.trans (congrArg some (by kernel_rfl))
  f219 := Tryd.func37.trans (congrArg some (by kernel_rfl))
  f224 := Tryd.func48.trans (congrArg some (by kernel_rfl))
  f225 := Tryd.func47.trans (congrArg some (by kernel_rfl))
  f266 := Tryd.func57.trans (congrArg some (by kernel_rfl))
  f267 := Tryd.func49.trans (congrArg some (by kernel_rfl))
  f314 := Tryd.func58.trans (congrArg some (by kernel_rfl))
  t3 := Tryd.underlying3
  a3 := Tryd.isAgg3
  z3 := Tryd.sizeOf3
  v3 := Tryd.zeroValue3
  t4 := Tryd.underlying4
  a4 := Tryd.isAgg4
  z4 := Tryd.sizeOf4
  v4 := Tryd.zeroValue4
  t5 := Tryd.underlying5
  a5 := Tryd.isAgg5
  z5 := Tryd.sizeOf5
  v5 := Tryd.zeroValue5
  t9 := Tryd.underlying9
  a9 := Tryd.isAgg9
  z9 := Tryd.sizeOf9
  v9 := Tryd.zeroValue9
  t46 := Tryd.underlying102
  a46 := Tryd.isAgg102
  z46 := Tryd.sizeOf102
  v46 := Tryd.zeroValue102
  t51 := Tryd.underlying107
  a51 := Tryd.isAgg107
  z51 := Tryd.sizeOf107
  v51 := Tryd.zeroValue107
  t146 := Tryd.underlying108
  a146 := Tryd.isAgg108
  z146 := Tryd.sizeOf108
  v146 := Tryd.zeroValue108
  g1 := by kernel_rfl
  i3 := by kernel_rfl
  i4 := by kernel_rfl
  i5 := by kernel_rfl
  i9 := by kernel_rfl
  i46 := by kernel_rfl
  i51 := by kernel_rfl
  i146 := by kernel_rfl
  m1 := by kernel_rfl
  s1_3 := fun w h => Go.Proofs.cell_of_shapedOpen_int (zero := #[.int .i64 0]) (t := 3) h (of_decide_eq_true (by kernel_rfl)) (by kernel_rfl) rfl (by kernel_rfl) (by kernel_rfl) Tryd.underlying3 }
open Go.RowKit Go.Lib in
theorem Tryd.stringslite_Index_shaped (s sub : ByteArray) (w : World) (h : w.ShapedOpen Tryd.prog) (hs : s.size < 4294967281) :
    Calls Tryd.prog 37 #[.string s, .string sub] w fun e w' => e = .returned (.int .i64 (Lib.index s.data.toList sub.data.toList)) ∧ w' = w := Any.stringslite_Index_shaped Tryd.laysM219 s sub w h hs
def Tryd.laysM143_ren : Go.Shelf.Ren := ⟨fun | 143 => 27 | 219 => 37 | 217 => 46 | 225 => 47 | 224 => 48 | 267 => 49 | 266 => 57 | 314 => 58 | n => n, fun | 9 => 9 | 3 => 3 | 4 => 4 | 5 => 5 | 46 => 102 | 146 => 108 | 51 => 107 | n => n, fun | 1 => 1 | n => n⟩
theorem Tryd.laysM143 : Go.Proofs.LaysM.n143 Tryd.prog Tryd.laysM143_ren := {
  mixed := by kernel_rfl
  f143 := Tryd.func27.trans (congrArg some (by kernel_rfl))
  f217 := Tryd.func46.trans (congrArg some (by kernel_rfl))
  f219 := Tryd.func37.trans (congrArg some (by kernel_rfl))
  f224 := Tryd.func48.trans (congrArg some (by kernel_rfl))
  f225 := Tryd.func47.trans (congrArg some (by kernel_rfl))
  f266 := Tryd.func57.trans (congrArg some (by kernel_rfl))
  f267 := Tryd.func49.trans (congrArg some (by kernel_rfl))
  f314 := Tryd.func58.trans (congrArg some (by kernel_rfl))
  t3 := Tryd.underlying3
  a3 := Tryd.isAgg3
  z3 := Tryd.sizeOf3
  v3 := Tryd.zeroValue3
  t4 := Tryd.underlying4
  a4 := Tryd.isAgg4
  z4 := Tryd.sizeOf4
  v4 := Tryd.zeroValue4
  t5 := Tryd.underlying5
  a5 := Tryd.isAgg5
  z5 := Tryd.sizeOf5
  v5 := Tryd.zeroValue5
  t9 := Tryd.underlying9
  a9 := Tryd.isAgg9
  z9 := Tryd.sizeOf9
  v9 := Tryd.zeroValue9
  t46 := Tryd.underlying102
  a46 := Tryd.isAgg102
  z46 := Tryd.sizeOf102
  v46 := Tryd.zeroValue102
  t51 := Tryd.underlying107
  a51 := Tryd.isAgg107
  z51 := Tryd.sizeOf107
  v51 := Tryd.zeroValue107
  t146 := Tryd.underlying108
  a146 := Tryd.isAgg108
  z146 := Tryd.sizeOf108
  v146 := Tryd.zeroValue108
  g1 := by kernel_rfl
  i3 := by kernel_rfl
  i4 := by kernel_rfl
  i5 := by kernel_rfl
  i9 := by kernel_rfl
  i46 := by kernel_rfl
  i51 := by kernel_rfl
  i146 := by kernel_rfl
  m1 := by kernel_rfl
  s1_3 := fun w h => Go.Proofs.cell_of_shapedOpen_int (zero := #[.int .i64 0]) (t := 3) h (of_decide_eq_true (by kernel_rfl)) (by kernel_rfl) rfl (by kernel_rfl) (by kernel_rfl) Tryd.underlying3 }
open Go.RowKit Go.Lib in
theorem Tryd.strings_Index_shaped (s sub : ByteArray) (w : World) (h : w.ShapedOpen Tryd.prog) (hs : s.size < 4294967281) :
    Calls Tryd.prog 27 #[.string s, .string sub] w fun e w' => e = .returned (.int .i64 (Lib.index s.data.toList sub.data.toList)) ∧ w' = w := Any.strings_Index_shaped Tryd.laysM143 s sub w h hs
def Tryd.lays206_ren : Go.Shelf.Ren := ⟨fun | 206 => 50 | n => n, fun | 9 => 9 | 4 => 4 | 3 => 3 | n => n, fun | n => n⟩
theorem Tryd.lays206 : Go.Proofs.Lays.n206 Tryd.prog Tryd.lays206_ren := {
  mixed := by kernel_rfl
  f206 := Tryd.func50.trans (congrArg some (by kernel_rfl))
  t3 := Tryd.underlying3
  a3 := Tryd.isAgg3
  z3 := Tryd.sizeOf3
  v3 := Tryd.zeroValue3
  t4 := Tryd.underlying4
  a4 := Tryd.isAgg4
  z4 := Tryd.sizeOf4
  v4 := Tryd.zeroValue4
  t9 := Tryd.underlying9
  a9 := Tryd.isAgg9
  z9 := Tryd.sizeOf9
  v9 := Tryd.zeroValue9 }
open Go.RowKit Go.Lib in
theorem Tryd.stringslite_HasPrefix (s p : ByteArray) (w : World) :
    Calls Tryd.prog 50 #[.string s, .string p] w fun e w' => e = .returned (.bool (Lib.hasPrefix s.data.toList p.data.toList)) ∧ w' = w := Any.stringslite_HasPrefix Tryd.lays206 s p w
def Tryd.lays99_ren : Go.Shelf.Ren := ⟨fun | 99 => 38 | 206 => 50 | n => n, fun | 9 => 9 | 4 => 4 | 3 => 3 | n => n, fun | n => n⟩
theorem Tryd.lays99 : Go.Proofs.Lays.n99 Tryd.prog Tryd.lays99_ren := {
  mixed := by kernel_rfl
  f99 := Tryd.func38.trans (congrArg some (by kernel_rfl))
  f206 := Tryd.func50.trans (congrArg some (by kernel_rfl))
  t3 := Tryd.underlying3
  a3 := Tryd.isAgg3
  z3 := Tryd.sizeOf3
  v3 := Tryd.zeroValue3
  t4 := Tryd.underlying4
  a4 := Tryd.isAgg4
  z4 := Tryd.sizeOf4
  v4 := Tryd.zeroValue4
  t9 := Tryd.underlying9
  a9 := Tryd.isAgg9
  z9 := Tryd.sizeOf9
  v9 := Tryd.zeroValue9 }
open Go.RowKit Go.Lib in
theorem Tryd.strings_HasPrefix (s p : ByteArray) (w : World) :
    Calls Tryd.prog 38 #[.string s, .string p] w fun e w' => e = .returned (.bool (Lib.hasPrefix s.data.toList p.data.toList)) ∧ w' = w := Any.strings_HasPrefix Tryd.lays99 s p w
def Tryd.lays208_ren : Go.Shelf.Ren := ⟨fun | 208 => 82 | 206 => 50 | n => n, fun | 9 => 9 | 4 => 4 | 3 => 3 | n => n, fun | n => n⟩
theorem Tryd.lays208 : Go.Proofs.Lays.n208 Tryd.prog Tryd.lays208_ren := {
  mixed := by kernel_rfl
  f206 := Tryd.func50.trans (congrArg some (by kernel_rfl))
  f208 := Tryd.func82.trans (congrArg some (by kernel_rfl))
  t3 := Tryd.underlying3
  a3 := Tryd.isAgg3
  z3 := Tryd.sizeOf3
  v3 := Tryd.zeroValue3
  t4 := Tryd.underlying4
  a4 := Tryd.isAgg4
  z4 := Tryd.sizeOf4
  v4 := Tryd.zeroValue4
  t9 := Tryd.underlying9
  a9 := Tryd.isAgg9
  z9 := Tryd.sizeOf9
  v9 := Tryd.zeroValue9 }
open Go.RowKit Go.Lib in
theorem Tryd.stringslite_TrimPrefix (s p : ByteArray) (w : World) :
    Calls Tryd.prog 82 #[.string s, .string p] w fun e w' => e = .returned (.string ⟨(Lib.trimPrefix s.data.toList p.data.toList).toArray⟩) ∧ w' = w := Any.stringslite_TrimPrefix Tryd.lays208 s p w
def Tryd.lays101_ren : Go.Shelf.Ren := ⟨fun | 101 => 81 | 208 => 82 | 206 => 50 | n => n, fun | 9 => 9 | 4 => 4 | 3 => 3 | n => n, fun | n => n⟩
theorem Tryd.lays101 : Go.Proofs.Lays.n101 Tryd.prog Tryd.lays101_ren := {
  mixed := by kernel_rfl
  f101 := Tryd.func81.trans (congrArg some (by kernel_rfl))
  f206 := Tryd.func50.trans (congrArg some (by kernel_rfl))
  f208 := Tryd.func82.trans (congrArg some (by kernel_rfl))
  t3 := Tryd.underlying3
  a3 := Tryd.isAgg3
  z3 := Tryd.sizeOf3
  v3 := Tryd.zeroValue3
  t4 := Tryd.underlying4
  a4 := Tryd.isAgg4
  z4 := Tryd.sizeOf4
  v4 := Tryd.zeroValue4
  t9 := Tryd.underlying9
  a9 := Tryd.isAgg9
  z9 := Tryd.sizeOf9
  v9 := Tryd.zeroValue9 }
open Go.RowKit Go.Lib in
theorem Tryd.strings_TrimPrefix (s p : ByteArray) (w : World) :
    Calls Tryd.prog 81 #[.string s, .string p] w fun e w' => e = .returned (.string ⟨(Lib.trimPrefix s.data.toList p.data.toList).toArray⟩) ∧ w' = w := Any.strings_TrimPrefix Tryd.lays101 s p w
end Go.Proofs
/-
  A reference of a source.
-/
namespace Go.Proofs.YtgcpinnnfoanjaaDoor
open Go.RowKit

theorem hp_any (l : List UInt8) (c : UInt8) (w : World) : Calls Tryd.prog 38 #[.string ⟨l.toArray⟩, .string ⟨#[c]⟩] w fun e w' => e = .returned (.bool (decide (l.head? = some c))) ∧ w = w' := by
  refine (Tryd.strings_HasPrefix ⟨l.toArray⟩ ⟨#[c]⟩ w).mono fun e w' ⟨h1, h2⟩ => ⟨?_, h2.symm⟩
  rw [h1]
  congr 2
  cases l with
  | nil => rfl
  | cons x t =>
    show Lib.hasPrefix (x :: t) [c] = _
    unfold Lib.hasPrefix
    simp only [List.isPrefixOf, Bool.and_true, List.head?_cons, Option.some.injEq]
    rw [Bool.eq_iff_iff, beq_iff_eq, decide_eq_true_iff]
    exact ⟨fun h => h.symm, fun h => h.symm⟩
theorem alb (w : World) (o : Obj) : Below w.heap.size w (w.alloc o) := (Below.refl _ w).alloc (Nat.le_refl _) o
theorem two_first (w : World) (cs cs' : Array Value) (t t' : TypeId) : ((w.alloc (.cells cs t)).alloc (.cells cs' t')).heap[w.heap.size]? = some (.cells cs t (0, 0)) :=
  ((alb (w.alloc (.cells cs t)) (.cells cs' t')).block w.heap.size (by simp)).trans (heap_alloc_new w _)
theorem infoRef : (Tryd.prog.info? 61).map (·.size) = some 4 := by kernel_rfl
theorem undRef : (Tryd.prog.underlying 61).map (fun d => match d with | .struct _ => true | _ => false) = some true := by kernel_rfl
theorem undRef2 : ∃ fs, Tryd.prog.underlying 61 = some (.struct fs) := by
  cases hq : Tryd.prog.underlying 61 with
  | none => have := undRef; rw [hq] at this; cases this
  | some d =>
    have := undRef
    rw [hq] at this
    cases d <;> first | exact ⟨_, rfl⟩ | (simp at this)
/-- A struct in a cell and a plain result. -/
theorem ret_ref {fn : Func} {p t : Tmp} (hfn : fn.results = #[.cell p 61, .tmp t]) {w : World} {cs : Array Value} {g : Nat} {ty : TypeId} (hg : w.heap[g]? = some (.cells cs ty (0, 0))) (hcs : cs.size = 4) {tmps : Array Value} {df : _} (hdf : df = []) (hp : tmps.getD p undef = .pointer (some ⟨g, 0, none⟩)) {post : Ending → World → Prop}
    (h : post (.returned (.tuple #[.agg cs, tmps.getD t undef])) w) : bodyPost Tryd.prog fn post Exit.ret { tmps := tmps, defers := df } w := by
  have hp' : tmps[p]?.getD undef = .pointer (some ⟨g, 0, none⟩) := by simpa using hp
  obtain ⟨fs, hd⟩ := undRef2
  have hl := run_loadVar_row (P := Tryd.prog) w g ty 61 cs (0, 0) (.struct fs) hg hd rfl (by rw [hcs]; exact infoRef)
  exact bodyPost_ret (by simp [results, hfn, hp', asAddr, hl]) hdf h
/-- What read gives. -/
def ReadP (s : List UInt8) (at_ : Nat) (w : World) (e : Ending) (w' : World) : Prop := Below w.heap.size w w' ∧ match Lb.readM (s.drop (at_ + 2)) with
  | some x => e = .returned (.tuple #[.agg #[.int .i64 (at_ : Int), .int .i64 ((at_ + 2 + x.2.2 : Nat) : Int), .string ⟨x.1.toArray⟩, .string ⟨x.2.1.toArray⟩], .bool true])
  | none => ∃ (i : Int) (a b : List UInt8), e = .returned (.tuple #[.agg #[.int .i64 (at_ : Int), .int .i64 i, .string ⟨a.toArray⟩, .string ⟨b.toArray⟩], .bool false])
set_option maxHeartbeats 8000000 in
set_option maxRecDepth 1000000 in
theorem read_any (s : List UInt8) (at_ : Nat) (w : World) (hk : Kinds w) (hl : at_ + 2 ≤ s.length) (hs : s.length ≤ 1000000) :
    Calls Tryd.prog 28 #[.string ⟨s.toArray⟩, .int .i64 (at_ : Int)] w (ReadP s at_ w) := by
  have HN := Lib.hid fun (q : List UInt8) (hq : q.length ≤ 1000000) W hW => lname_any q W hW (by omega)
  have HP := Lib.hid fun (q : List UInt8) (c : UInt8) W => hp_any q c W
  have HK := Lib.hid hk
  obtain ⟨i, hi⟩ : ∃ i, at_ + 2 = i := ⟨_, rfl⟩
  obtain ⟨q, hq⟩ : ∃ q, s.drop i = q := ⟨_, rfl⟩
  have hql : q.length = s.length - i := by rw [← hq, List.length_drop]
  have hqn := nlen_le q
  obtain ⟨n, hn⟩ : ∃ n, nlen q = n := ⟨_, rfl⟩
  rw [hn] at hqn
  obtain ⟨j, hj⟩ : ∃ j, i + n = j := ⟨_, rfl⟩
  have x1 : (ByteArray.mk s.toArray).extract i s.length = ⟨q.toArray⟩ := by rw [ext_drop, hq]
  have x2 : (ByteArray.mk s.toArray).extract i j = ⟨(q.take n).toArray⟩ := by rw [Asc.extract_seg]; unfold Asc.seg; rw [hq, ← hj, Nat.add_sub_cancel_left]
  have x3 : (ByteArray.mk s.toArray).extract j s.length = ⟨(q.drop n).toArray⟩ := by rw [ext_drop, ← hq, List.drop_drop, hj]
  have HX4 : Hid ((ByteArray.mk s.toArray).extract (j + 1) s.length = ⟨(q.drop (n + 1)).toArray⟩) := Lib.hid (by rw [ext_drop, ← hq, List.drop_drop, ← hj, Nat.add_assoc])
  have HX5 : Hid (∀ k, (ByteArray.mk s.toArray).extract (j + 1) (j + 1 + k) = ⟨((q.drop (n + 1)).take k).toArray⟩) := Lib.hid (fun k => by rw [Asc.extract_seg]; unfold Asc.seg; rw [Nat.add_sub_cancel_left, ← hq, List.drop_drop, ← hj, Nat.add_assoc])
  have HX6 : Hid (∀ k, (ByteArray.mk s.toArray).extract (j + (1 + k)) s.length = ⟨(q.drop (n + 1 + k)).toArray⟩) := Lib.hid (fun k => by rw [ext_drop, ← hq, List.drop_drop, ← hj]; congr 3; omega)
  have hw1 : IntKind.i64.wrap ((at_ : Int) + 2) = (i : Int) := by rw [IntWalk.i64_in _ (by omega)]; omega
  have hw2 : IntKind.i64.wrap ((i : Int) + (n : Int)) = (j : Int) := by rw [IntWalk.i64_in _ (by omega)]; omega
  have HR : Hid (∀ e w', Below w.heap.size w w' → (match Lb.readM q with
    | some x => e = .returned (.tuple #[.agg #[.int .i64 (at_ : Int), .int .i64 ((i + x.2.2 : Nat) : Int), .string ⟨x.1.toArray⟩, .string ⟨x.2.1.toArray⟩], .bool true])
    | none => ∃ (i : Int) (a b : List UInt8), e = .returned (.tuple #[.agg #[.int .i64 (at_ : Int), .int .i64 i, .string ⟨a.toArray⟩, .string ⟨b.toArray⟩], .bool false])) → ReadP s at_ w e w') := Lib.hid (fun e w' hb h => ⟨hb, by rw [hi, hq]; exact h⟩)
  have HM : Hid (Lb.readM q = if n = 0 then none
    else if (q.drop n).head? = some 58 then
      if nlen (q.drop (n + 1)) = 0 then none
      else if (q.drop (n + 1 + nlen (q.drop (n + 1)))).head? = some 125 then some (q.take n, (q.drop (n + 1)).take (nlen (q.drop (n + 1))), n + 1 + nlen (q.drop (n + 1)) + 1) else none
    else if (q.drop n).head? = some 125 then some (q.take n, [], n + 1) else none) := Lib.hid (by unfold Lb.readM; rw [hn])
  have HN1 : Hid (∀ W, Kinds W → Calls Tryd.prog 19 #[.string ⟨q.toArray⟩] W fun e w' => e = .returned (.int .i64 (n : Int)) ∧ W = w') := Lib.hid (fun W hW => by rw [← hn]; exact HN.out q (by omega) W hW)
  have HJE : Hid (i + n = j ∧ q.length = s.length - i) := Lib.hid ⟨hj, hql⟩
  have hij : i ≤ j := by omega
  have hil : i ≤ s.length := by omega
  have hjl : j ≤ s.length := by omega
  clear hk hi hq hn hj hl
  have HKA := Lib.hid fun o1 o2 => (HK.out.alloc o1).alloc o2
  have HBA := Lib.hid fun o1 o2 => (alb w o1).trans ((alb (w.alloc o1) o2).mono (alb w o1).size)
  go_enter Tryd.func28, Tryd.ntmps28
  go_wp2_with fail
  refine (HN1.out _ (HKA.out _ _)).mono ?_
  rintro e w2 ⟨rfl, rfl⟩
  by_cases hn0 : n = 0
  · have z1 : decide ((0 : Int) < (n : Int)) = false := decide_eq_false (by omega)
    have y1 : decide (0 < n) = false := decide_eq_false (by omega)
    have z2 : ((n : Int) == 0) = true := by rw [beq_iff_eq]; omega
    have HMn := Lib.hid (HM.out.trans (if_pos hn0))
    clear hn0
    go_wp2_with fail
    exact ret_ref rfl (two_first _ _ _ _ _) rfl rfl rfl (HR.out _ _ (HBA.out _ _) (by rw [HMn.out]; exact ⟨_, _, _, rfl⟩))
  · have z1 : decide ((0 : Int) < (n : Int)) = true := decide_eq_true (by omega)
    have y1 : decide (0 < n) = true := decide_eq_true (by omega)
    have z2 : ((n : Int) == 0) = false := by rw [beq_eq_false_iff_ne]; omega
    have HM1 := Lib.hid (HM.out.trans (if_neg hn0))
    clear hn0
    go_wp2_with fail
    refine (HP.out (q.drop n) 58 _).mono ?_
    rintro e w2 ⟨rfl, rfl⟩
    by_cases hc : (q.drop n).head? = some 58
    · rw [decide_eq_true hc]
      have HM2 := Lib.hid (HM1.out.trans (if_pos hc))
      have hjl2 : j + 1 ≤ s.length := by
        have : 0 < (q.drop n).length := by cases hq : q.drop n with | nil => rw [hq] at hc; cases hc | cons a b => simp
        rw [List.length_drop] at this
        have := HJE.out
        omega
      have x4 := HX4.out
      have hq4 : (q.drop (n + 1)).length = s.length - (j + 1) := by rw [List.length_drop]; have := HJE.out; omega
      have hkn := nlen_le (q.drop (n + 1))
      have HN2 := Lib.hid fun W hW => HN.out (q.drop (n + 1)) (by omega) W hW
      obtain ⟨k, hk⟩ : ∃ k, nlen (q.drop (n + 1)) = k := ⟨_, rfl⟩
      rw [hk] at HM2 HN2 hkn
      have hw3 : IntKind.i64.wrap ((j : Int) + 1) = ((j + 1 : Nat) : Int) := by rw [IntWalk.i64_in _ (by omega)]; omega
      obtain ⟨j1, hj1⟩ : ∃ j1, j + 1 = j1 := ⟨_, rfl⟩
      rw [hj1] at hw3 x4 hjl2 hq4
      clear hc hk
      go_wp2_with fail
      refine (HN2.out _ (HKA.out _ _)).mono ?_
      rintro e w2 ⟨rfl, rfl⟩
      by_cases hk0 : k = 0
      · have z3 : ((k : Int) == 0) = true := by rw [beq_iff_eq]; omega
        have HM3 := Lib.hid (HM2.out.trans (if_pos hk0))
        clear hk0
        go_wp2_with fail
        exact ret_ref rfl (two_first _ _ _ _ _) rfl rfl rfl (HR.out _ _ (HBA.out _ _) (by rw [HM3.out]; exact ⟨_, _, _, rfl⟩))
      · have z3 : ((k : Int) == 0) = false := by rw [beq_eq_false_iff_ne]; omega
        have HM3 := Lib.hid (HM2.out.trans (if_neg hk0))
        have x5 := HX5.out k
        rw [hj1] at x5
        have x6 := HX6.out k
        have hw4 : IntKind.i64.wrap ((j1 : Int) + (k : Int)) = ((j1 + k : Nat) : Int) := by rw [IntWalk.i64_in _ (by omega)]; omega
        have hw5 : IntKind.i64.wrap (1 + (k : Int)) = ((1 + k : Nat) : Int) := by rw [IntWalk.i64_in _ (by omega)]; omega
        obtain ⟨k1, hk1⟩ : ∃ k1, 1 + k = k1 := ⟨_, rfl⟩
        rw [hk1] at hw5 x6
        have hw6 : IntKind.i64.wrap ((j : Int) + (k1 : Int)) = ((j + k1 : Nat) : Int) := by rw [IntWalk.i64_in _ (by omega)]; omega
        obtain ⟨j3, hj3⟩ : ∃ j3, j1 + k = j3 := ⟨_, rfl⟩
        rw [hj3] at hw4 x5
        obtain ⟨j2, hj2⟩ : ∃ j2, j + k1 = j2 := ⟨_, rfl⟩
        rw [hj2] at hw6 x6
        have b1 : j1 ≤ j3 := by omega
        have b2 : j3 ≤ s.length := by omega
        have b3 : j2 ≤ s.length := by omega
        clear hk0
        go_wp2_with fail
        refine (HP.out (q.drop (n + 1 + k)) 125 _).mono ?_
        rintro e w2 ⟨rfl, rfl⟩
        by_cases hd : (q.drop (n + 1 + k)).head? = some 125
        · rw [decide_eq_true hd]
          have HM4 := Lib.hid (HM3.out.trans (if_pos hd))
          have hw7 : IntKind.i64.wrap ((j2 : Int) + 1) = ((i + (n + 1 + k + 1) : Nat) : Int) := by rw [IntWalk.i64_in _ (by omega)]; have := HJE.out; omega
          obtain ⟨J, hJ⟩ : ∃ J, i + (n + 1 + k + 1) = J := ⟨_, rfl⟩
          have HJ := Lib.hid hJ
          rw [hJ] at hw7
          clear hd hJ
          go_wp2_with fail
          exact ret_ref rfl (two_first _ _ _ _ _) rfl rfl rfl (HR.out _ _ (HBA.out _ _) (by rw [HM4.out]; simp only [HJ.out]; rfl))
        · rw [decide_eq_false hd]
          have HM4 := Lib.hid (HM3.out.trans (if_neg hd))
          clear hd
          go_wp2_with fail
          exact ret_ref rfl (two_first _ _ _ _ _) rfl rfl rfl (HR.out _ _ (HBA.out _ _) (by rw [HM4.out]; exact ⟨_, _, _, rfl⟩))
    · rw [decide_eq_false hc]
      have HM2 := Lib.hid (HM1.out.trans (if_neg hc))
      clear hc
      go_wp2_with fail
      refine (HP.out (q.drop n) 125 _).mono ?_
      rintro e w2 ⟨rfl, rfl⟩
      by_cases hd : (q.drop n).head? = some 125
      · rw [decide_eq_true hd]
        have HM4 := Lib.hid (HM2.out.trans (if_pos hd))
        have hw7 : IntKind.i64.wrap ((j : Int) + 1) = ((i + (n + 1) : Nat) : Int) := by rw [IntWalk.i64_in _ (by omega)]; have := HJE.out; omega
        obtain ⟨J, hJ⟩ : ∃ J, i + (n + 1) = J := ⟨_, rfl⟩
        have HJ := Lib.hid hJ
        rw [hJ] at hw7
        clear hd hJ
        go_wp2_with fail
        exact ret_ref rfl (two_first _ _ _ _ _) rfl rfl rfl (HR.out _ _ (HBA.out _ _) (by rw [HM4.out]; simp only [HJ.out]; rfl))
      · rw [decide_eq_false hd]
        have HM4 := Lib.hid (HM2.out.trans (if_neg hd))
        clear hd
        go_wp2_with fail
        exact ret_ref rfl (two_first _ _ _ _ _) rfl rfl rfl (HR.out _ _ (HBA.out _ _) (by rw [HM4.out]; exact ⟨_, _, _, rfl⟩))
end Go.Proofs.YtgcpinnnfoanjaaDoor
/-
  The references of a source.
-/
namespace Go.Proofs.YtgcpinnnfoanjaaDoor
open Go.RowKit

/-- The library's variable MaxLen holds an int. -/
def ML (w : World) : Prop := 1 < w.heap.size ∧ ∃ m : Int, w.cell? ⟨1, 0, none⟩ = some (.int .i64 m)
theorem ML.below {w w' : World} (h : ML w) (hb : Below w.heap.size w w') : ML w' := by
  obtain ⟨h1, m, h2⟩ := h
  exact ⟨Nat.lt_of_lt_of_le h1 hb.size, m, (hb.cell (p := ⟨1, 0, none⟩) h1).trans h2⟩
/-- What the library's walks need of the world. -/
def KM (w : World) : Prop := Kinds w ∧ ML w
theorem KM.below {w w' : World} (h : KM w) (hb : Below w.heap.size w w') : KM w' := ⟨h.1.below hb, h.2.below hb⟩
theorem idx_any (l : List UInt8) (w : World) (h : ML w) (hl : l.length ≤ 1000000) : Calls Tryd.prog 27 #[.string ⟨l.toArray⟩, .string ⟨#[37, 123]⟩] w fun e w' => e = .returned (.int .i64 (match Lb.cutPM l with
    | none => -1
    | some x => (x.1.length : Int))) ∧ w = w' := by
  obtain ⟨_, m, hm⟩ := h
  refine (Tryd.strings_Index ⟨l.toArray⟩ ⟨#[37, 123]⟩ m w (by rw [ba_size]; omega) hm).mono fun e w' ⟨h1, h2⟩ => ⟨?_, h2.symm⟩
  rw [h1]
  exact congrArg (fun x => Ending.returned (.int .i64 x)) (Lb.index_cut l)
namespace Lb
theorem readM_le {q nm fd : List UInt8} {k : Nat} (h : readM q = some (nm, fd, k)) : k ≤ q.length := by
  have key : ∀ m, (q.drop m).head? = some 125 → m + 1 ≤ q.length := by
    intro m hm
    have : 0 < (q.drop m).length := by cases hq : q.drop m with | nil => rw [hq] at hm; cases hm | cons a b => simp
    rw [List.length_drop] at this
    omega
  unfold readM at h
  repeat' split at h
  all_goals first
    | (cases h; done)
    | (cases h; exact key _ (by assumption))
theorem cutPM_len {l p q : List UInt8} (h : cutPM l = some (p, q)) : p.length + 2 + q.length = l.length ∧ l.drop (p.length + 2) = q := by
  obtain ⟨h1, _⟩ := cutPM_parts h
  rw [h1]
  refine ⟨by simp; omega, ?_⟩
  rw [List.drop_append, List.drop_eq_nil_of_le (by omega), List.nil_append, show p.length + 2 - p.length = 2 by omega]
  rfl
end Lb
/-- A reference in memory. -/
def RfR (r : Lb.Ref) (us : List Value) : Prop := us = [.int .i64 (r.fr : Int), .int .i64 (r.to : Int), .string ⟨r.nm.toArray⟩, .string ⟨r.fd.toArray⟩]
theorem infoRf : (Tryd.prog.info? 61).map (fun i => (i.zero, i.size, i.bytes)) = some (some (.agg #[.int .i64 0, .int .i64 0, .string ⟨#[]⟩, .string ⟨#[]⟩]), 4, 48) := by kernel_rfl
/-- What references gives. -/
def RefsP (s : List UInt8) (w : World) (e : Ending) (w' : World) : Prop := Below w.heap.size w w' ∧ match Lb.refsM s with
  | none => e = .returned (.tuple #[.slice none 0 0, .int .i64 1])
  | some L => ∃ v, e = .returned (.tuple #[v, .int .i64 0]) ∧ OR w.heap.size 61 4 RfR w' L v
set_option maxHeartbeats 8000000 in
set_option maxRecDepth 1000000 in
theorem refs_any (s : List UInt8) (w : World) (hk : KM w) (hs : s.length ≤ 900000) :
    Calls Tryd.prog 17 #[.string ⟨s.toArray⟩] w (RefsP s w) := by
  have HK := Lib.hid hk
  have HBAD : Hid (Lb.refsM s = none → ∀ w', Below w.heap.size w w' → RefsP s w (.returned (.tuple #[.slice none 0 0, .int .i64 1])) w') := Lib.hid (fun h w' hb => ⟨hb, by rw [h]⟩)
  have HOK : Hid (∀ L v w', Lb.refsM s = some L → Below w.heap.size w w' → OR w.heap.size 61 4 RfR w' L v → RefsP s w (.returned (.tuple #[v, .int .i64 0])) w') := Lib.hid (fun L v w' h hb ho => ⟨hb, by rw [h]; exact ⟨v, rfl, ho⟩⟩)
  clear hk
  go_enter Tryd.func17, Tryd.ntmps17
  go_wp2_with fail
  go_loopw [4, 5] (fun l i wr => ∃ (k n : Nat) (rs : List Lb.Ref) (v : Value), v = l ∧ i = .int .i64 k ∧ k ≤ s.length ∧ s.length < k + n ∧ Hid (Lb.refsM s = (Lb.rfs s n k).map (rs ++ ·)) ∧ rs.length ≤ k ∧ Hid (OR w.heap.size 61 4 RfR wr rs v) ∧ Hid (Below w.heap.size w wr)) (fun _ i _ => s.length + 1 - (intOf i).toNat)
  case atStart => exact ⟨0, s.length + 1, [], _, rfl, rfl, by omega, by omega, Lib.hid (by simp [Lb.refsM]), by simp, Lib.hid OR.nil, Lib.hid (Below.refl _ _)⟩
  case round =>
    obtain ⟨k, n, rs, v, rfl, rfl, hk, hn, HR, hrl, HO, HB⟩ := hrel
    obtain ⟨n, rfl⟩ : ∃ m, n = m + 1 := ⟨n - 1, by omega⟩
    have x1 : (ByteArray.mk s.toArray).extract k s.length = ⟨(s.drop k).toArray⟩ := ext_drop s k
    have HI := Lib.hid (idx_any (s.drop k) wr ((HK.out.2).below HB.out) (by rw [List.length_drop]; omega))
    have HST : Hid (Lb.rfs s (n + 1) k = match Lb.cutPM (s.drop k) with
      | none => some []
      | some (p, q) => match Lb.readM q with
        | none => none
        | some (nm, fd, kk) => (Lb.rfs s n (k + p.length + 2 + kk)).map (⟨k + p.length, k + p.length + 2 + kk, nm, fd⟩ :: ·)) := Lib.hid (by first | (rw [Lb.rfs]; done) | (rw [Lb.rfs]; rfl))
    have hdl : (s.drop k).length = s.length - k := List.length_drop
    cases hc : Lb.cutPM (s.drop k) with
    | none =>
      rw [hc] at HI HST
      dsimp only at HI HST
      have HE : Hid (Lb.refsM s = some rs) := Lib.hid (by rw [HR.out, HST.out]; simp)
      clear hc
      go_wp2_with fail
      refine HI.out.mono ?_
      rintro e w2 ⟨rfl, rfl⟩
      go_wp2_with fail
      go_ret2
      exact HOK.out rs _ _ HE.out HB.out HO.out
    | some x =>
      obtain ⟨p, q⟩ := x
      obtain ⟨hl1, hl2⟩ := Lb.cutPM_len hc
      rw [hc] at HI HST
      dsimp only at HI HST
      rw [List.drop_drop] at hl2
      have hkp : k + p.length + 2 ≤ s.length := by omega
      have HRD := Lib.hid (read_any s (k + p.length) wr (HK.out.1.below HB.out) hkp (by omega))
      have HQ : Hid (s.drop (k + p.length + 2) = q) := Lib.hid (by rw [Nat.add_assoc]; exact hl2)
      have z1 : decide ((p.length : Int) < 0) = false := decide_eq_false (by omega)
      have hw1 : IntKind.i64.wrap ((k : Int) + (p.length : Int)) = ((k + p.length : Nat) : Int) := by rw [IntWalk.i64_in _ (by omega)]; omega
      obtain ⟨i, hi⟩ : ∃ i, k + p.length = i := ⟨_, rfl⟩
      rw [hi] at HRD HQ HST hw1 hkp
      have hki : k ≤ i := by omega
      clear hc hl1 hl2 hi hdl
      go_wp2_with fail
      refine HI.out.mono ?_
      rintro e w2 ⟨rfl, rfl⟩
      go_wp2_with fail
      refine HRD.out.mono ?_
      rintro e w2 ⟨hb, hm⟩
      have HB2 := Lib.hid (HB.out.trans (hb.mono HB.out.size))
      have HO2 := Lib.hid (HO.out.keep (fun j _ hj => hb.block j hj) (fun _ _ h => h))
      rw [HQ.out] at hm
      cases hr : Lb.readM q with
      | none =>
        rw [hr] at hm HST
        obtain ⟨x, a, b, rfl⟩ := hm
        have HE : Hid (Lb.refsM s = none) := Lib.hid (by rw [HR.out, HST.out]; rfl)
        clear hb hr
        go_wp2_with fail
        go_ret2
        exact HBAD.out HE.out _ (HB2.out.trans ((alb w2 _).mono HB2.out.size))
      | some x =>
        obtain ⟨nm, fd, kk⟩ := x
        rw [hr] at hm HST
        simp only at hm HST
        subst hm
        have hkk := Lb.readM_le hr
        have hql : q.length = s.length - (i + 2) := by rw [← HQ.out, List.length_drop]
        obtain ⟨j, hj⟩ : ∃ j, i + 2 + kk = j := ⟨_, rfl⟩
        rw [hj] at HST ⊢
        have hjl : j ≤ s.length := by omega
        have hij : i + 2 ≤ j := by omega
        have HE : Hid (Lb.refsM s = (Lb.rfs s n j).map ((rs ++ [⟨i, j, nm, fd⟩]) ++ ·)) := Lib.hid (by rw [HR.out, HST.out, Option.map_map]; congr 1; funext x; simp)
        obtain ⟨i0, hi, hz0, hz1, hz2⟩ := info_parts infoRf
        obtain ⟨cs, hown, hpush⟩ := HO2.out.cells
        have hBW : w.heap.size ≤ w2.heap.size := HB2.out.size
        have one2 : ∀ u ∈ [Value.int .i64 (i : Int), .int .i64 (j : Int), .string ⟨nm.toArray⟩, .string ⟨fd.toArray⟩], u.oneCell' = true := by
          intro u hu
          simp only [List.mem_cons, List.not_mem_nil, or_false] at hu
          rcases hu with rfl | rfl | rfl | rfl <;> rfl
        clear hr hkk hql hj hb
        have hne : some w2.heap.size ≠ v.ownBlock := fun e => by have := (hown.lt _ e.symm).2; omega
        have hcell : ((w2.alloc (.cells #[.int .i64 (i : Int), .int .i64 (j : Int), .string ⟨nm.toArray⟩, .string ⟨fd.toArray⟩] 61)).alloc (.cells #[.int .i64 (i : Int), .int .i64 (j : Int), .string ⟨nm.toArray⟩, .string ⟨fd.toArray⟩] 61)).cell? ⟨w2.heap.size, 1, none⟩ = some (.int .i64 (j : Int)) := Lib.cell_of_heap (two_first w2 _ _ _ _) 1
        have hnew : ((w2.alloc (.cells #[.int .i64 (i : Int), .int .i64 (j : Int), .string ⟨nm.toArray⟩, .string ⟨fd.toArray⟩] 61)).alloc (.cells #[.int .i64 (i : Int), .int .i64 (j : Int), .string ⟨nm.toArray⟩, .string ⟨fd.toArray⟩] 61)).heap[w2.heap.size + 1]? = some (.cells #[.int .i64 (i : Int), .int .i64 (j : Int), .string ⟨nm.toArray⟩, .string ⟨fd.toArray⟩] 61) := by have := heap_alloc_new (w2.alloc (.cells #[.int .i64 (i : Int), .int .i64 (j : Int), .string ⟨nm.toArray⟩, .string ⟨fd.toArray⟩] 61)) (.cells #[.int .i64 (i : Int), .int .i64 (j : Int), .string ⟨nm.toArray⟩, .string ⟨fd.toArray⟩] 61); rwa [World.size_alloc] at this
        have HBA := Lib.hid (HB2.out.trans ((alb w2 (.cells #[.int .i64 (i : Int), .int .i64 (j : Int), .string ⟨nm.toArray⟩, .string ⟨fd.toArray⟩] 61)).mono HB2.out.size))
        have hk1 : s.length + 1 - j < s.length + 1 - k := by omega
        go_wp2_with (at_builtin; refine wpList_append_lies _ rfl _ _ 57 rfl w.heap.size 61 i0 (.agg #[.int .i64 0, .int .i64 0, .string ⟨#[]⟩, .string ⟨#[]⟩]) 4 48 Tryd.underlying57 hi hz0 hz1 hz2 rfl (by decide) _ rs.length cs rfl ((hown.alloc _).alloc _) ⟨w2.heap.size + 1, 0, none⟩ 1 1 [.int .i64 (i : Int), .int .i64 (j : Int), .string ⟨nm.toArray⟩, .string ⟨fd.toArray⟩] rfl rfl (World.news_of_block hnew) one2 (by omega) (by unfold maxLen; omega) (by omega) (by simp; omega) _ rfl ?_; intro g6 cap6 w6 hown6 hgr6 hat6 hlt6; have HW6 := Lib.hid (push_below hgr6 (hown.alloc _) (Nat.le_trans hBW (by simp))); have HO6 := Lib.hid (hpush RfR w6 (⟨i, j, nm, fd⟩ : Lb.Ref) [.int .i64 (i : Int), .int .i64 (j : Int), .string ⟨nm.toArray⟩, .string ⟨fd.toArray⟩] _ (fun _ _ h => h) rfl rfl (by omega) hown6); have c6 := (World.cell?_of_block (a := ⟨w2.heap.size, 1, none⟩) (hgr6.block w2.heap.size (by rw [World.size_alloc, World.size_alloc]; omega) hne)).trans hcell; clear hown6 hgr6 hat6 hlt6 hown hpush hcell hnew hne)
        refine ⟨⟨j, n, rs ++ [⟨i, j, nm, fd⟩], _, rfl, rfl, hjl, by omega, HE, by simp; omega, HO6, Lib.hid (HBA.out.trans HW6.out)⟩, by simp [intOf]; omega⟩
end Go.Proofs.YtgcpinnnfoanjaaDoor

/-
  PLAIN MATHEMATICS OF CHAPTER 1: the fields of a string, by bytes and by runes; trimmed and lower-case strings; no program in sight.
-/
import Derived.Test.YtloilffkggkgdaaDoorAscF
import Derived.Lib.FieldsP
namespace Go.Proofs.YtloilffkggkgdaaDoor.Asc

def sp (c : UInt8) : Bool := isSpace c.toNat

/-- The fields of some bytes, one of which has begun. -/
def flds : List UInt8 → List UInt8 → List (List UInt8)
  | [], cur => if cur.isEmpty then [] else [cur]
  | c :: l, cur => if sp c then (if cur.isEmpty then flds l [] else cur :: flds l []) else flds l (cur ++ [c])
def fields (l : List UInt8) : List (List UInt8) := flds l []
/-- The bytes from a to b. -/
def seg (l : List UInt8) (a b : Nat) : List UInt8 := (l.drop a).take (b - a)

theorem seg_same (l : List UInt8) (a : Nat) : seg l a a = [] := by unfold seg; simp
theorem seg_length (l : List UInt8) {a b : Nat} (hb : b ≤ l.length) : (seg l a b).length = b - a := by unfold seg; rw [List.length_take, List.length_drop]; omega
theorem seg_snoc (l : List UInt8) {a b : Nat} (h : a ≤ b) (hb : b < l.length) : seg l a (b + 1) = seg l a b ++ [l[b]] := by
  unfold seg
  rw [show b + 1 - a = (b - a) + 1 by omega, snoc_take _ _ (by rw [List.length_drop]; omega)]
  congr 2
  rw [List.getElem_drop]
  congr 1
  omega
theorem seg_append (l : List UInt8) {a b c : Nat} (h : a ≤ b) (h2 : b ≤ c) : seg l a b ++ seg l b c = seg l a c := by
  unfold seg
  have e : l.drop b = (l.drop a).drop (b - a) := by rw [List.drop_drop]; congr 1; omega
  rw [e]
  have := List.take_add (l := l.drop a) (i := b - a) (j := c - b)
  rw [show c - a = (b - a) + (c - b) by omega, this]
theorem seg_isEmpty (l : List UInt8) {a b : Nat} (h : a < b) (hb : b ≤ l.length) : (seg l a b).isEmpty = false := by
  rw [List.isEmpty_eq_false_iff]
  intro e
  have := seg_length l (a := a) hb
  rw [e] at this
  simp at this
  omega
theorem drop_cons {l : List UInt8} {k : Nat} (h : k < l.length) : l.drop k = l[k] :: l.drop (k + 1) := List.drop_eq_getElem_cons h

theorem flds_sp {l : List UInt8} {k : Nat} (h : k < l.length) (hs : sp l[k] = true) (cur : List UInt8) : flds (l.drop k) cur = (if cur.isEmpty then [] else [cur]) ++ flds (l.drop (k + 1)) [] := by
  rw [drop_cons h, flds, if_pos hs]
  split <;> simp
theorem flds_no {l : List UInt8} {k : Nat} (h : k < l.length) (hs : sp l[k] = false) (cur : List UInt8) : flds (l.drop k) cur = flds (l.drop (k + 1)) (cur ++ [l[k]]) := by
  rw [drop_cons h, flds, if_neg (by rw [hs]; decide)]
theorem flds_end (l : List UInt8) (cur : List UInt8) : flds (l.drop l.length) cur = if cur.isEmpty then [] else [cur] := by
  rw [List.drop_length, flds]
/-- Several bytes that are no spaces. -/
theorem flds_skip (l : List UInt8) (n : Nat) : ∀ (k : Nat) (cur : List UInt8), k + n ≤ l.length → (∀ j (hj : j < l.length), k ≤ j → j < k + n → sp l[j] = false) → flds (l.drop k) cur = flds (l.drop (k + n)) (cur ++ seg l k (k + n)) := by
  induction n with
  | zero => intro k cur _ _; rw [Nat.add_zero, seg_same, List.append_nil]
  | succ n ih =>
    intro k cur h hs
    rw [flds_no (by omega) (hs k (by omega) (Nat.le_refl _) (by omega)), ih (k + 1) _ (by omega) (fun j hj h1 h2 => hs j hj (by omega) (by omega))]
    have e := seg_append l (a := k) (b := k + 1) (c := k + (n + 1)) (by omega) (by omega)
    have e1 : seg l k (k + 1) = [l[k]] := by rw [seg_snoc l (Nat.le_refl _) (by omega), seg_same]; rfl
    rw [e1] at e
    rw [List.append_assoc, show k + 1 + n = k + (n + 1) by omega, e]

/-! ### By runes -/
def spR (r : Nat) : Bool := decide (r = 32 ∨ r = 9)
theorem get_at {l : List UInt8} {i : Nat} (h : i < l.length) : ((ByteArray.mk l.toArray).get! i) = l[i] := by
  show (l.toArray)[i]! = _
  rw [getElem!_pos _ _ (by simpa using h)]
  simp
theorem get_out {l : List UInt8} {i : Nat} (h : l.length ≤ i) : ((ByteArray.mk l.toArray).get! i).toNat = 0 := by
  show ((l.toArray)[i]!).toNat = _
  rw [getElem!_neg _ _ (by simpa using h)]
  rfl

/-- What a rune of several bytes, or a damaged byte, is good for: it is no space, and its bytes are none. -/
theorem decode_facts (l : List UInt8) (i : Nat) (h : i < l.length) :
    ((l[i]).toNat < 128 ∧ Utf8.decode ⟨l.toArray⟩ i = ((l[i]).toNat, 1)) ∨
    (128 ≤ (l[i]).toNat ∧ spR (Utf8.decode ⟨l.toArray⟩ i).1 = false ∧ 1 ≤ (Utf8.decode ⟨l.toArray⟩ i).2 ∧ i + (Utf8.decode ⟨l.toArray⟩ i).2 ≤ l.length ∧
      ∀ j (hj : j < l.length), i ≤ j → j < i + (Utf8.decode ⟨l.toArray⟩ i).2 → 128 ≤ (l[j]).toNat) := by
  have hsz : (ByteArray.mk l.toArray).size = l.length := by simp [ByteArray.size]
  have h0 : ((ByteArray.mk l.toArray).get! (i + 0)).toNat = (l[i]).toNat := by rw [Nat.add_zero, get_at h]
  by_cases hc : (l[i]).toNat < 128
  · refine .inl ⟨hc, ?_⟩
    unfold Utf8.decode
    simp only [h0]
    rw [if_pos hc]
  · refine .inr ⟨by omega, ?_⟩
    have hi : ∀ j (hj : j < l.length), i ≤ j → j < i + 1 → 128 ≤ (l[j]).toNat := fun j hj h1 h2 => by obtain rfl : j = i := (by omega); omega
    have err : spR Utf8.runeError = false := by decide
    have one : spR (Utf8.runeError, 1).1 = false ∧ 1 ≤ (Utf8.runeError, 1).2 ∧ i + (Utf8.runeError, 1).2 ≤ l.length ∧ ∀ j (hj : j < l.length), i ≤ j → j < i + (Utf8.runeError, 1).2 → 128 ≤ (l[j]).toNat :=
      ⟨err, Nat.le_refl _, by show i + 1 ≤ _; omega, hi⟩
    have big : ∀ c, 128 ≤ c → spR c = false := fun c hc => by unfold spR; simp; omega
    have cont : ∀ k, (decide (i + k < (ByteArray.mk l.toArray).size) && ((ByteArray.mk l.toArray).get! (i + k)).toNat / 64 == 2) = true → ∃ hk : i + k < l.length, 128 ≤ (l[i + k]).toNat := fun k hk => by
      rw [Bool.and_eq_true, decide_eq_true_iff, beq_iff_eq, hsz] at hk
      obtain ⟨h1, h2⟩ := hk
      rw [get_at h1] at h2
      exact ⟨h1, by omega⟩
    unfold Utf8.decode
    simp only [h0]
    rw [if_neg hc]
    split
    · rename_i h2
      rw [Bool.and_eq_true] at h2
      obtain ⟨k1, b1⟩ := cont 1 h2.2
      split
      · rename_i h3
        refine ⟨big _ h3, by show 1 ≤ 2; omega, by show i + 2 ≤ _; omega, fun j hj g1 g2 => ?_⟩
        have g2' : j < i + 2 := g2
        obtain rfl | rfl : j = i ∨ j = i + 1 := by omega
        · omega
        · exact b1
      · exact one
    · split
      · rename_i h2
        rw [Bool.and_eq_true, Bool.and_eq_true] at h2
        obtain ⟨k1, b1⟩ := cont 1 h2.1.2
        obtain ⟨k2, b2⟩ := cont 2 h2.2
        split
        · rename_i h3
          rw [Bool.and_eq_true, decide_eq_true_iff] at h3
          refine ⟨big _ (by omega), by show 1 ≤ 3; omega, by show i + 3 ≤ _; omega, fun j hj g1 g2 => ?_⟩
          have g2' : j < i + 3 := g2
          obtain rfl | rfl | rfl : j = i ∨ j = i + 1 ∨ j = i + 2 := by omega
          · omega
          · exact b1
          · exact b2
        · exact one
      · split
        · rename_i h2
          rw [Bool.and_eq_true, Bool.and_eq_true, Bool.and_eq_true] at h2
          obtain ⟨k1, b1⟩ := cont 1 h2.1.1.2
          obtain ⟨k2, b2⟩ := cont 2 h2.1.2
          obtain ⟨k3, b3⟩ := cont 3 h2.2
          split
          · rename_i h3
            rw [Bool.and_eq_true, decide_eq_true_iff] at h3
            refine ⟨big _ (by omega), by show 1 ≤ 4; omega, by show i + 4 ≤ _; omega, fun j hj g1 g2 => ?_⟩
            have g2' : j < i + 4 := g2
            obtain rfl | rfl | rfl | rfl : j = i ∨ j = i + 1 ∨ j = i + 2 ∨ j = i + 3 := by omega
            · omega
            · exact b1
            · exact b2
            · exact b3
          · exact one
        · exact one

/-- What has been read of a field that has begun. -/
def curOf (l : List UInt8) (pos : Nat) : Option Nat → List UInt8
  | none => []
  | some a => seg l a pos
def cut (l : List UInt8) (acc : List (Nat × Nat)) : List (List UInt8) := acc.map fun x => seg l x.1 x.2

theorem spans_flds (l : List UInt8) (f : Nat) : ∀ (pos : Nat) (st : Option Nat) (acc : List (Nat × Nat)), pos ≤ l.length → l.length ≤ pos + f → (∀ a, st = some a → a < pos) →
    cut l (Lib.closeSpans ⟨l.toArray⟩ (Lib.spansFromP spR ⟨l.toArray⟩ f pos st acc)) = cut l acc ++ flds (l.drop pos) (curOf l pos st) := by
  have hsz : (ByteArray.mk l.toArray).size = l.length := by simp [ByteArray.size]
  have fin : ∀ (st : Option Nat) (acc : List (Nat × Nat)), (∀ a, st = some a → a < l.length) → cut l (Lib.closeSpans ⟨l.toArray⟩ (acc, st)) = cut l acc ++ flds (l.drop l.length) (curOf l l.length st) := by
    intro st acc h
    rw [flds_end]
    cases st with
    | none => simp [Lib.closeSpans, curOf]
    | some a =>
      have := seg_isEmpty l (h a rfl) (Nat.le_refl _)
      simp [Lib.closeSpans, curOf, this, cut, hsz]
  induction f with
  | zero =>
    intro pos st acc h1 h2 h3
    obtain rfl : pos = l.length := by omega
    exact fin st acc h3
  | succ f ih =>
    intro pos st acc h1 h2 h3
    by_cases hp : pos < l.length
    · unfold Lib.spansFromP
      rw [if_pos (by rw [hsz]; exact hp)]
      rcases decode_facts l pos hp with ⟨hb, hd⟩ | ⟨hb, hs, hn, hle, hall⟩
      · rw [hd]
        by_cases hs : sp l[pos] = true
        · have hs' : spR (l[pos]).toNat = true := hs
          simp only [hs', if_true]
          rw [flds_sp hp hs]
          cases st with
          | none =>
            rw [ih (pos + 1) none acc (by omega) (by omega) (fun a h => by cases h)]
            simp [curOf]
          | some a =>
            rw [ih (pos + 1) none _ (by omega) (by omega) (fun a h => by cases h)]
            have := seg_isEmpty l (h3 a rfl) h1
            simp [curOf, this, cut]
        · have hs0 : sp l[pos] = false := by simpa using hs
          have hs' : spR (l[pos]).toNat = false := hs0
          simp only [hs', Bool.false_eq_true, if_false]
          rw [flds_no hp hs0]
          cases st with
          | none =>
            rw [ih (pos + 1) (some pos) acc (by omega) (by omega) (fun a h => by cases h; omega)]
            simp only [curOf]
            rw [seg_snoc l (Nat.le_refl _) hp, seg_same]
          | some a =>
            rw [ih (pos + 1) (some a) acc (by omega) (by omega) (fun b h => by cases h; have := h3 a rfl; omega)]
            simp only [curOf]
            rw [seg_snoc l (by have := h3 a rfl; omega) hp]
      · simp only [hs, Bool.false_eq_true, if_false]
        have hns : ∀ j (hj : j < l.length), pos ≤ j → j < pos + (Utf8.decode ⟨l.toArray⟩ pos).2 → sp l[j] = false := fun j hj g1 g2 => by
          have := hall j hj g1 g2
          unfold sp isSpace; simp; omega
        rw [flds_skip l _ pos _ hle hns]
        cases st with
        | none =>
          rw [ih _ (some pos) acc hle (by omega) (fun a h => by cases h; omega)]
          simp [curOf]
        | some a =>
          rw [ih _ (some a) acc hle (by omega) (fun b h => by cases h; have := h3 a rfl; omega)]
          simp only [curOf]
          rw [seg_append l (by have := h3 a rfl; omega) (by omega)]
    · obtain rfl : pos = l.length := by omega
      rw [Lib.spansFromP_end _ _ _ _ _ _ (by rw [hsz]; omega)]
      exact fin st acc h3

theorem extract_seg (l : List UInt8) (a b : Nat) : (ByteArray.mk l.toArray).extract a b = ⟨(seg l a b).toArray⟩ := by
  apply ByteArray.ext
  simp [ByteArray.data_extract, seg]

/-- strings.FieldsFunc at spaces and tabs: the fields by bytes. -/
theorem goFields_eq (l : List UInt8) : Lib.goFieldsP spR ⟨l.toArray⟩ = (fields l).map fun x => ByteArray.mk x.toArray := by
  have h := spans_flds l (ByteArray.mk l.toArray).size 0 none [] (by omega) (by simp [ByteArray.size]) (fun a h => by cases h)
  unfold Lib.goFieldsP Lib.spansOfP
  unfold fields
  simp only [cut, List.map_nil, List.nil_append, curOf, List.drop_zero] at h
  rw [← h, List.map_map]
  apply List.map_congr_left
  intro x _
  exact extract_seg l x.1 x.2

/-! ### The fields joined by blanks -/
theorem flds_word (f : List UInt8) (r cur : List UInt8) (hf : ∀ c ∈ f, sp c = false) : flds (f ++ r) cur = flds r (cur ++ f) := by
  induction f generalizing cur with
  | nil => simp
  | cons c f ih =>
    rw [List.cons_append, flds, if_neg (by rw [hf c (by simp)]; decide), ih _ (fun x hx => hf x (List.mem_cons_of_mem _ hx))]
    simp
/-- A field: not empty, no spaces. -/
def Fld (f : List UInt8) : Prop := f.isEmpty = false ∧ ∀ c ∈ f, sp c = false
theorem flds_all (l : List UInt8) : ∀ cur, (∀ c ∈ cur, sp c = false) → ∀ f ∈ flds l cur, Fld f := by
  induction l with
  | nil =>
    intro cur hc f hf
    unfold flds at hf
    split at hf
    · cases hf
    · rename_i h
      simp at hf
      subst hf
      exact ⟨by simpa using h, hc⟩
  | cons c l ih =>
    intro cur hc f hf
    unfold flds at hf
    split at hf
    · split at hf
      · exact ih [] (fun c h => by cases h) f hf
      · rename_i h
        rcases List.mem_cons.1 hf with rfl | hf
        · exact ⟨by simpa using h, hc⟩
        · exact ih [] (fun c h => by cases h) f hf
    · rename_i h
      exact ih _ (fun x hx => by rcases List.mem_append.1 hx with hx | hx; exact hc x hx; simp at hx; subst hx; simpa using h) f hf
/-- The fields so far, joined by single blanks. -/
def joinTo : List (List UInt8) → List UInt8
  | [] => []
  | [f] => f
  | f :: g :: r => f ++ 32 :: joinTo (g :: r)
theorem joinTo_cons (f g : List UInt8) (r : List (List UInt8)) : joinTo (f :: g :: r) = f ++ 32 :: joinTo (g :: r) := rfl
theorem joinTo_snoc (fs : List (List UInt8)) (f : List UInt8) (h : fs ≠ []) : joinTo (fs ++ [f]) = joinTo fs ++ [32] ++ f := by
  induction fs with
  | nil => exact absurd rfl h
  | cons x fs ih =>
    cases fs with
    | nil => simp [joinTo]
    | cons y fs =>
      rw [List.cons_append, List.cons_append, joinTo_cons, joinTo_cons]
      have := ih (by simp)
      rw [List.cons_append] at this
      rw [this]
      simp
theorem fields_join (fs : List (List UInt8)) (h : ∀ f ∈ fs, Fld f) : fields (joinTo fs) = fs := by
  induction fs with
  | nil => rfl
  | cons f fs ih =>
    have hf := h f (by simp)
    cases fs with
    | nil =>
      unfold fields joinTo
      have := flds_word f [] [] hf.2
      rw [List.append_nil] at this
      rw [this]
      simp [flds, hf.1]
    | cons g r =>
      have hi := ih (fun x hx => h x (List.mem_cons_of_mem _ hx))
      unfold fields at hi ⊢
      rw [joinTo_cons, flds_word f _ [] hf.2, flds, if_pos (by decide)]
      simp only [List.nil_append, hf.1, Bool.false_eq_true, if_false]
      rw [hi]
theorem fields_again (l : List UInt8) : fields (joinTo (fields l)) = fields l := fields_join _ (flds_all l [] (fun c h => by cases h))

/-- All fields together are no longer than the string. -/
theorem flds_sum (l : List UInt8) : ∀ cur, ((flds l cur).map fun f => f.length + 1).sum ≤ l.length + cur.length + 1 := by
  induction l with
  | nil => intro cur; unfold flds; split <;> simp
  | cons c l ih =>
    intro cur
    unfold flds
    split
    · split
      · have := ih []; simp at this ⊢; omega
      · have := ih []; simp at this ⊢; omega
    · have := ih (cur ++ [c]); simp at this ⊢; omega
theorem join_len (fs : List (List UInt8)) : (joinTo fs).length ≤ (fs.map fun f => f.length + 1).sum := by
  induction fs with
  | nil => simp [joinTo]
  | cons f fs ih =>
    cases fs with
    | nil => simp [joinTo]
    | cons g r => rw [joinTo_cons]; simp at ih ⊢; omega
theorem fields_le (l : List UInt8) : (fields l).length ≤ l.length + 1 := by
  have h := flds_sum l []
  have : ∀ fs : List (List UInt8), fs.length ≤ (fs.map fun f => f.length + 1).sum := fun fs => by
    induction fs with
    | nil => simp
    | cons f fs ih => simp; omega
  have h2 := this (flds l [])
  unfold fields
  simp at h
  omega
theorem joined_le (l : List UInt8) : (joinTo (fields l)).length ≤ l.length + 1 := by
  have h := flds_sum l []
  have h2 := join_len (flds l [])
  unfold fields
  simp at h
  omega

end Go.Proofs.YtloilffkggkgdaaDoor.Asc

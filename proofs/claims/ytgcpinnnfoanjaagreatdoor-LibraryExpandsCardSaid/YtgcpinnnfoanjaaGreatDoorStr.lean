/-
  STRINGS AS LISTS OF BYTES: a byte, a part, the first place of a byte; no program in sight.
-/
import Derived.Test.YtgcpinnnfoanjaaGreatDoorKit
import Derived.Lib.Bytealg
import Derived.Lib.Strings
namespace Go.Proofs.YtgcpinnnfoanjaaGreatDoor
open Go.RowKit
namespace Asc
/-- The byte at an index, as a number; 999 if there is none. -/
def at_ (l : List UInt8) (i : Nat) : Nat := match l[i]? with | some c => c.toNat | none => 999
theorem at_none {l : List UInt8} {i : Nat} (h : l.length ≤ i) : at_ l i = 999 := by
  unfold at_; rw [List.getElem?_eq_none h]
theorem at_lt {l : List UInt8} {i : Nat} (h : at_ l i ≤ 255) : i < l.length := by
  rcases Nat.lt_or_ge i l.length with c | c
  · exact c
  · rw [at_none c] at h; omega
theorem at_of {l : List UInt8} {i : Nat} (h : i < l.length) : at_ l i = l[i].toNat := by
  unfold at_; rw [List.getElem?_eq_getElem h]
theorem at_le {l : List UInt8} {i : Nat} (h : i < l.length) : at_ l i ≤ 255 := by
  rw [at_of h]; have := l[i].toNat_lt; omega
theorem snoc_take {α : Type} (l : List α) (k : Nat) (h : k < l.length) : l.take (k + 1) = l.take k ++ [l[k]] := by
  rw [List.take_succ_eq_append_getElem h]
theorem ofNat_toNat8 {n : Nat} (h : n < 256) : (UInt8.ofNat n).toNat = n := by simp [Nat.mod_eq_of_lt h]
/-- The bytes from a to b. -/
def seg (l : List UInt8) (a b : Nat) : List UInt8 := (l.drop a).take (b - a)

theorem seg_same (l : List UInt8) (a : Nat) : seg l a a = [] := by unfold seg; simp
theorem seg_length (l : List UInt8) {a b : Nat} (hb : b ≤ l.length) : (seg l a b).length = b - a := by unfold seg; rw [List.length_take, List.length_drop]; omega
theorem seg_snoc (l : List UInt8) {a b : Nat} (h : a ≤ b) (hb : b < l.length) : seg l a (b + 1) = seg l a b ++ [l[b]] := by
  unfold seg
  rw [show b + 1 - a = (b - a) + 1 by omega, snoc_take _ _ (by rw [List.length_drop]; omega)]
  congr 2
  rw [List.getElem_drop]
  congr 1
  omega
theorem seg_append (l : List UInt8) {a b c : Nat} (h : a ≤ b) (h2 : b ≤ c) : seg l a b ++ seg l b c = seg l a c := by
  unfold seg
  have e : l.drop b = (l.drop a).drop (b - a) := by rw [List.drop_drop]; congr 1; omega
  rw [e]
  have := List.take_add (l := l.drop a) (i := b - a) (j := c - b)
  rw [show c - a = (b - a) + (c - b) by omega, this]
theorem seg_isEmpty (l : List UInt8) {a b : Nat} (h : a < b) (hb : b ≤ l.length) : (seg l a b).isEmpty = false := by
  rw [List.isEmpty_eq_false_iff]
  intro e
  have := seg_length l (a := a) hb
  rw [e] at this
  simp at this
  omega
theorem drop_cons {l : List UInt8} {k : Nat} (h : k < l.length) : l.drop k = l[k] :: l.drop (k + 1) := List.drop_eq_getElem_cons h

/-- Where the first byte c stands; the length if it stands nowhere. -/
def pos (l : List UInt8) (c : UInt8) : Nat := l.findIdx (· == c)
def has (l : List UInt8) (c : UInt8) : Bool := decide (pos l c < l.length)
theorem indexByte_pos (l : List UInt8) (c : UInt8) : Lib.indexByte l c = if pos l c < l.length then (pos l c : Int) else -1 := by
  induction l with
  | nil => rfl
  | cons b l ih =>
    unfold Lib.indexByte pos
    rw [List.findIdx_cons]
    by_cases h : (b == c) = true
    · simp [h]
    · simp only [h, Bool.false_eq_true, if_false, cond_false]
      rw [ih]
      unfold pos
      simp only [List.length_cons]
      by_cases g : List.findIdx (· == c) l < l.length
      · rw [if_pos g]
        have h1 : (((List.findIdx (· == c) l : Nat) : Int) == -1) = false := by rw [beq_eq_false_iff_ne]; omega
        simp [h1, g]
      · rw [if_neg g]
        simp [g]
theorem pos_le (l : List UInt8) (c : UInt8) : pos l c ≤ l.length := List.findIdx_le_length
theorem pos_at {l : List UInt8} {c : UInt8} (h : pos l c < l.length) : l[pos l c] = c := by
  have h2 : (l[pos l c] == c) = true := List.findIdx_getElem (p := (· == c)) (xs := l) (w := h)
  exact eq_of_beq h2
theorem pos_before {l : List UInt8} {c : UInt8} {i : Nat} (h : i < pos l c) (h' : i < l.length) : l[i] ≠ c := by
  have h2 : ((l[i] == c) = true) = False := eq_false (by simpa using List.not_of_lt_findIdx (p := (· == c)) (xs := l) h)
  intro e
  rw [e] at h2
  simp at h2
theorem pos_eq {l : List UInt8} {c : UInt8} {i : Nat} (h : i < l.length) (hc : l[i] = c) (hb : ∀ j (hj : j < i), l[j] ≠ c) : pos l c = i := by
  have h1 : pos l c ≤ i := by
    rcases Nat.lt_or_ge i (pos l c) with g | g
    · exact absurd hc (pos_before g h)
    · exact g
  rcases Nat.lt_or_ge (pos l c) i with g | g
  · exact absurd (pos_at (by omega)) (hb _ g)
  · omega
theorem pos_none {l : List UInt8} {c : UInt8} (hb : ∀ j (hj : j < l.length), l[j] ≠ c) : ¬ pos l c < l.length := fun h => hb _ h (pos_at h)
theorem extract_seg (l : List UInt8) (a b : Nat) : (ByteArray.mk l.toArray).extract a b = ⟨(seg l a b).toArray⟩ := by
  apply ByteArray.ext
  simp [ByteArray.data_extract, seg]

end Asc

theorem byte_at (l : List UInt8) (k : Nat) (h : k < l.length) : ∃ c : Nat, (∃ h' : k < (ByteArray.mk l.toArray).size, ((ByteArray.mk l.toArray)[k]'h').toNat = c) ∧ l[k].toNat = c ∧ c < 256 :=
  ⟨l[k].toNat, ⟨by simpa [ByteArray.size] using h, rfl⟩, rfl, l[k].toNat_lt⟩
theorem ext_tail (c : UInt8) (d : List UInt8) : (ByteArray.mk (c :: d).toArray).extract 1 (d.length + 1) = ⟨d.toArray⟩ := by
  apply ByteArray.ext
  simp [ByteArray.data_extract]

theorem ext_take (l : List UInt8) (k : Nat) : (ByteArray.mk l.toArray).extract 0 k = ⟨(l.take k).toArray⟩ := by
  apply ByteArray.ext
  simp [ByteArray.data_extract]
theorem ext_drop (l : List UInt8) (k : Nat) : (ByteArray.mk l.toArray).extract k l.length = ⟨(l.drop k).toArray⟩ := by
  apply ByteArray.ext
  simp [ByteArray.data_extract]
  exact List.take_of_length_le (by simp)
theorem u8_of (c : UInt8) : ((c.toNat : Int)).toNat.toUInt8 = c := by
  simp

theorem u8_nat {x : Int} (wx : (Lit.int .u8 x).wf = true) : ∃ c : Nat, c < 256 ∧ x = (c : Int) := by
  have h : 0 ≤ x ∧ x ≤ 255 := by
    have h' := wx
    unfold Lit.wf at h'
    rw [Bool.and_eq_true, decide_eq_true_iff, decide_eq_true_iff] at h'
    exact h'
  exact ⟨x.toNat, by omega, by omega⟩
theorem i64_bounds {x : Int} (wx : (Lit.int .i64 x).wf = true) : -9223372036854775808 ≤ x ∧ x ≤ 9223372036854775807 := by
  have h' := wx
  unfold Lit.wf at h'
  rw [Bool.and_eq_true, decide_eq_true_iff, decide_eq_true_iff] at h'
  exact h'
theorem below_seq {a b c : World} (h : Below a.heap.size a b) (k : Below b.heap.size b c) : Below a.heap.size a c := h.trans (k.mono h.size)

theorem i64_succ (k : Nat) : Value.int .i64 ((k : Int) + 1) = .int .i64 ((k + 1 : Nat) : Int) := rfl

end Go.Proofs.YtgcpinnnfoanjaaGreatDoor

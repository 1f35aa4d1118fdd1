/-
  Digit, Letter, Word and Space of package ascii and of its reference: the same classes of bytes.
-/
import Derived.Test.YtgcpinnnfoanjaaGreatDoorStr
namespace Go.Proofs.YtgcpinnnfoanjaaGreatDoor
open Go.RowKit

namespace Asc
def isDigit (c : Nat) : Bool := decide (48 ≤ c ∧ c ≤ 57)
def isLetter (c : Nat) : Bool := decide (97 ≤ c ∧ c ≤ 122 ∨ 65 ≤ c ∧ c ≤ 90)
def isSpace (c : Nat) : Bool := decide (c = 32 ∨ c = 9)
def isWord (c : Nat) : Bool := isDigit c || isLetter c || decide (c = 95)
/-- The kind of a byte. -/
def kind (c : Nat) : Nat := if isDigit c then 1 else if isLetter c then 2 else if isSpace c then 4 else 0
def kTab : List Int := (List.range 256).map fun c => (kind c : Int)
theorem kTab_at (c : Nat) (h : c < 256) : kTab.getD c 0 = (kind c : Nat) := by
  unfold kTab
  simp [List.getD, h]

/-- The four kinds of bytes. -/
theorem kind_cases (c : Nat) : (kind c = 1 ∧ isDigit c = true ∧ isLetter c = false ∧ isSpace c = false) ∨ (kind c = 2 ∧ isDigit c = false ∧ isLetter c = true ∧ isSpace c = false) ∨
    (kind c = 4 ∧ isDigit c = false ∧ isLetter c = false ∧ isSpace c = true) ∨ (kind c = 0 ∧ isDigit c = false ∧ isLetter c = false ∧ isSpace c = false) := by
  unfold kind
  by_cases h1 : isDigit c = true
  · refine .inl ⟨by rw [if_pos h1], h1, ?_, ?_⟩
    · unfold isDigit at h1; unfold isLetter; simp at h1 ⊢; omega
    · unfold isDigit at h1; unfold isSpace; simp at h1 ⊢; omega
  · rw [if_neg h1]
    by_cases h2 : isLetter c = true
    · refine .inr (.inl ⟨by rw [if_pos h2], by simpa using h1, h2, ?_⟩)
      unfold isLetter at h2; unfold isSpace; simp at h2 ⊢; omega
    · rw [if_neg h2]
      by_cases h3 : isSpace c = true
      · exact .inr (.inr (.inl ⟨by rw [if_pos h3], by simpa using h1, by simpa using h2, h3⟩))
      · exact .inr (.inr (.inr ⟨by rw [if_neg h3], by simpa using h1, by simpa using h2, by simpa using h3⟩))
end Asc

/-- The table of kinds stands in its variable. -/
def Kinds (w : World) : Prop := 0 < w.heap.size ∧ ∀ c, c < 256 → w.cell? ⟨0, c, none⟩ = some (.int .u8 (Asc.kind c : Nat))
theorem Kinds.below {w w' : World} (h : Kinds w) (hb : Below w.heap.size w w') : Kinds w' :=
  ⟨Nat.lt_of_lt_of_le h.1 hb.size, fun c hc => (hb.cell (p := ⟨0, c, none⟩) h.1).trans (h.2 c hc)⟩
theorem Kinds.alloc {w : World} (h : Kinds w) (o : Obj) : Kinds (w.alloc o) := h.below ((Below.refl _ _).alloc (Nat.le_refl _) o)

theorem digit_any (c : Nat) (w : World) (hc : c < 256) (hk : Kinds w) :
    Calls Tryz.prog 149 #[.int .u8 c] w fun e w' => e = .returned (.bool (Asc.isDigit c)) ∧ w = w' := by
  have h := hk.2 c hc
  clear hk
  rcases Asc.kind_cases c with ⟨k, d, l, s⟩ | ⟨k, d, l, s⟩ | ⟨k, d, l, s⟩ | ⟨k, d, l, s⟩
  all_goals
    rw [k] at h
    rw [d]
    clear k d l s
    go_enter Tryz.func149, Tryz.ntmps149
    go_wp2_with fail
    go_ret
    exact ⟨by first | rfl | decide, rfl⟩
theorem letter_any (c : Nat) (w : World) (hc : c < 256) (hk : Kinds w) :
    Calls Tryz.prog 67 #[.int .u8 c] w fun e w' => e = .returned (.bool (Asc.isLetter c)) ∧ w = w' := by
  have h := hk.2 c hc
  clear hk
  rcases Asc.kind_cases c with ⟨k, d, l, s⟩ | ⟨k, d, l, s⟩ | ⟨k, d, l, s⟩ | ⟨k, d, l, s⟩
  all_goals
    rw [k] at h
    rw [l]
    clear k d l s
    go_enter Tryz.func67, Tryz.ntmps67
    go_wp2_with fail
    go_ret
    exact ⟨by first | rfl | decide, rfl⟩
theorem space_any (c : Nat) (w : World) (hc : c < 256) (hk : Kinds w) :
    Calls Tryz.prog 65 #[.int .u8 c] w fun e w' => e = .returned (.bool (Asc.isSpace c)) ∧ w = w' := by
  have h := hk.2 c hc
  clear hk
  rcases Asc.kind_cases c with ⟨k, d, l, s⟩ | ⟨k, d, l, s⟩ | ⟨k, d, l, s⟩ | ⟨k, d, l, s⟩
  all_goals
    rw [k] at h
    rw [s]
    clear k d l s
    go_enter Tryz.func65, Tryz.ntmps65
    go_wp2_with fail
    go_ret
    exact ⟨by first | rfl | decide, rfl⟩
theorem word_any (c : Nat) (w : World) (hc : c < 256) (hk : Kinds w) :
    Calls Tryz.prog 68 #[.int .u8 c] w fun e w' => e = .returned (.bool (Asc.isWord c)) ∧ w = w' := by
  have h := hk.2 c hc
  clear hk
  rcases Asc.kind_cases c with ⟨k, d, l, s⟩ | ⟨k, d, l, s⟩ | ⟨k, d, l, s⟩ | ⟨k, d, l, s⟩
  all_goals
    rw [k] at h
    have hf : Asc.isWord c = (Asc.isDigit c || Asc.isLetter c || decide (c = 95)) := rfl
    rw [d, l] at hf
    simp only [Bool.true_or, Bool.or_true, Bool.false_or] at hf
    rw [hf]
    clear k d l s hf
    go_enter Tryz.func68, Tryz.ntmps68
    go_wp2_with fail
    go_ret
    exact ⟨by first | rfl | decide | exact ret_bool (by rw [Bool.eq_iff_iff]; simp; omega), rfl⟩

end Go.Proofs.YtgcpinnnfoanjaaGreatDoor

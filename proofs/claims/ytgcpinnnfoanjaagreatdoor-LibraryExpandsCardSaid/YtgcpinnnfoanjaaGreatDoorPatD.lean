/-
  Names: the length of the name ahead, and what a name is, for the program and the reference.
-/
import Derived.Test.YtgcpinnnfoanjaaGreatDoorPatC
import Derived.Test.YtgcpinnnfoanjaaGreatDoorKinds
namespace Go.Proofs.YtgcpinnnfoanjaaGreatDoor
open Go.RowKit

/-- The length of the name at the beginning. -/
def nlen (l : List UInt8) : Nat := match l with
  | [] => 0
  | c :: t => if Asc.isLetter c.toNat = true then (if 32 < 1 + (t.takeWhile fun x => Asc.isWord x.toNat).length then 0 else 1 + (t.takeWhile fun x => Asc.isWord x.toNat).length) else 0
theorem tw_len {t : List UInt8} {k : Nat} (hk : k ≤ t.length) (h : ∀ i (h : i < t.length), i < k → Asc.isWord (t[i]).toNat = true) (hs : ∀ h : k < t.length, Asc.isWord (t[k]).toNat = false) : (t.takeWhile fun x => Asc.isWord x.toNat).length = k := by
  induction t generalizing k with
  | nil => simp at hk; subst hk; rfl
  | cons c t ih =>
    cases k with
    | zero =>
      have := hs (by simp)
      simp only [List.getElem_cons_zero] at this
      rw [List.takeWhile_cons, this]
      rfl
    | succ k =>
      have h0 := h 0 (by simp) (by omega)
      simp only [List.getElem_cons_zero] at h0
      rw [List.takeWhile_cons, if_pos h0, List.length_cons, ih (k := k) (by simpa using hk) (fun i hi hik => by have := h (i + 1) (by simp; omega) (by omega); simpa using this) (fun hh => by have := hs (by simp; omega); simpa using this)]
theorem nlen_at {l : List UInt8} {k : Nat} (h1 : 1 ≤ k) (hk : k ≤ l.length) (hL : Asc.isLetter (l[0]'(by omega)).toNat = true) (h : ∀ i (h : i < l.length), 1 ≤ i → i < k → Asc.isWord (l[i]).toNat = true) (hs : ∀ h : k < l.length, Asc.isWord (l[k]).toNat = false) : nlen l = if 32 < k then 0 else k := by
  cases l with
  | nil => simp at hk; omega
  | cons c t =>
    obtain ⟨m, rfl⟩ : ∃ m, k = m + 1 := ⟨k - 1, by omega⟩
    have := tw_len (t := t) (k := m) (by simpa using hk) (fun i hi him => by have := h (i + 1) (by simp; omega) (by omega) (by omega); simpa using this) (fun hh => by have := hs (by simp; omega); simpa using this)
    simp only [List.getElem_cons_zero] at hL
    rw [nlen, if_pos hL, this, Nat.add_comm 1 m]
theorem nlen_no {l : List UInt8} (h : 0 < l.length) (hL : Asc.isLetter (l[0]).toNat = false) : nlen l = 0 := by
  cases l with
  | nil => simp at h
  | cons c t =>
    simp only [List.getElem_cons_zero] at hL
    rw [nlen, if_neg (by rw [hL]; decide)]
def NmOk (l : List UInt8) : Prop := 0 < l.length ∧ l.length ≤ 32 ∧ (∀ h : 0 < l.length, Asc.isLetter (l[0]).toNat = true) ∧ ∀ i (h : i < l.length), Asc.isWord (l[i]).toNat = true
noncomputable def nmB (l : List UInt8) : Bool := @decide (NmOk l) (Classical.propDecidable _)
theorem nmB_yes {l : List UInt8} (h : NmOk l) : nmB l = true := by unfold nmB; exact @decide_eq_true _ (Classical.propDecidable _) h
theorem nmB_no {l : List UInt8} (h : ¬ NmOk l) : nmB l = false := by unfold nmB; exact @decide_eq_false _ (Classical.propDecidable _) h
theorem nlen_le (l : List UInt8) : nlen l ≤ l.length := by
  cases l with
  | nil => exact Nat.le_refl _
  | cons c t =>
    rw [nlen]
    have := (List.takeWhile_prefix (p := fun x : UInt8 => Asc.isWord x.toNat) (l := t)).length_le
    split
    · split
      · simp
      · simp only [List.length_cons]; omega
    · simp
theorem nm_iff {l : List UInt8} (h : 0 < l.length) : NmOk l ↔ nlen l = l.length := by
  cases l with
  | nil => simp at h
  | cons c t =>
    have hp := (List.takeWhile_prefix (p := fun x : UInt8 => Asc.isWord x.toNat) (l := t))
    constructor
    · rintro ⟨_, h2, h3, h4⟩
      have := nlen_at (l := c :: t) (k := (c :: t).length) (by simp) (Nat.le_refl _) (h3 h) (fun i hi _ _ => h4 i hi) (fun hh => by omega)
      rw [this, if_neg (by omega)]
    · intro e
      rw [nlen] at e
      have hlen := hp.length_le
      by_cases hL : Asc.isLetter c.toNat = true
      · rw [if_pos hL] at e
        by_cases h32 : 32 < 1 + (t.takeWhile fun x => Asc.isWord x.toNat).length
        · rw [if_pos h32] at e; simp at e
        · rw [if_neg h32] at e
          simp only [List.length_cons] at e
          have ht : t.takeWhile (fun x => Asc.isWord x.toNat) = t := hp.eq_of_length (by omega)
          refine ⟨h, by simp; omega, fun _ => hL, fun i hi => ?_⟩
          cases i with
          | zero => simp only [List.getElem_cons_zero]; unfold Asc.isWord; simp [hL]
          | succ i =>
            simp only [List.getElem_cons_succ]
            have hm : t[i]'(by simpa using hi) ∈ t.takeWhile (fun x => Asc.isWord x.toNat) := by rw [ht]; exact List.getElem_mem _
            exact List.all_eq_true.1 (List.all_takeWhile (l := t) (p := fun x : UInt8 => Asc.isWord x.toNat)) _ hm
      · rw [if_neg hL] at e; simp at e

set_option maxRecDepth 100000 in
set_option maxHeartbeats 2000000 in
theorem nlen_any (l : List UInt8) (w : World) (hk : Kinds w) (hml : l.length ≤ 9223372036854775807) :
    Calls Tryz.prog 113 #[.string ⟨l.toArray⟩] w fun e w' => e = .returned (.int .i64 (nlen l)) ∧ w = w' := by
  rcases Nat.eq_zero_or_pos l.length with h0 | hpos
  · obtain rfl := List.length_eq_zero_iff.1 h0
    clear h0 hml
    go_enter Tryz.func113, Tryz.ntmps113
    go_wp2_with fail
    go_ret
    exact ⟨rfl, rfl⟩
  · have e2 : (l.isEmpty) = false := by cases l with | nil => simp at hpos | cons a b => rfl
    obtain ⟨c0, ⟨_, hx0⟩, hc0, hb0⟩ := byte_at l 0 hpos
    have HL := Lib.hid (letter_any c0 w hb0 hk)
    have HKW := Lib.hid hk
    obtain ⟨R, hR⟩ : ∃ R, nlen l = R := ⟨_, rfl⟩
    have HR := Lib.hid hR
    rw [hR]
    have HC0 := Lib.hid hc0
    clear hk hR hc0
    cases hl : Asc.isLetter c0
    · have HZ : Hid ((0 : Nat) = R) := Lib.hid (by rw [← HR.out, nlen_no hpos (by rw [HC0.out]; exact hl)])
      rw [hl] at HL
      clear hl
      go_enter Tryz.func113, Tryz.ntmps113
      go_wp2_with (go_at_call 67; refine HL.out.mono ?_; rintro e w' ⟨rfl, rfl⟩)
      go_ret
      exact ⟨ret_int (by rw [← HZ.out]; rfl), rfl⟩
    · have HA : Hid (∀ k, 1 ≤ k → k ≤ l.length → (∀ i (h : i < l.length), 1 ≤ i → i < k → Asc.isWord (l[i]).toNat = true) → (∀ h : k < l.length, Asc.isWord (l[k]).toNat = false) → (if 32 < k then 0 else k) = R) :=
        Lib.hid (fun k h1 h2 h3 h4 => by rw [← HR.out, nlen_at h1 h2 (by rw [HC0.out]; exact hl) h3 h4])
      rw [hl] at HL
      clear hl hx0
      obtain ⟨c0', ⟨_, hx0⟩, hc0', _⟩ := byte_at l 0 hpos
      have ec : c0' = c0 := hc0'.symm.trans HC0.out
      rw [ec] at hx0
      clear hc0' ec
      go_enter Tryz.func113, Tryz.ntmps113
      go_wp2_with (go_at_call 67; refine HL.out.mono ?_; rintro e w' ⟨rfl, rfl⟩)
      go_loop [3] (fun i => ∃ k : Nat, 1 ≤ k ∧ k ≤ l.length ∧ i = .int .i64 k ∧ Hid (∀ i (h : i < l.length), 1 ≤ i → i < k → Asc.isWord (l[i]).toNat = true)) (fun i => l.length - (intOf i).toNat)
      case atStart => exact ⟨1, by omega, by omega, rfl, Lib.hid (fun _ _ _ _ => by omega)⟩
      case round =>
        obtain ⟨k, hk1, hkl, rfl, HALL⟩ := hrel
        by_cases hlt : k < l.length
        · obtain ⟨c, ⟨_, hx⟩, hc, hb⟩ := byte_at l k hlt
          have HC := Lib.hid hc
          have HW := Lib.hid (word_any c w hb HKW.out)
          clear hc hx0
          cases hw : Asc.isWord c
          · have HZ : Hid ((if 32 < k then 0 else k) = R) := Lib.hid (HA.out k hk1 hkl HALL.out (fun _ => by rw [HC.out]; exact hw))
            rw [hw] at HW
            clear hw
            by_cases h32 : 32 < k
            · have z1 : decide ((32 : Int) < (k : Int)) = true := decide_eq_true (by omega)
              have HZ2 : Hid ((0 : Nat) = R) := Lib.hid (by rw [← HZ.out, if_pos h32])
              go_wp2_with (go_at_call 68; refine HW.out.mono ?_; rintro e w' ⟨rfl, rfl⟩)
              go_ret
              exact ⟨ret_int (by rw [← HZ2.out]; rfl), rfl⟩
            · have z1 : decide ((32 : Int) < (k : Int)) = false := decide_eq_false (by omega)
              have HZ2 : Hid (k = R) := Lib.hid (by rw [← HZ.out, if_neg h32])
              go_wp2_with (go_at_call 68; refine HW.out.mono ?_; rintro e w' ⟨rfl, rfl⟩)
              go_ret
              exact ⟨ret_int (by rw [← HZ2.out]), rfl⟩
          · have HN : Hid (∀ i (h : i < l.length), 1 ≤ i → i < k + 1 → Asc.isWord (l[i]).toNat = true) := Lib.hid (fun i h h1 h2 => by
              by_cases e : i = k
              · subst e; rw [HC.out]; exact hw
              · exact HALL.out i h h1 (by omega))
            rw [hw] at HW
            clear hw
            go_wp2_with (go_at_call 68; refine HW.out.mono ?_; rintro e w' ⟨rfl, rfl⟩)
            go_round
            case rel => exact ⟨k + 1, by omega, by omega, by go_num, HN⟩
            case measure => simp [intOf]; omega
        · obtain rfl : k = l.length := by omega
          have HZ : Hid ((if 32 < l.length then 0 else l.length) = R) := Lib.hid (HA.out _ hk1 hkl HALL.out (fun hh => by omega))
          by_cases h32 : 32 < l.length
          · have z1 : decide ((32 : Int) < (l.length : Int)) = true := decide_eq_true (by omega)
            have HZ2 : Hid ((0 : Nat) = R) := Lib.hid (by rw [← HZ.out, if_pos h32])
            go_wp2_with fail
            go_ret
            exact ⟨ret_int (by rw [← HZ2.out]; rfl), rfl⟩
          · have z1 : decide ((32 : Int) < (l.length : Int)) = false := decide_eq_false (by omega)
            have HZ2 : Hid (l.length = R) := Lib.hid (by rw [← HZ.out, if_neg h32])
            go_wp2_with fail
            go_ret
            exact ⟨ret_int (by rw [← HZ2.out]), rfl⟩

set_option maxRecDepth 100000 in
theorem isname_any (l : List UInt8) (w : World) (hk : Kinds w) (hml : l.length ≤ 9223372036854775807) :
    Calls Tryz.prog 91 #[.string ⟨l.toArray⟩] w fun e w' => e = .returned (.bool (nmB l)) ∧ w = w' := by
  rcases Nat.eq_zero_or_pos l.length with h0 | hpos
  · obtain rfl := List.length_eq_zero_iff.1 h0
    rw [nmB_no (fun h => by have := h.1; simp at this)]
    clear h0 hml
    go_enter Tryz.func91, Tryz.ntmps91
    go_wp2_with fail
    go_ret
    exact ⟨rfl, rfl⟩
  · have e2 : (l.isEmpty) = false := by cases l with | nil => simp at hpos | cons a b => rfl
    have HN := Lib.hid (nlen_any l w hk hml)
    have hle := nlen_le l
    have HI := Lib.hid (nm_iff hpos)
    obtain ⟨n, hn⟩ : ∃ n, nlen l = n := ⟨_, rfl⟩
    rw [hn] at HN hle HI
    clear hn hk
    by_cases e : n = l.length
    · rw [nmB_yes (HI.out.2 e)]
      subst e
      clear hle
      go_enter Tryz.func91, Tryz.ntmps91
      go_wp2_with (go_at_call 113; refine HN.out.mono ?_; rintro e w' ⟨rfl, rfl⟩)
      go_ret
      exact ⟨rfl, rfl⟩
    · rw [nmB_no (fun h => e (HI.out.1 h))]
      have z1 : ((n : Int) == (l.length : Int)) = false := by rw [beq_eq_false_iff_ne]; omega
      clear HI
      go_enter Tryz.func91, Tryz.ntmps91
      go_wp2_with (go_at_call 113; refine HN.out.mono ?_; rintro e w' ⟨rfl, rfl⟩)
      go_ret
      exact ⟨ret_bool (by first | rfl | simpa using e), rfl⟩

end Go.Proofs.YtgcpinnnfoanjaaGreatDoor

/-
  Parse of package extract and Number of its reference: the number that a string stands for.
-/
import Derived.Test.YtmcnhphmglmmeabDoorNum
import Derived.Test.YtmcnhphmglmmeabDoorMem
import Derived.Test.YtmcnhphmglmmeabDoorShelf
import Derived.Outline
namespace Go.Proofs.YtmcnhphmglmmeabDoor
open Go.RowKit

theorem val_small {l : List UInt8} {k : Nat} (h : Asc.allD (l.take k) = true) (hk : k ≤ 17) : Asc.val (l.take k) < 100000000000000000 :=
  Nat.lt_of_lt_of_le (Asc.val_lt h) (Nat.le_trans (Nat.pow_le_pow_right (n := 10) (by omega) (show (l.take k).length ≤ 17 by rw [List.length_take]; omega)) (by decide))
theorem ret_nb {a b : Int} {c d : Bool} (h : a = b) (k : c = d) : Ending.returned (.tuple #[.int .i64 a, .bool c]) = .returned (.tuple #[.int .i64 b, .bool d]) := by rw [h, k]
def Asc.sgn (neg : Bool) (n : Nat) : Int := if neg then -(n : Int) else (n : Int)

set_option maxRecDepth 100000 in
set_option maxHeartbeats 1000000 in
theorem parse_core (l d : List UInt8) (neg : Bool) (w : World) (hd : Lib.trimPrefix l [45] = d) (hn : neg = false ∧ d = l ∨ neg = true ∧ ¬ d = l) :
    Calls Tryd.prog 13 #[.string ⟨l.toArray⟩] w fun e w' => e = .returned (.tuple #[.int .i64 (Asc.sgn neg (Asc.digN d 18)), .bool (Asc.digB d 18)]) ∧ Below w.heap.size w w' := by
  have HT : Hid (∀ w, Calls Tryd.prog 24 #[.string ⟨l.toArray⟩, .string ⟨#[45]⟩] w fun e w' => e = .returned (.string ⟨d.toArray⟩) ∧ w = w') := by
    show ∀ w, _
    intro w
    rw [← hd]
    exact (Tryd.strings_TrimPrefix ⟨l.toArray⟩ ⟨#[45]⟩ w).mono fun e w' ⟨h1, h2⟩ => ⟨h1, h2.symm⟩
  clear hd
  by_cases h1 : 1 ≤ d.length
  · have t1 : decide ((d.length : Int) < 1) = false := by simp; omega
    by_cases h2 : d.length ≤ 18
    · have t2 : decide (18 < (d.length : Int)) = false := by simp; omega
      have HF := Lib.hid (Asc.dig_yes h1 h2)
      have HN := Lib.hid (Asc.dig_no (l := d) (most := 18))
      obtain ⟨cap, w2, nb⟩ := conv_bytes w d
      have hr := nb.run
      have NB := Lib.hid nb
      clear nb
      go_enter Tryd.func13, Tryd.ntmps13
      go_wp2_with (go_at_call 24; refine (HT.out _).mono ?_; rintro e w' ⟨rfl, rfl⟩)
      go_loop [5, 21] (fun t i => ∃ k : Nat, k ≤ d.length ∧ i = .int .i64 k ∧ t = .int .i64 (Asc.val (d.take k) : Nat) ∧ Asc.allD (d.take k) = true) (fun _ i => d.length - (intOf i).toNat)
      case atStart => exact ⟨0, by omega, rfl, rfl, rfl⟩
      case round =>
        obtain ⟨k, hk, rfl, rfl, ha⟩ := hrel
        by_cases hlt : k < d.length
        · have hcell := NB.out.cells.at k hlt
          rw [Asc.at_of hlt] at hcell
          have hc2 : d[k].toNat < 256 := d[k].toNat_lt
          generalize hc : d[k].toNat = c at *
          have hv := val_small ha (by omega)
          have HA := Lib.hid ha
          have HC := Lib.hid hc
          clear ha hc
          cases hd : Asc.isDigit c
          · have HB := Lib.hid (Asc.allD_bad k hlt (by rw [HC.out]; exact hd))
            have hd2 : ¬ (48 ≤ c ∧ c ≤ 57) := fun h => by rw [(Asc.isDigit_iff c).2 h] at hd; cases hd
            by_cases h48 : c < 48
            · go_wp2_with fail
              go_ret2
              have := HN.out (.inr (.inr HB.out))
              exact ⟨ret_nb (by rw [this.1]; cases neg <;> rfl) this.2.symm, NB.out.below⟩
            · have h57 : 57 < c := by omega
              go_wp2_with fail
              go_ret2
              have := HN.out (.inr (.inr HB.out))
              exact ⟨ret_nb (by rw [this.1]; cases neg <;> rfl) this.2.symm, NB.out.below⟩
          · have hd2 := (Asc.isDigit_iff c).1 hd
            have HV : Hid (Asc.val (d.take (k + 1)) = Asc.val (d.take k) * 10 + (c - 48)) := by
              show Asc.val _ = _
              rw [Asc.snoc_take d k hlt, Asc.val_snoc, HC.out]
            have HB : Hid (Asc.allD (d.take (k + 1)) = true) := by
              show Asc.allD _ = _
              rw [Asc.snoc_take d k hlt, Asc.allD_snoc, HC.out, HA.out, hd]; rfl
            generalize Asc.val (d.take k) = v at *
            go_wp2_with fail
            go_round
            case rel => exact ⟨k + 1, by omega, by go_num, by rw [HV.out]; congr 1; omega, HB.out⟩
            case measure => simp [intOf]; omega
        · have HA := Lib.hid (show Asc.allD d = true by rw [List.take_of_length_le (by omega)] at ha; exact ha)
          have HV := Lib.hid (show Asc.val (d.take k) = Asc.val d by rw [List.take_of_length_le (by omega)])
          have hv := Asc.val_le18 HA.out h2
          rw [← HV.out] at hv
          clear ha
          generalize Asc.val (d.take k) = v at *
          rcases hn with ⟨rfl, rfl⟩ | ⟨rfl, hn⟩
          · go_wp2_with fail
            go_ret2
            have := HF.out HA.out
            exact ⟨ret_nb (by rw [this.1, ← HV.out]; rfl) this.2.symm, NB.out.below⟩
          · have hn2 : (!d == l) = true := by simp [hn]
            go_wp2_with fail
            go_ret2
            have := HF.out HA.out
            exact ⟨ret_nb (by rw [this.1, ← HV.out]; rfl) this.2.symm, NB.out.below⟩
    · have t2 : decide (18 < (d.length : Int)) = true := by simp; omega
      have HN := Lib.hid (Asc.dig_no (l := d) (most := 18) (.inr (.inl (by omega))))
      go_enter Tryd.func13, Tryd.ntmps13
      go_wp2_with (go_at_call 24; refine (HT.out _).mono ?_; rintro e w' ⟨rfl, rfl⟩)
      go_ret2
      exact ⟨ret_nb (by rw [HN.out.1]; cases neg <;> rfl) HN.out.2.symm, Below.refl _ _⟩
  · have t1 : decide ((d.length : Int) < 1) = true := by simp; omega
    have HN := Lib.hid (Asc.dig_no (l := d) (most := 18) (.inl (by omega)))
    go_enter Tryd.func13, Tryd.ntmps13
    go_wp2_with (go_at_call 24; refine (HT.out _).mono ?_; rintro e w' ⟨rfl, rfl⟩)
    go_ret2
    exact ⟨ret_nb (by rw [HN.out.1]; cases neg <;> rfl) HN.out.2.symm, Below.refl _ _⟩

theorem parse_any (l : List UInt8) (w : World) :
    Calls Tryd.prog 13 #[.string ⟨l.toArray⟩] w fun e w' => e = .returned (.tuple #[.int .i64 (Asc.numN l), .bool (Asc.numB l)]) ∧ Below w.heap.size w w' := by
  by_cases hh : l.head? = some 45
  · obtain ⟨d, rfl⟩ : ∃ d, l = 45 :: d := by
      cases l with
      | nil => cases hh
      | cons c d => simp at hh; subst hh; exact ⟨d, rfl⟩
    have h := parse_core (45 :: d) d true w (by simp [Lib.trimPrefix, Lib.hasPrefix]) (.inr ⟨rfl, fun e => by
      have := congrArg List.length e
      simp at this⟩)
    rw [(Asc.num_neg d).1, (Asc.num_neg d).2]
    exact h
  · have h := parse_core l l false w (by
      cases l with
      | nil => rfl
      | cons c d =>
        have : ¬ c = 45 := fun e => hh (by simp [e])
        simp [Lib.trimPrefix, Lib.hasPrefix]
        intro e; exact absurd e.symm (by simpa using this)) (.inl ⟨rfl, rfl⟩)
    rw [(Asc.num_pos hh).1, (Asc.num_pos hh).2]
    exact h

theorem digit34_any (c : Nat) (w : World) (hc : c < 256) : Calls Tryd.prog 37 #[.int .u8 c] w fun e w' => e = .returned (.bool (Asc.isDigit c)) ∧ w = w' := by
  have e : Asc.isDigit c = decide (48 ≤ c ∧ c ≤ 57) := rfl
  rw [e]
  clear e
  by_cases h1 : 48 ≤ c
  · by_cases h2 : c ≤ 57
    · rw [decide_eq_true ⟨h1, h2⟩]
      have t1 : decide ((c : Int) ≤ 57) = true := decide_eq_true (by omega)
      go_enter Tryd.func37, Tryd.ntmps37
      go_wp2_with fail
      go_ret
      exact ⟨rfl, rfl⟩
    · rw [decide_eq_false (fun h => h2 h.2)]
      have t1 : decide ((c : Int) ≤ 57) = false := decide_eq_false (by omega)
      go_enter Tryd.func37, Tryd.ntmps37
      go_wp2_with fail
      go_ret
      exact ⟨rfl, rfl⟩
  · rw [decide_eq_false (fun h => h1 h.1)]
    have h3 : c < 48 := by omega
    go_enter Tryd.func37, Tryd.ntmps37
    go_wp2_with fail
    go_ret
    exact ⟨rfl, rfl⟩

set_option maxRecDepth 100000 in
set_option maxHeartbeats 1000000 in
theorem rnumber_pos (l d : List UInt8) (neg : Bool) (w : World) (hd : neg = true ∧ l = 45 :: d ∨ neg = false ∧ l = d ∧ d.head? ≠ some 45) (hl : l.length ≤ 1000000) :
    Calls Tryd.prog 25 #[.string ⟨l.toArray⟩] w fun e w' => e = .returned (.tuple #[.int .i64 (Asc.sgn neg (Asc.digN d 18)), .bool (Asc.digB d 18)]) ∧ w = w' := by
  rcases hd with ⟨rfl, rfl⟩ | ⟨rfl, rfl, hh⟩
  · have e1 : ((ByteArray.mk (45 :: d).toArray)[0]'(by simp [ByteArray.size])).toNat = 45 := rfl
    have e2 := ext_tail 45 d
    have e3 : d.length + 1 ≤ 1000000 := by simpa using hl
    clear hl
    by_cases h1 : 1 ≤ d.length
    · have t1 : decide ((d.length : Int) < 1) = false := by simp; omega
      by_cases h2 : d.length ≤ 18
      · have t2 : decide (18 < (d.length : Int)) = false := by simp; omega
        have HF := Lib.hid (Asc.dig_yes h1 h2)
        have HN := Lib.hid (Asc.dig_no (l := d) (most := 18))
        go_enter Tryd.func25, Tryd.ntmps25
        go_wp2_with fail
        go_loop [5, 6] (fun t i => ∃ k : Nat, k ≤ d.length ∧ i = .int .i64 k ∧ t = .int .i64 (Asc.val (d.take k) : Nat) ∧ Asc.allD (d.take k) = true) (fun _ i => d.length - (intOf i).toNat)
        case atStart => exact ⟨0, by omega, rfl, rfl, rfl⟩
        case round =>
          obtain ⟨k, hk, rfl, rfl, ha⟩ := hrel
          by_cases hlt : k < d.length
          · obtain ⟨c, ⟨_, hx⟩, hc, hc2⟩ := byte_at d k hlt
            have hv := val_small ha (by omega)
            have HA := Lib.hid ha
            have HC := Lib.hid hc
            clear ha hc
            cases hdg : Asc.isDigit c
            · have HB := Lib.hid (Asc.allD_bad k hlt (by rw [HC.out]; exact hdg))
              go_wp2_with (go_at_call 37; refine (digit34_any c w hc2).mono ?_; rw [hdg]; rintro e w' ⟨rfl, rfl⟩)
              go_ret2
              have := HN.out (.inr (.inr HB.out))
              exact ⟨ret_nb (by rw [this.1]; rfl) this.2.symm, rfl⟩
            · have hd2 := (Asc.isDigit_iff c).1 hdg
              have HV : Hid (Asc.val (d.take (k + 1)) = Asc.val (d.take k) * 10 + (c - 48)) := by
                show Asc.val _ = _
                rw [Asc.snoc_take d k hlt, Asc.val_snoc, HC.out]
              have HB : Hid (Asc.allD (d.take (k + 1)) = true) := by
                show Asc.allD _ = _
                rw [Asc.snoc_take d k hlt, Asc.allD_snoc, HC.out, HA.out, hdg]; rfl
              generalize Asc.val (d.take k) = v at *
              go_wp2_with (go_at_call 37; refine (digit34_any c w hc2).mono ?_; rw [hdg]; rintro e w' ⟨rfl, rfl⟩)
              go_round
              case rel => exact ⟨k + 1, by omega, by go_num, by rw [HV.out]; congr 1; omega, HB.out⟩
              case measure => simp [intOf]; omega
          · have HA := Lib.hid (show Asc.allD d = true by rw [List.take_of_length_le (by omega)] at ha; exact ha)
            have HV := Lib.hid (show Asc.val (d.take k) = Asc.val d by rw [List.take_of_length_le (by omega)])
            have hv := Asc.val_le18 HA.out h2
            rw [← HV.out] at hv
            clear ha
            generalize Asc.val (d.take k) = v at *
            go_wp2_with fail
            go_ret2
            have := HF.out HA.out
            exact ⟨ret_nb (by rw [this.1, ← HV.out]; rfl) this.2.symm, rfl⟩
      · have t2 : decide (18 < (d.length : Int)) = true := by simp; omega
        have HN := Lib.hid (Asc.dig_no (l := d) (most := 18) (.inr (.inl (by omega))))
        go_enter Tryd.func25, Tryd.ntmps25
        go_wp2_with fail
        go_ret2
        exact ⟨ret_nb (by rw [HN.out.1]; rfl) HN.out.2.symm, rfl⟩
    · have t1 : decide ((d.length : Int) < 1) = true := by simp; omega
      have HN := Lib.hid (Asc.dig_no (l := d) (most := 18) (.inl (by omega)))
      go_enter Tryd.func25, Tryd.ntmps25
      go_wp2_with fail
      go_ret2
      exact ⟨ret_nb (by rw [HN.out.1]; rfl) HN.out.2.symm, rfl⟩
  · have e0 : (0 < l.length → ∃ h : 0 < (ByteArray.mk l.toArray).size, (((((ByteArray.mk l.toArray)[0]'h).toNat : Nat) : Int) == 45) = false) := by
      intro h0
      refine ⟨by rw [ba_size]; exact h0, ?_⟩
      cases l with
      | nil => simp at h0
      | cons c d =>
        rw [beq_eq_false_iff_ne]
        intro e
        apply hh
        have : c.toNat = 45 := by exact_mod_cast e
        rw [show c = 45 from UInt8.toNat_inj.1 this]; rfl
    clear hh
    by_cases h1 : 1 ≤ l.length
    · obtain ⟨h0, e1⟩ := e0 (by omega)
      clear e0
      have t1 : decide ((l.length : Int) < 1) = false := by simp; omega
      by_cases h2 : l.length ≤ 18
      · have t2 : decide (18 < (l.length : Int)) = false := by simp; omega
        have HF := Lib.hid (Asc.dig_yes h1 h2)
        have HN := Lib.hid (Asc.dig_no (l := l) (most := 18))
        go_enter Tryd.func25, Tryd.ntmps25
        go_wp2_with fail
        go_loop [5, 6] (fun t i => ∃ k : Nat, k ≤ l.length ∧ i = .int .i64 k ∧ t = .int .i64 (Asc.val (l.take k) : Nat) ∧ Asc.allD (l.take k) = true) (fun _ i => l.length - (intOf i).toNat)
        case atStart => exact ⟨0, by omega, rfl, rfl, rfl⟩
        case round =>
          obtain ⟨k, hk, rfl, rfl, ha⟩ := hrel
          by_cases hlt : k < l.length
          · obtain ⟨c, ⟨_, hx⟩, hc, hc2⟩ := byte_at l k hlt
            have hv := val_small ha (by omega)
            have HA := Lib.hid ha
            have HC := Lib.hid hc
            clear ha hc
            cases hdg : Asc.isDigit c
            · have HB := Lib.hid (Asc.allD_bad k hlt (by rw [HC.out]; exact hdg))
              go_wp2_with (go_at_call 37; refine (digit34_any c w hc2).mono ?_; rw [hdg]; rintro e w' ⟨rfl, rfl⟩)
              go_ret2
              have := HN.out (.inr (.inr HB.out))
              exact ⟨ret_nb (by rw [this.1]; rfl) this.2.symm, rfl⟩
            · have hd2 := (Asc.isDigit_iff c).1 hdg
              have HV : Hid (Asc.val (l.take (k + 1)) = Asc.val (l.take k) * 10 + (c - 48)) := by
                show Asc.val _ = _
                rw [Asc.snoc_take l k hlt, Asc.val_snoc, HC.out]
              have HB : Hid (Asc.allD (l.take (k + 1)) = true) := by
                show Asc.allD _ = _
                rw [Asc.snoc_take l k hlt, Asc.allD_snoc, HC.out, HA.out, hdg]; rfl
              generalize Asc.val (l.take k) = v at *
              go_wp2_with (go_at_call 37; refine (digit34_any c w hc2).mono ?_; rw [hdg]; rintro e w' ⟨rfl, rfl⟩)
              go_round
              case rel => exact ⟨k + 1, by omega, by go_num, by rw [HV.out]; congr 1; omega, HB.out⟩
              case measure => simp [intOf]; omega
          · have HA := Lib.hid (show Asc.allD l = true by rw [List.take_of_length_le (by omega)] at ha; exact ha)
            have HV := Lib.hid (show Asc.val (l.take k) = Asc.val l by rw [List.take_of_length_le (by omega)])
            have hv := Asc.val_le18 HA.out h2
            rw [← HV.out] at hv
            clear ha
            generalize Asc.val (l.take k) = v at *
            go_wp2_with fail
            go_ret2
            have := HF.out HA.out
            exact ⟨ret_nb (by rw [this.1, ← HV.out]; rfl) this.2.symm, rfl⟩
      · have t2 : decide (18 < (l.length : Int)) = true := by simp; omega
        have HN := Lib.hid (Asc.dig_no (l := l) (most := 18) (.inr (.inl (by omega))))
        go_enter Tryd.func25, Tryd.ntmps25
        go_wp2_with fail
        go_ret2
        exact ⟨ret_nb (by rw [HN.out.1]; rfl) HN.out.2.symm, rfl⟩
    · clear e0
      have t1 : decide ((l.length : Int) < 1) = true := by simp; omega
      have HN := Lib.hid (Asc.dig_no (l := l) (most := 18) (.inl (by omega)))
      go_enter Tryd.func25, Tryd.ntmps25
      go_wp2_with fail
      go_ret2
      exact ⟨ret_nb (by rw [HN.out.1]; rfl) HN.out.2.symm, rfl⟩

theorem rnumber_any (l : List UInt8) (w : World) (hl : l.length ≤ 1000000) :
    Calls Tryd.prog 25 #[.string ⟨l.toArray⟩] w fun e w' => e = .returned (.tuple #[.int .i64 (Asc.numN l), .bool (Asc.numB l)]) ∧ w = w' := by
  by_cases hh : l.head? = some 45
  · obtain ⟨d, rfl⟩ : ∃ d, l = 45 :: d := by
      cases l with
      | nil => cases hh
      | cons c d => simp at hh; subst hh; exact ⟨d, rfl⟩
    have h := rnumber_pos (45 :: d) d true w (.inl ⟨rfl, rfl⟩) hl
    rw [(Asc.num_neg d).1, (Asc.num_neg d).2]
    exact h
  · have h := rnumber_pos l l false w (.inr ⟨rfl, rfl, hh⟩) hl
    rw [(Asc.num_pos hh).1, (Asc.num_pos hh).2]
    exact h
theorem rparse_any (l : List UInt8) (w : World) (hl : l.length ≤ 1000000) :
    Calls Tryd.prog 14 #[.string ⟨l.toArray⟩] w fun e w' => e = .returned (.tuple #[.int .i64 (Asc.numN l), .bool (Asc.numB l)]) ∧ w = w' := by
  have H := Lib.hid (rnumber_any l w hl)
  go_enter Tryd.func14, Tryd.ntmps14
  go_wp2_with (go_at_call 25; refine H.out.mono ?_; rintro e w' ⟨rfl, rfl⟩)
  go_ret2
  exact ⟨rfl, rfl⟩

end Go.Proofs.YtmcnhphmglmmeabDoor

/-
  Digits and Number of the reference: the number that a string stands for.
-/
import Derived.Test.YtloilffkggkgdaaDoorAscF
import Derived.Outline
namespace Go.Proofs.YtloilffkggkgdaaDoor
open Go.RowKit

theorem byte_at (l : List UInt8) (k : Nat) (h : k < l.length) : ∃ c : Nat, (∃ h' : k < (ByteArray.mk l.toArray).size, ((ByteArray.mk l.toArray)[k]'h').toNat = c) ∧ l[k].toNat = c ∧ c < 256 :=
  ⟨l[k].toNat, ⟨by simpa [ByteArray.size] using h, rfl⟩, rfl, l[k].toNat_lt⟩
theorem val_small {l : List UInt8} {k : Nat} (h : Asc.allD (l.take k) = true) (hk : k ≤ 17) : Asc.val (l.take k) < 100000000000000000 :=
  Nat.lt_of_lt_of_le (Asc.val_lt h) (Nat.le_trans (Nat.pow_le_pow_right (n := 10) (by omega) (show (l.take k).length ≤ 17 by rw [List.length_take]; omega)) (by decide))
theorem ret_nb {a b : Int} {c d : Bool} (h : a = b) (k : c = d) : Ending.returned (.tuple #[.int .i64 a, .bool c]) = .returned (.tuple #[.int .i64 b, .bool d]) := by rw [h, k]

set_option maxHeartbeats 1000000 in
theorem rdigits_any (l : List UInt8) (most : Nat) (w : World) (hm : most ≤ 18) (hs : l.length ≤ 140737488355328) :
    Calls Tryd.prog 40 #[.string ⟨l.toArray⟩, .int .i64 most] w fun e w' => e = .returned (.tuple #[.int .i64 (Asc.digN l most : Nat), .bool (Asc.digB l most)]) ∧ w = w' := by
  by_cases h1 : 1 ≤ l.length
  · have t1 : decide ((l.length : Int) < 1) = false := by simp; omega
    by_cases h2 : l.length ≤ most
    · have t2 : decide (most < l.length) = false := by simp; omega
      have HF := Lib.hid (Asc.dig_yes h1 h2)
      have HN := Lib.hid (Asc.dig_no (l := l) (most := most))
      go_enter Tryd.func40, Tryd.ntmps40
      go_wp2_with fail
      go_loop [6, 7] (fun t i => ∃ k : Nat, k ≤ l.length ∧ i = .int .i64 k ∧ t = .int .i64 (Asc.val (l.take k) : Nat) ∧ Asc.allD (l.take k) = true) (fun _ i => l.length - (intOf i).toNat)
      case atStart => exact ⟨0, by omega, rfl, rfl, rfl⟩
      case round =>
        obtain ⟨k, hk, rfl, rfl, ha⟩ := hrel
        by_cases hlt : k < l.length
        · obtain ⟨c, ⟨_, hx⟩, hc, hc2⟩ := byte_at l k hlt
          have hv := val_small ha (by omega)
          have HA := Lib.hid ha
          have HC := Lib.hid hc
          clear ha hc
          cases hd : Asc.isDigit c
          · have HB := Lib.hid (Asc.allD_bad k hlt (by rw [HC.out]; exact hd))
            go_wp2_with (go_at_call 13; refine (rdigit_any c w hc2).mono ?_; rintro e w' ⟨rfl, rfl⟩)
            go_ret2
            have := HN.out (.inr (.inr HB.out))
            exact ⟨ret_nb (by rw [this.1]; rfl) this.2.symm, rfl⟩
          · have hd2 := (Asc.isDigit_iff c).1 hd
            have HV : Hid (Asc.val (l.take (k + 1)) = Asc.val (l.take k) * 10 + (c - 48)) := by
              show Asc.val _ = _
              rw [Asc.snoc_take l k hlt, Asc.val_snoc, HC.out]
            have HB : Hid (Asc.allD (l.take (k + 1)) = true) := by
              show Asc.allD _ = _
              rw [Asc.snoc_take l k hlt, Asc.allD_snoc, HC.out, HA.out, hd]; rfl
            generalize Asc.val (l.take k) = v at *
            go_wp2_with (go_at_call 13; refine (rdigit_any c w hc2).mono ?_; rintro e w' ⟨rfl, rfl⟩)
            go_round
            case rel => exact ⟨k + 1, by omega, by go_num, by rw [HV.out]; congr 1; omega, HB.out⟩
            case measure => simp [intOf]; omega
        · have HA := Lib.hid (show Asc.allD l = true by rw [List.take_of_length_le (by omega)] at ha; exact ha)
          have HV := Lib.hid (show Asc.val (l.take k) = Asc.val l by rw [List.take_of_length_le (by omega)])
          clear ha
          go_wp2_with fail
          go_ret2
          have := HF.out HA.out
          exact ⟨ret_nb (by rw [HV.out, this.1]) this.2.symm, rfl⟩
    · have t2 : decide (most < l.length) = true := by simp; omega
      have HN := Lib.hid (Asc.dig_no (l := l) (most := most) (.inr (.inl (by omega))))
      go_enter Tryd.func40, Tryd.ntmps40
      go_wp2_with fail
      go_ret2
      exact ⟨ret_nb (by rw [HN.out.1]; rfl) HN.out.2.symm, rfl⟩
  · have t1 : decide ((l.length : Int) < 1) = true := by simp; omega
    have HN := Lib.hid (Asc.dig_no (l := l) (most := most) (.inl (by omega)))
    go_enter Tryd.func40, Tryd.ntmps40
    go_wp2_with fail
    go_ret2
    exact ⟨ret_nb (by rw [HN.out.1]; rfl) HN.out.2.symm, rfl⟩

theorem ext_tail (c : UInt8) (d : List UInt8) : (ByteArray.mk (c :: d).toArray).extract 1 (d.length + 1) = ⟨d.toArray⟩ := by
  apply ByteArray.ext
  simp [ByteArray.data_extract]

theorem rnumber_any (l : List UInt8) (w : World) (hs : l.length ≤ 140737488355328) :
    Calls Tryd.prog 22 #[.string ⟨l.toArray⟩] w fun e w' => e = .returned (.tuple #[.int .i64 (Asc.numN l), .bool (Asc.numB l)]) ∧ w = w' := by
  by_cases hh : l.head? = some 45
  · obtain ⟨d, rfl⟩ : ∃ d, l = 45 :: d := by
      cases l with
      | nil => cases hh
      | cons c d => simp at hh; subst hh; exact ⟨d, rfl⟩
    have HF := Lib.hid (Asc.num_neg d)
    have hl := Asc.digN_lt d
    have HD := Lib.hid (rdigits_any d 18 w (by omega) (by simp at hs; omega))
    have e1 : ((ByteArray.mk (45 :: d).toArray)[0]'(by simp [ByteArray.size])).toNat = 45 := rfl
    have e2 := ext_tail 45 d
    clear hh
    go_enter Tryd.func22, Tryd.ntmps22
    go_wp2_with (go_at_call 40; refine HD.out.mono ?_; rintro e w' ⟨rfl, rfl⟩)
    go_ret2
    exact ⟨ret_nb HF.out.1.symm HF.out.2.symm, rfl⟩
  · have HF := Lib.hid (Asc.num_pos hh)
    have HD := Lib.hid (rdigits_any l 18 w (by omega) hs)
    cases l with
    | nil =>
      clear hh
      go_enter Tryd.func22, Tryd.ntmps22
      go_wp2_with (go_at_call 40; refine HD.out.mono ?_; rintro e w' ⟨rfl, rfl⟩)
      go_ret2
      exact ⟨ret_nb HF.out.1.symm HF.out.2.symm, rfl⟩
    | cons c d =>
      have e1 : (((((ByteArray.mk (c :: d).toArray)[0]'(by simp [ByteArray.size])).toNat : Nat) : Int) == 45) = false := by
        rw [beq_eq_false_iff_ne]
        intro e
        apply hh
        have : c.toNat = 45 := by exact_mod_cast e
        rw [show c = 45 from UInt8.toNat_inj.1 this]; rfl
      clear hh
      go_enter Tryd.func22, Tryd.ntmps22
      go_wp2_with (go_at_call 40; refine HD.out.mono ?_; rintro e w' ⟨rfl, rfl⟩)
      go_ret2
      exact ⟨ret_nb HF.out.1.symm HF.out.2.symm, rfl⟩

end Go.Proofs.YtloilffkggkgdaaDoor

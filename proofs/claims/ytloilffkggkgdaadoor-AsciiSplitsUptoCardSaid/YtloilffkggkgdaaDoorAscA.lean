/-
  within and valid of package ascii, more and sequence of its reference: the length of the valid sequence at the beginning of some bytes.
-/
import Derived.Test.YtloilffkggkgdaaDoorKit
import Derived.Test.YtloilffkggkgdaaDoorAscMath
namespace Go.Proofs.YtloilffkggkgdaaDoor
open Go.RowKit

/-- The cells of some bytes. -/
def BA (w : World) (blk off : Nat) (bs : List UInt8) : Prop := ∀ i, i < bs.length → w.cell? ⟨blk, off + i, none⟩ = some (.int .u8 (Asc.at_ bs i : Nat))
theorem BA.drop {w : World} {blk off : Nat} {bs : List UInt8} (h : BA w blk off bs) (k : Nat) : BA w blk (off + k) (bs.drop k) := fun i hi => by
  rw [List.length_drop] at hi
  have := h (k + i) (by omega)
  have e : Asc.at_ (bs.drop k) i = Asc.at_ bs (k + i) := by unfold Asc.at_; rw [List.getElem?_drop]
  rw [e, show off + k + i = off + (k + i) by omega]
  exact this
theorem BA.below {w w' : World} {blk off : Nat} {bs : List UInt8} (h : BA w blk off bs) (hb : ∀ i, i < bs.length → w'.cell? ⟨blk, off + i, none⟩ = w.cell? ⟨blk, off + i, none⟩) : BA w' blk off bs := fun i hi => (hb i hi).trans (h i hi)

theorem within_yes (blk off cap : Nat) (bs : List UInt8) (i lo hi : Nat) (w : World) (hc : BA w blk off bs) (hi' : i < bs.length) :
    Calls Tryd.prog 59 #[.slice (some ⟨blk, off, none⟩) bs.length cap, .int .i64 i, .int .u8 lo, .int .u8 hi] w fun e w' => e = .returned (.bool (Asc.inAt bs i lo hi)) ∧ w = w' := by
  have c := hc i hi'
  have hf := Lib.hid (Asc.inAt_iff bs i lo hi)
  generalize Asc.inAt bs i lo hi = r at *
  generalize Asc.at_ bs i = x at *
  clear hc
  by_cases a : lo ≤ x
  · by_cases b : x ≤ hi
    · have hr : r = true := hf.out.2 ⟨a, b⟩
      subst hr
      go_enter Tryd.func59, Tryd.ntmps59
      go_wp2_with fail
      go_ret
      exact ⟨rfl, rfl⟩
    · have hr : r = false := by rw [Bool.eq_false_iff]; exact fun e => b (hf.out.1 e).2
      subst hr
      go_enter Tryd.func59, Tryd.ntmps59
      go_wp2_with fail
      go_ret
      exact ⟨ret_bool (by first | rfl | (simp; omega)), rfl⟩
  · have hr : r = false := by rw [Bool.eq_false_iff]; exact fun e => a (hf.out.1 e).1
    subst hr
    go_enter Tryd.func59, Tryd.ntmps59
    go_wp2_with fail
    go_ret
    exact ⟨rfl, rfl⟩

theorem within_no (cap : Nat) (a : Option Addr) (bs : List UInt8) (i lo hi : Nat) (w : World) (hh : hi ≤ 255) (hi' : bs.length ≤ i) :
    Calls Tryd.prog 59 #[.slice a bs.length cap, .int .i64 i, .int .u8 lo, .int .u8 hi] w fun e w' => e = .returned (.bool (Asc.inAt bs i lo hi)) ∧ w = w' := by
  have hf := Lib.hid (show Asc.inAt bs i lo hi = false by rw [Bool.eq_false_iff]; intro e; rw [Asc.inAt_iff, Asc.at_none hi'] at e; omega)
  go_enter Tryd.func59, Tryd.ntmps59
  go_wp2_with fail
  go_ret
  exact ⟨ret_bool hf.out.symm, rfl⟩

theorem within_any (blk off cap : Nat) (bs : List UInt8) (i lo hi : Nat) (w : World) (hc : BA w blk off bs) (hh : hi ≤ 255) :
    Calls Tryd.prog 59 #[.slice (some ⟨blk, off, none⟩) bs.length cap, .int .i64 i, .int .u8 lo, .int .u8 hi] w fun e w' => e = .returned (.bool (Asc.inAt bs i lo hi)) ∧ w = w' := by
  by_cases h : i < bs.length
  · exact within_yes blk off cap bs i lo hi w hc h
  · exact within_no cap _ bs i lo hi w hh (by omega)
theorem within_int (blk off cap : Nat) (bs : List UInt8) (i lo hi : Int) (w : World) (hc : BA w blk off bs) (i0 : 0 ≤ i) (l0 : 0 ≤ lo) (h0 : 0 ≤ hi) (h1 : hi ≤ 255) :
    Calls Tryd.prog 59 #[.slice (some ⟨blk, off, none⟩) bs.length cap, .int .i64 i, .int .u8 lo, .int .u8 hi] w fun e w' => e = .returned (.bool (Asc.inAt bs i.toNat lo.toNat hi.toNat)) ∧ w = w' := by
  obtain ⟨i, rfl⟩ := Int.eq_ofNat_of_zero_le i0
  obtain ⟨lo, rfl⟩ := Int.eq_ofNat_of_zero_le l0
  obtain ⟨hi, rfl⟩ := Int.eq_ofNat_of_zero_le h0
  exact within_any blk off cap bs i lo hi w hc (by omega)

set_option maxHeartbeats 2000000 in
set_option maxRecDepth 100000 in
theorem valid_any (blk off cap : Nat) (bs : List UInt8) (w : World) (h0 : bs ≠ []) (hc : BA w blk off bs) :
    Calls Tryd.prog 46 #[.slice (some ⟨blk, off, none⟩) bs.length cap] w fun e w' => e = .returned (.int .i64 (Asc.vlen bs)) ∧ w = w' := by
  have hpos : 0 < bs.length := List.length_pos_iff.2 h0
  have c0 := hc 0 hpos
  have hle := Asc.at_le hpos
  simp only [Nat.add_zero] at c0
  have HB := Lib.hid hc
  obtain ⟨c, hcv⟩ : ∃ c, Asc.at_ bs 0 = c := ⟨_, rfl⟩
  have HC := Lib.hid hcv
  rw [hcv] at c0 hle
  clear hcv hc h0
  have R : c < 128 ∨ (128 ≤ c ∧ c < 194) ∨ (194 ≤ c ∧ c < 224) ∨ c = 224 ∨ c = 237 ∨ (225 ≤ c ∧ c < 240 ∧ c ≠ 237) ∨ c = 240 ∨ c = 244 ∨ (241 ≤ c ∧ c < 244) ∨ 245 ≤ c := by omega
  rcases R with r | ⟨ra, rb⟩ | ⟨ra, rb⟩ | rfl | rfl | ⟨ra, rb, rc⟩ | rfl | rfl | ⟨ra, rb⟩ | r
  · have hv := Lib.hid (Asc.vlen_1 (show Asc.at_ bs 0 < 128 by rw [HC.out]; exact r))
    go_enter Tryd.func46, Tryd.ntmps46
    go_wp2_with fail
    go_ret
    exact ⟨ret_int (by rw [hv.out]; rfl), rfl⟩
  · have hv := Lib.hid (Asc.vlen_0 (show 128 ≤ Asc.at_ bs 0 by rw [HC.out]; exact ra) (.inl (by rw [HC.out]; exact rb)))
    go_enter Tryd.func46, Tryd.ntmps46
    go_wp2_with fail
    go_ret
    exact ⟨ret_int (by rw [hv.out]; rfl), rfl⟩
  · have hs := Lib.hid (Asc.vshape2 (show 194 ≤ Asc.at_ bs 0 by rw [HC.out]; exact ra) (by rw [HC.out]; exact rb))
    cases h1 : Asc.inAt bs 1 128 191
    · have hv := Lib.hid (hs.out.no1 h1)
      go_enter Tryd.func46, Tryd.ntmps46
      go_wp2_with (go_at_call 59; refine (within_int blk off cap bs _ _ _ _ HB.out (by omega) (by omega) (by omega) (by omega)).mono ?_; rintro e w' ⟨rfl, rfl⟩)
      go_ret
      exact ⟨ret_int (by rw [hv.out]; rfl), rfl⟩
    · have H1 := Lib.hid h1
      go_enter Tryd.func46, Tryd.ntmps46
      go_wp2_with (go_at_call 59; refine (within_int blk off cap bs _ _ _ _ HB.out (by omega) (by omega) (by omega) (by omega)).mono ?_; rintro e w' ⟨rfl, rfl⟩)
      go_loop [7] (fun t => ∃ j : Nat, 2 ≤ j ∧ j ≤ 2 ∧ t = .int .i64 j ∧ ∀ x, 2 ≤ x → x < j → Asc.inAt bs x 128 191 = true) (fun t => 2 - (intOf t).toNat)
      case atStart => exact ⟨2, by omega, by omega, rfl, fun x _ _ => by omega⟩
      case round =>
        obtain ⟨j, hj1, hj2, rfl, hall⟩ := hrel
        have HA := Lib.hid hall
        clear hall
        by_cases hlt : j < 2
        · exact absurd hlt (by omega)
        · obtain rfl : j = 2 := by omega
          have hv := Lib.hid (hs.out.yes H1.out HA.out)
          go_wp2_with fail
          go_ret
          exact ⟨ret_int (by rw [hv.out]; rfl), rfl⟩
  · have hs := Lib.hid (show Asc.VShape bs 3 160 191 by have h := Asc.vshape3 (show 224 ≤ Asc.at_ bs 0 by rw [HC.out]; omega) (by rw [HC.out]; omega); rw [HC.out] at h; exact h)
    cases h1 : Asc.inAt bs 1 160 191
    · have hv := Lib.hid (hs.out.no1 h1)
      go_enter Tryd.func46, Tryd.ntmps46
      go_wp2_with (go_at_call 59; refine (within_int blk off cap bs _ _ _ _ HB.out (by omega) (by omega) (by omega) (by omega)).mono ?_; rintro e w' ⟨rfl, rfl⟩)
      go_ret
      exact ⟨ret_int (by rw [hv.out]; rfl), rfl⟩
    · have H1 := Lib.hid h1
      go_enter Tryd.func46, Tryd.ntmps46
      go_wp2_with (go_at_call 59; refine (within_int blk off cap bs _ _ _ _ HB.out (by omega) (by omega) (by omega) (by omega)).mono ?_; rintro e w' ⟨rfl, rfl⟩)
      go_loop [7] (fun t => ∃ j : Nat, 2 ≤ j ∧ j ≤ 3 ∧ t = .int .i64 j ∧ ∀ x, 2 ≤ x → x < j → Asc.inAt bs x 128 191 = true) (fun t => 3 - (intOf t).toNat)
      case atStart => exact ⟨2, by omega, by omega, rfl, fun x _ _ => by omega⟩
      case round =>
        obtain ⟨j, hj1, hj2, rfl, hall⟩ := hrel
        have HA := Lib.hid hall
        clear hall
        by_cases hlt : j < 3
        · cases hx : Asc.inAt bs j 128 191
          · have hv := Lib.hid (hs.out.nox j hj1 hlt hx)
            go_wp2_with (go_at_call 59; refine (within_int blk off cap bs _ _ _ _ HB.out (by omega) (by omega) (by omega) (by omega)).mono ?_; rintro e w' ⟨rfl, rfl⟩)
            go_ret
            exact ⟨ret_int (by rw [hv.out]; rfl), rfl⟩
          · go_wp2_with (go_at_call 59; refine (within_int blk off cap bs _ _ _ _ HB.out (by omega) (by omega) (by omega) (by omega)).mono ?_; rintro e w' ⟨rfl, rfl⟩)
            go_round
            case rel => exact ⟨j + 1, by omega, by omega, by go_num, fun x hx1 hx2 => by rcases Nat.lt_or_ge x j with c | c; exact HA.out x hx1 c; (obtain rfl : x = j := by omega); exact hx⟩
            case measure => simp [intOf]; omega
        · obtain rfl : j = 3 := by omega
          have hv := Lib.hid (hs.out.yes H1.out HA.out)
          go_wp2_with fail
          go_ret
          exact ⟨ret_int (by rw [hv.out]; rfl), rfl⟩
  · have hs := Lib.hid (show Asc.VShape bs 3 128 159 by have h := Asc.vshape3 (show 224 ≤ Asc.at_ bs 0 by rw [HC.out]; omega) (by rw [HC.out]; omega); rw [HC.out] at h; exact h)
    cases h1 : Asc.inAt bs 1 128 159
    · have hv := Lib.hid (hs.out.no1 h1)
      go_enter Tryd.func46, Tryd.ntmps46
      go_wp2_with (go_at_call 59; refine (within_int blk off cap bs _ _ _ _ HB.out (by omega) (by omega) (by omega) (by omega)).mono ?_; rintro e w' ⟨rfl, rfl⟩)
      go_ret
      exact ⟨ret_int (by rw [hv.out]; rfl), rfl⟩
    · have H1 := Lib.hid h1
      go_enter Tryd.func46, Tryd.ntmps46
      go_wp2_with (go_at_call 59; refine (within_int blk off cap bs _ _ _ _ HB.out (by omega) (by omega) (by omega) (by omega)).mono ?_; rintro e w' ⟨rfl, rfl⟩)
      go_loop [7] (fun t => ∃ j : Nat, 2 ≤ j ∧ j ≤ 3 ∧ t = .int .i64 j ∧ ∀ x, 2 ≤ x → x < j → Asc.inAt bs x 128 191 = true) (fun t => 3 - (intOf t).toNat)
      case atStart => exact ⟨2, by omega, by omega, rfl, fun x _ _ => by omega⟩
      case round =>
        obtain ⟨j, hj1, hj2, rfl, hall⟩ := hrel
        have HA := Lib.hid hall
        clear hall
        by_cases hlt : j < 3
        · cases hx : Asc.inAt bs j 128 191
          · have hv := Lib.hid (hs.out.nox j hj1 hlt hx)
            go_wp2_with (go_at_call 59; refine (within_int blk off cap bs _ _ _ _ HB.out (by omega) (by omega) (by omega) (by omega)).mono ?_; rintro e w' ⟨rfl, rfl⟩)
            go_ret
            exact ⟨ret_int (by rw [hv.out]; rfl), rfl⟩
          · go_wp2_with (go_at_call 59; refine (within_int blk off cap bs _ _ _ _ HB.out (by omega) (by omega) (by omega) (by omega)).mono ?_; rintro e w' ⟨rfl, rfl⟩)
            go_round
            case rel => exact ⟨j + 1, by omega, by omega, by go_num, fun x hx1 hx2 => by rcases Nat.lt_or_ge x j with c | c; exact HA.out x hx1 c; (obtain rfl : x = j := by omega); exact hx⟩
            case measure => simp [intOf]; omega
        · obtain rfl : j = 3 := by omega
          have hv := Lib.hid (hs.out.yes H1.out HA.out)
          go_wp2_with fail
          go_ret
          exact ⟨ret_int (by rw [hv.out]; rfl), rfl⟩
  · have r1 : ((c : Int) == 224) = false := by rw [beq_eq_false_iff_ne]; omega
    have r2 : ((c : Int) == 237) = false := by rw [beq_eq_false_iff_ne]; omega
    have hs := Lib.hid (show Asc.VShape bs 3 128 191 by have h := Asc.vshape3 (show 224 ≤ Asc.at_ bs 0 by rw [HC.out]; omega) (by rw [HC.out]; omega); rw [HC.out] at h; unfold Asc.lo1 Asc.hi1 at h; rw [if_neg (by omega), if_neg (by omega), if_neg (by omega), if_neg (by omega)] at h; exact h)
    cases h1 : Asc.inAt bs 1 128 191
    · have hv := Lib.hid (hs.out.no1 h1)
      go_enter Tryd.func46, Tryd.ntmps46
      go_wp2_with (go_at_call 59; refine (within_int blk off cap bs _ _ _ _ HB.out (by omega) (by omega) (by omega) (by omega)).mono ?_; rintro e w' ⟨rfl, rfl⟩)
      go_ret
      exact ⟨ret_int (by rw [hv.out]; rfl), rfl⟩
    · have H1 := Lib.hid h1
      go_enter Tryd.func46, Tryd.ntmps46
      go_wp2_with (go_at_call 59; refine (within_int blk off cap bs _ _ _ _ HB.out (by omega) (by omega) (by omega) (by omega)).mono ?_; rintro e w' ⟨rfl, rfl⟩)
      go_loop [7] (fun t => ∃ j : Nat, 2 ≤ j ∧ j ≤ 3 ∧ t = .int .i64 j ∧ ∀ x, 2 ≤ x → x < j → Asc.inAt bs x 128 191 = true) (fun t => 3 - (intOf t).toNat)
      case atStart => exact ⟨2, by omega, by omega, rfl, fun x _ _ => by omega⟩
      case round =>
        obtain ⟨j, hj1, hj2, rfl, hall⟩ := hrel
        have HA := Lib.hid hall
        clear hall
        by_cases hlt : j < 3
        · cases hx : Asc.inAt bs j 128 191
          · have hv := Lib.hid (hs.out.nox j hj1 hlt hx)
            go_wp2_with (go_at_call 59; refine (within_int blk off cap bs _ _ _ _ HB.out (by omega) (by omega) (by omega) (by omega)).mono ?_; rintro e w' ⟨rfl, rfl⟩)
            go_ret
            exact ⟨ret_int (by rw [hv.out]; rfl), rfl⟩
          · go_wp2_with (go_at_call 59; refine (within_int blk off cap bs _ _ _ _ HB.out (by omega) (by omega) (by omega) (by omega)).mono ?_; rintro e w' ⟨rfl, rfl⟩)
            go_round
            case rel => exact ⟨j + 1, by omega, by omega, by go_num, fun x hx1 hx2 => by rcases Nat.lt_or_ge x j with c | c; exact HA.out x hx1 c; (obtain rfl : x = j := by omega); exact hx⟩
            case measure => simp [intOf]; omega
        · obtain rfl : j = 3 := by omega
          have hv := Lib.hid (hs.out.yes H1.out HA.out)
          go_wp2_with fail
          go_ret
          exact ⟨ret_int (by rw [hv.out]; rfl), rfl⟩
  · have hs := Lib.hid (show Asc.VShape bs 4 144 191 by have h := Asc.vshape4 (show 240 ≤ Asc.at_ bs 0 by rw [HC.out]; omega) (by rw [HC.out]; omega); rw [HC.out] at h; exact h)
    cases h1 : Asc.inAt bs 1 144 191
    · have hv := Lib.hid (hs.out.no1 h1)
      go_enter Tryd.func46, Tryd.ntmps46
      go_wp2_with (go_at_call 59; refine (within_int blk off cap bs _ _ _ _ HB.out (by omega) (by omega) (by omega) (by omega)).mono ?_; rintro e w' ⟨rfl, rfl⟩)
      go_ret
      exact ⟨ret_int (by rw [hv.out]; rfl), rfl⟩
    · have H1 := Lib.hid h1
      go_enter Tryd.func46, Tryd.ntmps46
      go_wp2_with (go_at_call 59; refine (within_int blk off cap bs _ _ _ _ HB.out (by omega) (by omega) (by omega) (by omega)).mono ?_; rintro e w' ⟨rfl, rfl⟩)
      go_loop [7] (fun t => ∃ j : Nat, 2 ≤ j ∧ j ≤ 4 ∧ t = .int .i64 j ∧ ∀ x, 2 ≤ x → x < j → Asc.inAt bs x 128 191 = true) (fun t => 4 - (intOf t).toNat)
      case atStart => exact ⟨2, by omega, by omega, rfl, fun x _ _ => by omega⟩
      case round =>
        obtain ⟨j, hj1, hj2, rfl, hall⟩ := hrel
        have HA := Lib.hid hall
        clear hall
        by_cases hlt : j < 4
        · cases hx : Asc.inAt bs j 128 191
          · have hv := Lib.hid (hs.out.nox j hj1 hlt hx)
            go_wp2_with (go_at_call 59; refine (within_int blk off cap bs _ _ _ _ HB.out (by omega) (by omega) (by omega) (by omega)).mono ?_; rintro e w' ⟨rfl, rfl⟩)
            go_ret
            exact ⟨ret_int (by rw [hv.out]; rfl), rfl⟩
          · go_wp2_with (go_at_call 59; refine (within_int blk off cap bs _ _ _ _ HB.out (by omega) (by omega) (by omega) (by omega)).mono ?_; rintro e w' ⟨rfl, rfl⟩)
            go_round
            case rel => exact ⟨j + 1, by omega, by omega, by go_num, fun x hx1 hx2 => by rcases Nat.lt_or_ge x j with c | c; exact HA.out x hx1 c; (obtain rfl : x = j := by omega); exact hx⟩
            case measure => simp [intOf]; omega
        · obtain rfl : j = 4 := by omega
          have hv := Lib.hid (hs.out.yes H1.out HA.out)
          go_wp2_with fail
          go_ret
          exact ⟨ret_int (by rw [hv.out]; rfl), rfl⟩
  · have hs := Lib.hid (show Asc.VShape bs 4 128 143 by have h := Asc.vshape4 (show 240 ≤ Asc.at_ bs 0 by rw [HC.out]; omega) (by rw [HC.out]; omega); rw [HC.out] at h; exact h)
    cases h1 : Asc.inAt bs 1 128 143
    · have hv := Lib.hid (hs.out.no1 h1)
      go_enter Tryd.func46, Tryd.ntmps46
      go_wp2_with (go_at_call 59; refine (within_int blk off cap bs _ _ _ _ HB.out (by omega) (by omega) (by omega) (by omega)).mono ?_; rintro e w' ⟨rfl, rfl⟩)
      go_ret
      exact ⟨ret_int (by rw [hv.out]; rfl), rfl⟩
    · have H1 := Lib.hid h1
      go_enter Tryd.func46, Tryd.ntmps46
      go_wp2_with (go_at_call 59; refine (within_int blk off cap bs _ _ _ _ HB.out (by omega) (by omega) (by omega) (by omega)).mono ?_; rintro e w' ⟨rfl, rfl⟩)
      go_loop [7] (fun t => ∃ j : Nat, 2 ≤ j ∧ j ≤ 4 ∧ t = .int .i64 j ∧ ∀ x, 2 ≤ x → x < j → Asc.inAt bs x 128 191 = true) (fun t => 4 - (intOf t).toNat)
      case atStart => exact ⟨2, by omega, by omega, rfl, fun x _ _ => by omega⟩
      case round =>
        obtain ⟨j, hj1, hj2, rfl, hall⟩ := hrel
        have HA := Lib.hid hall
        clear hall
        by_cases hlt : j < 4
        · cases hx : Asc.inAt bs j 128 191
          · have hv := Lib.hid (hs.out.nox j hj1 hlt hx)
            go_wp2_with (go_at_call 59; refine (within_int blk off cap bs _ _ _ _ HB.out (by omega) (by omega) (by omega) (by omega)).mono ?_; rintro e w' ⟨rfl, rfl⟩)
            go_ret
            exact ⟨ret_int (by rw [hv.out]; rfl), rfl⟩
          · go_wp2_with (go_at_call 59; refine (within_int blk off cap bs _ _ _ _ HB.out (by omega) (by omega) (by omega) (by omega)).mono ?_; rintro e w' ⟨rfl, rfl⟩)
            go_round
            case rel => exact ⟨j + 1, by omega, by omega, by go_num, fun x hx1 hx2 => by rcases Nat.lt_or_ge x j with c | c; exact HA.out x hx1 c; (obtain rfl : x = j := by omega); exact hx⟩
            case measure => simp [intOf]; omega
        · obtain rfl : j = 4 := by omega
          have hv := Lib.hid (hs.out.yes H1.out HA.out)
          go_wp2_with fail
          go_ret
          exact ⟨ret_int (by rw [hv.out]; rfl), rfl⟩
  · have r1 : ((c : Int) == 240) = false := by rw [beq_eq_false_iff_ne]; omega
    have r2 : ((c : Int) == 244) = false := by rw [beq_eq_false_iff_ne]; omega
    have hs := Lib.hid (show Asc.VShape bs 4 128 191 by have h := Asc.vshape4 (show 240 ≤ Asc.at_ bs 0 by rw [HC.out]; omega) (by rw [HC.out]; omega); rw [HC.out] at h; unfold Asc.lo1 Asc.hi1 at h; rw [if_neg (by omega), if_neg (by omega), if_neg (by omega), if_neg (by omega)] at h; exact h)
    cases h1 : Asc.inAt bs 1 128 191
    · have hv := Lib.hid (hs.out.no1 h1)
      go_enter Tryd.func46, Tryd.ntmps46
      go_wp2_with (go_at_call 59; refine (within_int blk off cap bs _ _ _ _ HB.out (by omega) (by omega) (by omega) (by omega)).mono ?_; rintro e w' ⟨rfl, rfl⟩)
      go_ret
      exact ⟨ret_int (by rw [hv.out]; rfl), rfl⟩
    · have H1 := Lib.hid h1
      go_enter Tryd.func46, Tryd.ntmps46
      go_wp2_with (go_at_call 59; refine (within_int blk off cap bs _ _ _ _ HB.out (by omega) (by omega) (by omega) (by omega)).mono ?_; rintro e w' ⟨rfl, rfl⟩)
      go_loop [7] (fun t => ∃ j : Nat, 2 ≤ j ∧ j ≤ 4 ∧ t = .int .i64 j ∧ ∀ x, 2 ≤ x → x < j → Asc.inAt bs x 128 191 = true) (fun t => 4 - (intOf t).toNat)
      case atStart => exact ⟨2, by omega, by omega, rfl, fun x _ _ => by omega⟩
      case round =>
        obtain ⟨j, hj1, hj2, rfl, hall⟩ := hrel
        have HA := Lib.hid hall
        clear hall
        by_cases hlt : j < 4
        · cases hx : Asc.inAt bs j 128 191
          · have hv := Lib.hid (hs.out.nox j hj1 hlt hx)
            go_wp2_with (go_at_call 59; refine (within_int blk off cap bs _ _ _ _ HB.out (by omega) (by omega) (by omega) (by omega)).mono ?_; rintro e w' ⟨rfl, rfl⟩)
            go_ret
            exact ⟨ret_int (by rw [hv.out]; rfl), rfl⟩
          · go_wp2_with (go_at_call 59; refine (within_int blk off cap bs _ _ _ _ HB.out (by omega) (by omega) (by omega) (by omega)).mono ?_; rintro e w' ⟨rfl, rfl⟩)
            go_round
            case rel => exact ⟨j + 1, by omega, by omega, by go_num, fun x hx1 hx2 => by rcases Nat.lt_or_ge x j with c | c; exact HA.out x hx1 c; (obtain rfl : x = j := by omega); exact hx⟩
            case measure => simp [intOf]; omega
        · obtain rfl : j = 4 := by omega
          have hv := Lib.hid (hs.out.yes H1.out HA.out)
          go_wp2_with fail
          go_ret
          exact ⟨ret_int (by rw [hv.out]; rfl), rfl⟩
  · have hv := Lib.hid (Asc.vlen_0 (show 128 ≤ Asc.at_ bs 0 by rw [HC.out]; omega) (.inr (by rw [HC.out]; exact r)))
    go_enter Tryd.func46, Tryd.ntmps46
    go_wp2_with fail
    go_ret
    exact ⟨ret_int (by rw [hv.out]; rfl), rfl⟩

end Go.Proofs.YtloilffkggkgdaaDoor

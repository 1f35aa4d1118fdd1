/-
  awake (the sanity check of the laws of chapter 1) is true; AsciiClasses' walk.
-/
import Derived.Test.YtloilffkggkgdaaDoorAscH
namespace Go.Proofs.YtloilffkggkgdaaDoor
open Go.RowKit

theorem repair_calls (blk off cap : Nat) (bs : List UInt8) (w : World) (hcap : bs.length ≤ cap) (hlen : bs.length ≤ 140737488351232) (hblk : blk < w.heap.size) (hc : BA w blk off bs) :
    Calls Tryd.prog 10 #[.slice (some ⟨blk, off, none⟩) bs.length cap] w fun e w' => e = .returned (.tuple #[.string ⟨(Asc.repL bs).toArray⟩, .int .i64 (Asc.badL bs : Nat)]) ∧ Below w.heap.size w w' :=
  callsIn_wide.1 (repair_in blk off cap bs w hcap hlen hblk hc)

theorem ba_three (w : World) : BA (w.alloc (.cells #[.int .u8 97, .int .u8 200, .int .u8 98] 5)) w.heap.size 0 [97, 200, 98] := by
  intro i hi
  rw [Lib.cell_of_heap (World.alloc_heap_new w _)]
  match i, hi with
  | 0, _ => rfl
  | 1, _ => rfl
  | 2, _ => rfl

theorem awake_any (w : World) (hk : Kinds w) : Calls Tryd.prog 9 #[] w fun e w' => e = .returned (.bool true) ∧ Below w.heap.size w w' := by
  have HR := Lib.hid (repair_calls w.heap.size 0 3 [97, 200, 98] (w.alloc (.cells #[.int .u8 97, .int .u8 200, .int .u8 98] 5)) (by decide) (by decide) (by simp) (ba_three w))
  have e1 : Asc.repL [97, 200, 98] = [97, 63, 98] := by decide +kernel
  have e2 : Asc.badL [97, 200, 98] = 1 := by decide +kernel
  have e3 : Asc.numN [45, 48, 48, 55] = -7 := by decide +kernel
  have e4 : Asc.numB [45, 48, 48, 55] = true := by decide +kernel
  rw [e1, e2] at HR
  have HN : Hid (∀ w, Kinds w → Calls Tryd.prog 21 #[.string ⟨#[45, 48, 48, 55]⟩] w fun e w' => e = .returned (.tuple #[.int .i64 (-7), .bool true]) ∧ Below w.heap.size w w') := by
    show ∀ w, _
    intro w hw
    have := number_any [45, 48, 48, 55] w hw
    rw [e3, e4] at this
    exact this
  have HK := Lib.hid (hk.alloc (.cells #[.int .u8 97, .int .u8 200, .int .u8 98] 5))
  clear e1 e2 e3 e4 hk
  go_enter Tryd.func9, Tryd.ntmps9
  go_wp2_with (go_at_call 10; refine HR.out.mono ?_; rintro e w1 ⟨rfl, hb1⟩)
  refine (HN.out w1 (HK.out.below hb1)).mono ?_
  rintro e w2 ⟨rfl, hb2⟩
  go_wp2_with fail
  go_ret
  exact ⟨rfl, (((Below.refl _ _).alloc (Nat.le_refl _) _).trans (hb1.mono (by simp))).trans (hb2.mono (by have := hb1.size; simp at this; omega))⟩

set_option maxRecDepth 100000 in
set_option maxHeartbeats 1000000 in
theorem classes_nat (c : Nat) (w : World) (hk : Kinds w) : Calls Tryd.prog 4 #[.int .u8 c] w fun e w' => e = .returned (.bool true) ∧ Below w.heap.size w w' := by
  have HA := Lib.hid (awake_any w hk)
  have HK := Lib.hid hk
  clear hk
  go_enter Tryd.func4, Tryd.ntmps4
  go_wp2_with (go_at_call 9; refine HA.out.mono ?_; rintro e w1 ⟨rfl, hb1⟩)
  have HK1 := Lib.hid (HK.out.below hb1)
  go_loop [3] (fun i => ∃ k : Nat, k ≤ 256 ∧ i = .int .i64 k) (fun i => 256 - (intOf i).toNat)
  case atStart => exact ⟨0, by omega, rfl⟩
  case round =>
    obtain ⟨k, hk, rfl⟩ := hrel
    by_cases hlt : k < 256
    · obtain ⟨b, hb, hx⟩ : ∃ b : Nat, b < 256 ∧ ((k : Int) + (c : Int)) % 256 = (b : Int) := ⟨(k + c) % 256, by omega, by omega⟩
      have HD := Lib.hid (digit_any b w1 hb HK1.out)
      have HL := Lib.hid (letter_any b w1 hb HK1.out)
      have HW := Lib.hid (word_any b w1 hb HK1.out)
      have HS := Lib.hid (space_any b w1 hb HK1.out)
      go_wp2_with (first | (go_at_call 12; refine HD.out.mono ?_; rintro e w' ⟨rfl, rfl⟩) | (go_at_call 13; refine (rdigit_any b _ hb).mono ?_; rintro e w' ⟨rfl, rfl⟩) | (go_at_call 14; refine HL.out.mono ?_; rintro e w' ⟨rfl, rfl⟩) | (go_at_call 15; refine (rletter_any b _ hb).mono ?_; rintro e w' ⟨rfl, rfl⟩) | (go_at_call 16; refine HW.out.mono ?_; rintro e w' ⟨rfl, rfl⟩) | (go_at_call 17; refine (rword_any b _ hb).mono ?_; rintro e w' ⟨rfl, rfl⟩) | (go_at_call 18; refine HS.out.mono ?_; rintro e w' ⟨rfl, rfl⟩) | (go_at_call 19; refine (rspace_any b _ hb).mono ?_; rintro e w' ⟨rfl, rfl⟩))
      go_round
      case rel => exact ⟨k + 1, by omega, by go_num⟩
      case measure => simp [intOf]; omega
    · go_wp2_with fail
      go_ret
      exact ⟨rfl, hb1⟩

theorem u8_nat {x : Int} (wx : (Lit.int .u8 x).wf = true) : ∃ c : Nat, c < 256 ∧ x = (c : Int) := by
  have h : 0 ≤ x ∧ x ≤ 255 := by
    have h' := wx
    unfold Lit.wf at h'
    rw [Bool.and_eq_true, decide_eq_true_iff, decide_eq_true_iff] at h'
    exact h'
  exact ⟨x.toNat, by omega, by omega⟩
/-- AsciiClasses is true. -/
theorem classes_any (x : Int) (wx : (Lit.int .u8 x).wf = true) (w : World) (hk : Kinds w) : Calls Tryd.prog 4 #[.int .u8 x] w fun e w' => e = .returned (.bool true) ∧ Below w.heap.size w w' := by
  obtain ⟨c, _, rfl⟩ := u8_nat wx
  exact classes_nat c w hk

end Go.Proofs.YtloilffkggkgdaaDoor

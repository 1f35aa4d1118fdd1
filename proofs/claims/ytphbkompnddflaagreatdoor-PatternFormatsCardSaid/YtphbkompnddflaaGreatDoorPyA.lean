/-
  Bytes that are printed, a byte in a short string: what the reading and the writing of patterns share.
-/
import Derived.Test.YtphbkompnddflaaGreatDoorPatYh
namespace Go.Proofs.YtphbkompnddflaaGreatDoor
open Go.RowKit

set_option maxHeartbeats 4000000 in
set_option maxRecDepth 1000000 in
theorem printable_low (c : Nat) (w : World) (h : c < 32) : Calls Tryz.prog 75 #[.int .u8 (c : Int)] w fun e w' => e = .returned (.bool false) ∧ w = w' := by
  have z1 : decide ((32 : Int) ≤ (c : Int)) = false := decide_eq_false (by omega)
  have y1 : decide (32 ≤ c) = false := decide_eq_false (by omega)
  go_enter Tryz.func75, Tryz.ntmps75
  go_wp2_with fail
  go_ret
  exact ⟨rfl, rfl⟩
set_option maxHeartbeats 4000000 in
set_option maxRecDepth 1000000 in
theorem printable_high (c : Nat) (w : World) (h : 126 < c) : Calls Tryz.prog 75 #[.int .u8 (c : Int)] w fun e w' => e = .returned (.bool false) ∧ w = w' := by
  have z1 : decide ((32 : Int) ≤ (c : Int)) = true := decide_eq_true (by omega)
  have y1 : decide (32 ≤ c) = true := decide_eq_true (by omega)
  have z2 : decide ((c : Int) ≤ 126) = false := decide_eq_false (by omega)
  have y2 : decide (c ≤ 126) = false := decide_eq_false (by omega)
  go_enter Tryz.func75, Tryz.ntmps75
  go_wp2_with fail
  go_ret
  exact ⟨rfl, rfl⟩
theorem printable_no (c : Nat) (w : World) (h : c < 32 ∨ 126 < c) : Calls Tryz.prog 75 #[.int .u8 (c : Int)] w fun e w' => e = .returned (.bool false) ∧ w = w' := by
  rcases h with h | h
  · exact printable_low c w h
  · exact printable_high c w h

theorem ib_no (s : List UInt8) (c : UInt8) (w : World) (h : c ∉ s) : Calls Tryz.prog 76 #[.string ⟨s.toArray⟩, .int .u8 (c.toNat : Int)] w fun e w' => e = .returned (.int .i64 (-1)) ∧ w = w' := by
  refine (ibyte_any _ _ w).mono ?_
  rintro e w' ⟨rfl, rfl⟩
  refine ⟨?_, rfl⟩
  show Ending.returned (.int .i64 (Lib.indexByte s _)) = _
  rw [u8_of, Asc.indexByte_pos, if_neg (Asc.pos_none fun j hj => fun e => h (by rw [← e]; exact List.getElem_mem hj))]
theorem ib_yes (s : List UInt8) (c : UInt8) (w : World) (h : c ∈ s) : Calls Tryz.prog 76 #[.string ⟨s.toArray⟩, .int .u8 (c.toNat : Int)] w fun e w' => e = .returned (.int .i64 (Asc.pos s c : Int)) ∧ w = w' := by
  refine (ibyte_any _ _ w).mono ?_
  rintro e w' ⟨rfl, rfl⟩
  refine ⟨?_, rfl⟩
  show Ending.returned (.int .i64 (Lib.indexByte s _)) = _
  have hp : Asc.pos s c < s.length := by
    unfold Asc.pos
    rw [List.findIdx_lt_length]
    exact ⟨c, h, by simp⟩
  rw [u8_of, Asc.indexByte_pos, if_pos hp]
def oddL : List UInt8 := [93, 45, 94, 92]
end Go.Proofs.YtphbkompnddflaaGreatDoor

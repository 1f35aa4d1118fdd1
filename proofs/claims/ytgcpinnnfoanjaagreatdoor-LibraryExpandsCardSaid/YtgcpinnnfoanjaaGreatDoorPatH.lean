/-
  The shape of a node, for the reference (Empty, Class, Concat).
-/
import Derived.Test.YtgcpinnnfoanjaaGreatDoorPatG
import Derived.Test.YtgcpinnnfoanjaaGreatDoorPatF
import Derived.BigQuiet
namespace Go.Proofs.YtgcpinnnfoanjaaGreatDoor
open Go.RowKit

noncomputable def badR (mn mx : Int) : Bool := decide (mn < 0 ∨ 40 < mn ∨ (mx ≠ -1 ∧ (mx < mn ∨ 40 < mx)))
/-- The error of a node without its kids. -/
noncomputable def shE (op : Int) (rs : List (UInt8 × UInt8)) (nm : List UInt8) (n : Nat) (mn mx : Int) : Nat :=
  if shpB op rs nm n mn mx = false then 1 else if op = 5 ∧ nmB nm = false then 6 else if op = 4 ∧ badR mn mx = true then 2 else 0
theorem shp_0 (rs : List (UInt8 × UInt8)) (nm : List UInt8) (n : Nat) (mn mx : Int) : shpB 0 rs nm n mn mx = (decide (n = 0) && bareB 0 rs nm mn mx) := by unfold shpB bareB; simp
theorem shp_6 (rs : List (UInt8 × UInt8)) (nm : List UInt8) (n : Nat) (mn mx : Int) : shpB 6 rs nm n mn mx = (decide (n = 0) && bareB 6 rs nm mn mx) := by unfold shpB bareB; simp
theorem shp_7 (rs : List (UInt8 × UInt8)) (nm : List UInt8) (n : Nat) (mn mx : Int) : shpB 7 rs nm n mn mx = (decide (n = 0) && bareB 7 rs nm mn mx) := by unfold shpB bareB; simp
theorem shp_1 (rs : List (UInt8 × UInt8)) (nm : List UInt8) (n : Nat) (mn mx : Int) : shpB 1 rs nm n mn mx = (decide (n = 0) && (srtB rs && bareB 1 rs nm mn mx)) := by unfold shpB bareB; simp
theorem shp_2 (rs : List (UInt8 × UInt8)) (nm : List UInt8) (n : Nat) (mn mx : Int) : shpB 2 rs nm n mn mx = (decide (2 ≤ n) && bareB 2 rs nm mn mx) := by unfold shpB bareB; simp
theorem shp_3 (rs : List (UInt8 × UInt8)) (nm : List UInt8) (n : Nat) (mn mx : Int) : shpB 3 rs nm n mn mx = (decide (2 ≤ n) && bareB 3 rs nm mn mx) := by unfold shpB bareB; simp
theorem shp_4 (rs : List (UInt8 × UInt8)) (nm : List UInt8) (n : Nat) (mn mx : Int) : shpB 4 rs nm n mn mx = (decide (n = 1) && bareB 4 rs nm mn mx) := by unfold shpB bareB; simp
theorem shp_5 (rs : List (UInt8 × UInt8)) (nm : List UInt8) (n : Nat) (mn mx : Int) : shpB 5 rs nm n mn mx = (decide (n = 1) && bareB 5 rs nm mn mx) := by unfold shpB bareB; simp
end Go.Proofs.YtgcpinnnfoanjaaGreatDoor

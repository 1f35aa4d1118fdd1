/-
  Decimal and padded, of the program and of its reference: the decimal numeral, with zeros ahead of it.
-/
import Derived.Test.YtplbaffcgkjmjaaDoorCalB
import Derived.Test.YtplbaffcgkjmjaaDoorShelf
import Derived.Lib.AppendIntMem
import Derived.Lib.ItoaLen
import Derived.Lib.LaidTab
import Derived.Lib.QuietBelow
namespace Go.Proofs.YtplbaffcgkjmjaaDoor
open Go.RowKit

/-- The table of the powers of ten is laid. -/
def Pow (w : World) : Prop := Lib.TabIs Tryd.prog w "internal/strconv.uint64pow10" .u64 Lib.pow10Tab
theorem Pow.below {w w' : World} (h : Pow w) (hb : Below w.heap.size w w') : Pow w' := by
  have hg : Tryd.prog.globalNamed "internal/strconv.uint64pow10" = some 1 := by kernel_rfl
  have hc := Lib.TabIs.cell h hg 0 (by decide)
  exact var?_below hb hg (World.block_lt_of_cell? w _ hc) h

def padL (n : Int) (k : Nat) : List UInt8 := List.replicate (k - (Lib.itoa n).length) 48 ++ Lib.itoa n

theorem decimal_any (n : Int) (w : World) (h0 : -9223372036854775808 ≤ n) (h1 : n ≤ 9223372036854775807) (hp : Pow w) :
    Calls Tryd.prog 32 #[.int .i64 n] w fun e w' => e = .returned (.string ⟨(Lib.itoa n).toArray⟩) ∧ Below w.heap.size w w' := by
  have hc := Lib.hid (Tryd.strconv_Itoa n h0 h1 w hp)
  go_enter Tryd.func32, Tryd.ntmps32
  go_wp2_with (go_at_call 35; refine hc.out.mono ?_; rintro e w1 ⟨rfl, k, os, rfl⟩)
  go_ret
  exact ⟨rfl, Lib.below_grow _ _ (Nat.le_refl _) _ _⟩

theorem padded_any (n : Int) (k : Nat) (w : World) (h0 : -9223372036854775808 ≤ n) (h1 : n ≤ 9223372036854775807) (hk : k ≤ 25) (hp : Pow w) :
    Calls Tryd.prog 28 #[.int .i64 n, .int .i64 k] w fun e w' => e = .returned (.string ⟨(padL n k).toArray⟩) ∧ Below w.heap.size w w' := by
  have hc := Lib.hid (decimal_any n w h0 h1 hp)
  have hl := Lib.itoa_length_le n h0 h1
  clear h0 h1
  go_enter Tryd.func28, Tryd.ntmps28
  go_wp2_with (go_at_call 32; refine hc.out.mono ?_; rintro e w1 ⟨rfl, hb⟩)
  go_loop [5] (fun t => ∃ j : Nat, j ≤ k - (Lib.itoa n).length ∧ t = .string ⟨(List.replicate j 48 ++ Lib.itoa n).toArray⟩) (fun t => 100 - strLen t)
  case atStart => exact ⟨0, by omega, by simp⟩
  case round =>
    obtain ⟨j, hj, rfl⟩ := hrel
    go_wp2
    · have hlt : (j : Int) + ((Lib.itoa n).length : Int) < (k : Int) := by assumption
      refine ⟨⟨j + 1, by omega, ?_⟩, ?_⟩
      · rw [ba_app, List.replicate_succ]; rfl
      · rw [ba_app]; simp [strLen, ba_size]; omega
    · have hge : (k : Int) ≤ (j : Int) + ((Lib.itoa n).length : Int) := by assumption
      go_ret
      refine ⟨ret_str ?_, hb⟩
      unfold padL
      rw [show j = k - (Lib.itoa n).length by omega]

end Go.Proofs.YtplbaffcgkjmjaaDoor

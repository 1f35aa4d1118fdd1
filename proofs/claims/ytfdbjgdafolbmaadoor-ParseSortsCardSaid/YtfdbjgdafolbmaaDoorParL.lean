/-
  ParseQuotes' walk for every input.
-/
import Derived.Test.YtfdbjgdafolbmaaDoorParK
namespace Go.Proofs.YtfdbjgdafolbmaaDoor
open Go.RowKit

set_option maxRecDepth 100000 in
set_option maxHeartbeats 1000000 in
theorem quotes_any (v : Value) (l : List (List UInt8)) (sep : UInt8) (p : Nat) (w : World) (hk : Kinds w) (hl : SSI w v l) (hp : p < 256) (hlen : l.length ≤ 9223372036854775807) :
    Calls Tryd.prog 5 #[v, .int .u8 sep.toNat, .int .u8 p] w fun e w' => e = .returned (.bool true) ∧ Below w.heap.size w w' := by
  by_cases h0 : l.length = 0
  · have HA := Lib.hid (awake_any w hk)
    obtain ⟨a, cap, rfl, hl⟩ := hl
    rw [h0]
    clear hl hk
    go_enter Tryd.func5, Tryd.ntmps5
    go_wp2_with (go_at_call 7; refine HA.out.mono ?_; rintro e w1 ⟨rfl, hb1⟩)
    go_ret
    exact ⟨rfl, hb1⟩
  · have t4 : ((l.length : Int) == 0) = false := by rw [beq_eq_false_iff_ne]; omega
    by_cases h20 : l.length ≤ 20
    · have t5 : decide (20 < (l.length : Int)) = false := by simp; omega
      by_cases hs : sep = 34 ∨ sep = 10 ∨ sep = 13
      · have HA := Lib.hid (awake_any w hk)
        obtain ⟨a, cap, rfl, hl⟩ := hl
        clear hl hk
        rcases hs with rfl | rfl | rfl
        all_goals
          go_enter Tryd.func5, Tryd.ntmps5
          go_wp2_with (go_at_call 7; refine HA.out.mono ?_; rintro e w1 ⟨rfl, hb1⟩)
          go_ret
          exact ⟨rfl, hb1⟩
      · exact quotes_main v l sep p w hk hl (by omega) h20 (fun e => hs (.inl e)) (fun e => hs (.inr (.inl e))) (fun e => hs (.inr (.inr e))) hp
    · have t5 : decide (20 < (l.length : Int)) = true := by simp; omega
      have HA := Lib.hid (awake_any w hk)
      obtain ⟨a, cap, rfl, hl⟩ := hl
      clear hl hk
      go_enter Tryd.func5, Tryd.ntmps5
      go_wp2_with (go_at_call 7; refine HA.out.mono ?_; rintro e w1 ⟨rfl, hb1⟩)
      go_ret
      exact ⟨rfl, hb1⟩

end Go.Proofs.YtfdbjgdafolbmaaDoor

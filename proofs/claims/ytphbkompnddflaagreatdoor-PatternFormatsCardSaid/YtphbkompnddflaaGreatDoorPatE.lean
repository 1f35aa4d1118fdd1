/-
  A name for the reference; the shape of a node for the program.
-/
import Derived.Test.YtphbkompnddflaaGreatDoorPatD
namespace Go.Proofs.YtphbkompnddflaaGreatDoor
open Go.RowKit

set_option maxRecDepth 100000 in
set_option maxHeartbeats 2000000 in
theorem rname_any (l : List UInt8) (w : World) (hml : l.length ≤ 9223372036854775807) :
    Calls Tryz.prog 71 #[.string ⟨l.toArray⟩, .int .i64 32] w fun e w' => e = .returned (.bool (nmB l)) ∧ w = w' := by
  rcases Nat.eq_zero_or_pos l.length with h0 | hpos
  · obtain rfl := List.length_eq_zero_iff.1 h0
    rw [nmB_no (fun h => by have := h.1; simp at this)]
    clear h0 hml
    go_enter Tryz.func71, Tryz.ntmps71
    go_wp2_with fail
    go_ret
    exact ⟨rfl, rfl⟩
  · have z0 : decide ((l.length : Int) < 1) = false := decide_eq_false (by omega)
    by_cases h32 : 32 < l.length
    · have z1 : decide ((32 : Int) < (l.length : Int)) = true := decide_eq_true (by omega)
      rw [nmB_no (fun h => by have := h.2.1; omega)]
      go_enter Tryz.func71, Tryz.ntmps71
      go_wp2_with fail
      go_ret
      exact ⟨rfl, rfl⟩
    · have z1 : decide ((32 : Int) < (l.length : Int)) = false := decide_eq_false (by omega)
      obtain ⟨c0, ⟨_, hx0⟩, hc0, hb0⟩ := byte_at l 0 hpos
      have HL := Lib.hid (rletter_any c0 w hb0)
      obtain ⟨R, hR⟩ : ∃ R, nmB l = R := ⟨_, rfl⟩
      have HR := Lib.hid hR
      rw [hR]
      have HC0 := Lib.hid hc0
      clear hR hc0
      cases hl : Asc.isLetter c0
      · have HZ : Hid (false = R) := Lib.hid (by rw [← HR.out, nmB_no (fun h => by have := h.2.2.1 hpos; rw [HC0.out, hl] at this; cases this)])
        rw [hl] at HL
        clear hl
        go_enter Tryz.func71, Tryz.ntmps71
        go_wp2_with (go_at_call 78; refine HL.out.mono ?_; rintro e w' ⟨rfl, rfl⟩)
        go_ret
        exact ⟨ret_bool HZ.out, rfl⟩
      · have HY : Hid ((∀ i (h : i < l.length), Asc.isWord (l[i]).toNat = true) → true = R) := Lib.hid (fun h => by rw [← HR.out, nmB_yes ⟨hpos, by omega, fun _ => by rw [HC0.out]; exact hl, h⟩])
        have HN : Hid (∀ i (h : i < l.length), Asc.isWord (l[i]).toNat = false → false = R) := Lib.hid (fun i h h2 => by rw [← HR.out, nmB_no (fun hh => by have := hh.2.2.2 i h; rw [h2] at this; cases this)])
        rw [hl] at HL
        clear hl
        go_enter Tryz.func71, Tryz.ntmps71
        go_wp2_with (go_at_call 78; refine HL.out.mono ?_; rintro e w' ⟨rfl, rfl⟩)
        clear hx0
        go_loop [5] (fun i => ∃ k : Nat, k ≤ l.length ∧ i = .int .i64 k ∧ Hid (∀ i (h : i < l.length), i < k → Asc.isWord (l[i]).toNat = true)) (fun i => l.length - (intOf i).toNat)
        case atStart => exact ⟨0, by omega, rfl, Lib.hid (fun _ _ _ => by omega)⟩
        case round =>
          obtain ⟨k, hkl, rfl, HALL⟩ := hrel
          by_cases hlt : k < l.length
          · obtain ⟨c, ⟨_, hx⟩, hc, hb⟩ := byte_at l k hlt
            have HC := Lib.hid hc
            have HW := Lib.hid (rword_any c w hb)
            clear hc
            cases hw : Asc.isWord c
            · have HZ : Hid (false = R) := Lib.hid (HN.out k hlt (by rw [HC.out]; exact hw))
              rw [hw] at HW
              clear hw
              go_wp2_with (go_at_call 79; refine HW.out.mono ?_; rintro e w' ⟨rfl, rfl⟩)
              go_ret
              exact ⟨ret_bool HZ.out, rfl⟩
            · have HNX : Hid (∀ i (h : i < l.length), i < k + 1 → Asc.isWord (l[i]).toNat = true) := Lib.hid (fun i h h2 => by
                by_cases e : i = k
                · subst e; rw [HC.out]; exact hw
                · exact HALL.out i h (by omega))
              rw [hw] at HW
              clear hw
              go_wp2_with (go_at_call 79; refine HW.out.mono ?_; rintro e w' ⟨rfl, rfl⟩)
              go_round
              case rel => exact ⟨k + 1, by omega, by go_num, HNX⟩
              case measure => simp [intOf]; omega
          · obtain rfl : k = l.length := by omega
            have HZ : Hid (true = R) := Lib.hid (HY.out (fun i h => HALL.out i h h))
            go_wp2_with fail
            go_ret
            exact ⟨ret_bool HZ.out, rfl⟩

/-- The shape of a node without its kids. -/
noncomputable def shpB (op : Int) (rs : List (UInt8 × UInt8)) (nm : List UInt8) (n : Nat) (mn mx : Int) : Bool :=
  if op = 0 ∨ op = 6 ∨ op = 7 then decide (n = 0) && (decide (rs.length = 0) && (decide (nm.length = 0) && decide (mn = 0 ∧ mx = 0)))
  else if op = 1 then decide (n = 0) && (srtB rs && (decide (nm.length = 0) && decide (mn = 0 ∧ mx = 0)))
  else if op = 2 ∨ op = 3 then decide (2 ≤ n) && (decide (rs.length = 0) && (decide (nm.length = 0) && decide (mn = 0 ∧ mx = 0)))
  else if op = 4 then decide (n = 1) && (decide (rs.length = 0) && decide (nm.length = 0))
  else if op = 5 then decide (n = 1) && (decide (rs.length = 0) && decide (mn = 0 ∧ mx = 0))
  else false

end Go.Proofs.YtphbkompnddflaaGreatDoor

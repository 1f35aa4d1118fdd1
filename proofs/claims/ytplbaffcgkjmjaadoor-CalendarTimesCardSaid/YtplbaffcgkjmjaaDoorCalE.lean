/-
  Millis of the calendar.
-/
import Derived.Test.YtplbaffcgkjmjaaDoorCalD
namespace Go.Proofs.YtplbaffcgkjmjaaDoor
open Go.RowKit

/-- The milliseconds of a local time. -/
def msOf (y m d h mi s ms z : Int) : Int := Cal.num y m d * 86400000 + h * 3600000 + mi * 60000 + s * 1000 + ms - z * 60000
def millis (y m d h mi s ms z : Int) : Int × Int :=
  if chkB y m d h mi s ms = false then (0, 10) else if inB z (-1440) 1440 = false then (0, 2)
  else if inB (msOf y m d h mi s ms z) (-62135596800000) 253402300799999 = false then (0, 2) else (msOf y m d h mi s ms z, 0)

theorem chkB_iff {y m d h mi s ms : Int} (c : chkB y m d h mi s ms = true) : Cal.vldB y m d = true ∧ (0 ≤ h ∧ h ≤ 23) ∧ (0 ≤ mi ∧ mi ≤ 59) ∧ (0 ≤ s ∧ s ≤ 59) ∧ (0 ≤ ms ∧ ms ≤ 999) := by
  unfold chkB at c
  simp only [Bool.and_eq_true, inB_iff] at c
  exact c

theorem ret2 {a b c d : Int} (h : a = c) (h' : b = d) : Ending.returned (.tuple #[.int .i64 a, .int .i64 b]) = .returned (.tuple #[.int .i64 c, .int .i64 d]) := by rw [h, h']

theorem millis_any (y m d h mi s ms z : Int) (w : World) (hg : G w) :
    Calls Tryd.prog 12 #[dateV y m d h mi s ms, .int .i64 z] w fun e w' => e = .returned (.tuple #[.int .i64 (millis y m d h mi s ms z).1, .int .i64 (millis y m d h mi s ms z).2]) ∧ Below w.heap.size w w' := by
  have hc := Lib.hid fun o => check_any y m d h mi s ms (w.alloc o) (hg.alloc o)
  cases a : chkB y m d h mi s ms
  · have hf := Lib.hid (show millis y m d h mi s ms z = (0, 10) by unfold millis; rw [if_pos a])
    have ha := Lib.hid (show chk y m d h mi s ms = 10 by unfold chk; rw [a]; rfl)
    go_enter Tryd.func12, Tryd.ntmps12
    go_wp2_with (go_at_call 14; refine (hc.out _).mono ?_; rintro e w1 ⟨rfl, hb⟩; rw [ha.out])
    go_ret2
    exact ⟨ret2 (by rw [hf.out]) (by rw [hf.out]), ((Below.refl _ _).alloc (Nat.le_refl _) _).trans (hb.mono (by simp))⟩
  · have ha := Lib.hid (show chk y m d h mi s ms = 0 by unfold chk; rw [a]; rfl)
    obtain ⟨hv, ⟨h1, h2⟩, ⟨h3, h4⟩, ⟨h5, h6⟩, h7, h8⟩ := chkB_iff a
    obtain ⟨n1, n2⟩ := Cal.num_bd hv
    have a' := Lib.hid a
    clear a
    cases b : inB z (-1440) 1440
    · have hf := Lib.hid (show millis y m d h mi s ms z = (0, 2) by unfold millis; rw [if_neg (by rw [a'.out]; decide), if_pos b])
      go_enter Tryd.func12, Tryd.ntmps12
      go_wp2_with (first | (go_at_call 14; refine (hc.out _).mono ?_; rintro e w1 ⟨rfl, hb⟩; rw [ha.out]) | (go_at_call 24; refine (within_any _ _ _ _).mono ?_; rintro e w' ⟨rfl, rfl⟩))
      go_ret2
      exact ⟨ret2 (by rw [hf.out]) (by rw [hf.out]), ((Below.refl _ _).alloc (Nat.le_refl _) _).trans (hb.mono (by simp))⟩
    · obtain ⟨z1, z2⟩ := (inB_iff _ _ _).1 b
      have hd := Lib.hid fun W (hW : G W) => days_yes y m d W hW.tab hv
      have HG := Lib.hid hg
      clear hv
      cases c : inB (Cal.num y m d * 86400000 + h * 3600000 + mi * 60000 + s * 1000 + ms - z * 60000) (-62135596800000) 253402300799999
      all_goals
        have hf := Lib.hid (show millis y m d h mi s ms z = _ by unfold millis msOf; rw [if_neg (by rw [a'.out]; decide), if_neg (by rw [b]; decide), c])
        go_enter Tryd.func12, Tryd.ntmps12
        go_wp2_with (first | (go_at_call 14; refine (hc.out _).mono ?_; rintro e w1 ⟨rfl, hb⟩; rw [ha.out]; obtain ⟨hk, hk2⟩ := bcell hb) | (go_at_call 24; refine (within_any _ _ _ _).mono ?_; rintro e w' ⟨rfl, rfl⟩) | (go_at_call 9; refine (hd.out _ ((HG.out.alloc _).below hb)).mono ?_; rintro e w2 ⟨rfl, hq⟩; have hk3 := hq.cell))
        go_ret2
        exact ⟨ret2 (by rw [hf.out]; try rfl) (by rw [hf.out]; try rfl), ((((Below.refl _ _).alloc (Nat.le_refl _) _).trans (hb.mono (by simp))).trans (hq.below _))⟩

end Go.Proofs.YtplbaffcgkjmjaaDoor

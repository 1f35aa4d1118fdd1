/-
  Dates of the calendar.
-/
import Derived.Test.YtplbaffcgkjmjaaDoorCalE
namespace Go.Proofs.YtplbaffcgkjmjaaDoor
open Go.RowKit

def dayOf (ms z : Int) : Int := (ms + z * 60000) / 86400000
def restOf (ms z : Int) : Int := (ms + z * 60000) % 86400000
def datB (ms z : Int) : Bool := inB ms (-62135596800000) 253402300799999 && (inB z (-1440) 1440 && inB (dayOf ms z) (-719162) 2932896)
/-- The date of a time: a year, a month, a day, and what is left of the day. -/
noncomputable abbrev dateAt (c : Int × Int × Int) (r : Int) : Value := dateV c.1 c.2.1 c.2.2 (r / 3600000) (r / 60000 % 60) (r / 1000 % 60) (r % 1000)

theorem ret_date {c : Int × Int × Int} {r r' : Int} (h : r = r') : Ending.returned (.tuple #[dateAt c r, .int .i64 0]) = .returned (.tuple #[dateAt c r', .int .i64 0]) := by rw [h]

theorem dates_no (ms z : Int) (w : World) (hd : datB ms z = false) :
    Calls Tryd.prog 16 #[.int .i64 ms, .int .i64 z] w fun e w' => e = .returned (.tuple #[dateV 0 0 0 0 0 0 0, .int .i64 2]) ∧ Below w.heap.size w w' := by
  unfold datB at hd
  cases a : inB ms (-62135596800000) 253402300799999
  · clear hd
    go_enter Tryd.func16, Tryd.ntmps16
    go_wp2_with (go_at_call 24; refine (within_any _ _ _ _).mono ?_; rintro e w' ⟨rfl, rfl⟩)
    exact bodyPost_ret (v := .tuple #[dateV 0 0 0 0 0 0 0, .int .i64 2]) (by simp [results, Tryd.results16, go_sem]) rfl ⟨rfl, (Below.refl _ _).alloc (Nat.le_refl _) _⟩
  · cases b : inB z (-1440) 1440
    · clear hd
      go_enter Tryd.func16, Tryd.ntmps16
      go_wp2_with (go_at_call 24; refine (within_any _ _ _ _).mono ?_; rintro e w' ⟨rfl, rfl⟩)
      exact bodyPost_ret (v := .tuple #[dateV 0 0 0 0 0 0 0, .int .i64 2]) (by simp [results, Tryd.results16, go_sem]) rfl ⟨rfl, (Below.refl _ _).alloc (Nat.le_refl _) _⟩
    · obtain ⟨a1, a2⟩ := (inB_iff _ _ _).1 a
      obtain ⟨b1, b2⟩ := (inB_iff _ _ _).1 b
      have hn : dayOf ms z < -719162 ∨ 2932896 < dayOf ms z := by
        have h : ¬ inB (dayOf ms z) (-719162) 2932896 = true := by rw [a, b] at hd; simp at hd; rw [hd]; decide
        rw [inB_iff] at h; omega
      have ts := Lib.hid (tmod_split (ms + z * 60000) 86400000 (by omega))
      obtain ⟨t1, t2⟩ := tmod_bd (ms + z * 60000) 86400000 (by omega)
      have hN := Lib.hid hn
      clear hd hn
      go_enter Tryd.func16, Tryd.ntmps16
      go_wp2_with (first | (go_at_call 24; refine (within_any _ _ _ _).mono ?_; rintro e w' ⟨rfl, rfl⟩) | (go_at_call 8; refine (calls_at (arg1 (tdiv_exact (by decide) (by have := ts.out; unfold dayOf; omega))) (civil_no (dayOf ms z) _ hN.out)).mono ?_; rintro e w1 ⟨rfl, n, rfl⟩))
      exact bodyPost_ret (v := .tuple #[dateV 0 0 0 0 0 0 0, .int .i64 2]) (by simp [results, Tryd.results16, go_sem]) rfl ⟨rfl, by repeat (first | refine Below.setCell ?_ (by simp) _ | exact below_drewN ((Below.refl _ _).alloc (Nat.le_refl _) _) _)⟩

theorem dates_yes (ms z : Int) (w : World) (hg : G w) (hd : datB ms z = true) :
    Calls Tryd.prog 16 #[.int .i64 ms, .int .i64 z] w fun e w' => e = .returned (.tuple #[dateAt (Cal.civ (dayOf ms z)) (restOf ms z), .int .i64 0]) ∧ Below w.heap.size w w' := by
  unfold datB at hd
  simp only [Bool.and_eq_true] at hd
  obtain ⟨a, b, c⟩ := hd
  obtain ⟨a1, a2⟩ := (inB_iff _ _ _).1 a
  obtain ⟨b1, b2⟩ := (inB_iff _ _ _).1 b
  have ts := Lib.hid (tmod_split (ms + z * 60000) 86400000 (by omega))
  obtain ⟨t1, t2⟩ := tmod_bd (ms + z * 60000) 86400000 (by omega)
  have hC := Lib.hid fun W (hW : G W) => civil_yes (dayOf ms z) W hW.tab ((inB_iff _ _ _).1 c).1 ((inB_iff _ _ _).1 c).2
  have HG := Lib.hid hg
  clear c hg
  go_enter Tryd.func16, Tryd.ntmps16
  go_wp2_with (first | (go_at_call 24; refine (within_any _ _ _ _).mono ?_; rintro e w' ⟨rfl, rfl⟩) | (go_at_call 8; refine (calls_at (arg1 (tdiv_exact (by decide) (by have := ts.out; unfold dayOf; omega))) (hC.out _ (HG.out.alloc _))).mono ?_; rintro e w1 ⟨rfl, n, rfl⟩))
  refine bodyPost_ret (v := .tuple #[dateAt (Cal.civ (dayOf ms z)) ((ms + z * 60000).tmod 86400000 % 86400000), .int .i64 0]) (by simp [results, Tryd.results16, go_sem]) rfl ⟨ret_date (by unfold restOf; have := ts.out; omega), by repeat (first | refine Below.setCell ?_ (by simp) _ | exact below_drewN ((Below.refl _ _).alloc (Nat.le_refl _) _) _)⟩

end Go.Proofs.YtplbaffcgkjmjaaDoor

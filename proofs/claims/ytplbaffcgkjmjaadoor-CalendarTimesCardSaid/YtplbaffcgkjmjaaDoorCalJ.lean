/-
  The walk of CalendarReturns.
-/
import Derived.Test.YtplbaffcgkjmjaaDoorCalI
namespace Go.Proofs.YtplbaffcgkjmjaaDoor
open Go.RowKit Go.Sort

/-- A time comes back from its date. -/
theorem ms_back {k z : Int} (h : datB k z = true) :
    chkB (Cal.civ (dayOf k z)).1 (Cal.civ (dayOf k z)).2.1 (Cal.civ (dayOf k z)).2.2 (restOf k z / 3600000) (restOf k z / 60000 % 60) (restOf k z / 1000 % 60) (restOf k z % 1000) = true ∧
    msOf (Cal.civ (dayOf k z)).1 (Cal.civ (dayOf k z)).2.1 (Cal.civ (dayOf k z)).2.2 (restOf k z / 3600000) (restOf k z / 60000 % 60) (restOf k z / 1000 % 60) (restOf k z % 1000) z = k := by
  unfold datB at h
  simp only [Bool.and_eq_true, inB_iff] at h
  obtain ⟨a, b, c⟩ := h
  obtain ⟨hv, hn⟩ := Cal.civ_spec c.1 c.2
  have hr1 : 0 ≤ restOf k z := by unfold restOf; omega
  have hr2 : restOf k z < 86400000 := by unfold restOf; omega
  constructor
  · unfold chkB
    simp only [Bool.and_eq_true, inB_iff]
    exact ⟨hv, by omega, by omega, by omega, by omega⟩
  · unfold msOf
    rw [hn]
    unfold dayOf restOf at *
    omega

theorem millis_back {k z : Int} (h : datB k z = true) :
    millis (Cal.civ (dayOf k z)).1 (Cal.civ (dayOf k z)).2.1 (Cal.civ (dayOf k z)).2.2 (restOf k z / 3600000) (restOf k z / 60000 % 60) (restOf k z / 1000 % 60) (restOf k z % 1000) z = (k, 0) := by
  obtain ⟨h1, h2⟩ := ms_back h
  unfold datB at h
  simp only [Bool.and_eq_true] at h
  unfold millis
  rw [h1, h2, h.1, h.2.1]
  rfl

theorem returns_any (ms zone : Int) (w : World) (hg : G w) :
    Calls Tryd.prog 5 #[.int .i64 ms, .int .i64 zone] w fun e w' => e = .returned (.bool true) ∧ Below w.heap.size w w' := by
  obtain ⟨k, hk⟩ : ∃ k, k = -62135596800000 + ms % (253402300799999 - (-62135596800000) + 1) := ⟨_, rfl⟩
  obtain ⟨z, hz⟩ : ∃ z, z = -1440 + zone % (1440 - (-1440) + 1) := ⟨_, rfl⟩
  have hN1 : Hid (∀ W, Calls Tryd.prog 7 #[.int .i64 ms, .int .i64 (-62135596800000), .int .i64 253402300799999] W fun e w' => e = .returned (.int .i64 k) ∧ W = w') := by
    intro W; rw [hk]; exact near_any ms (-62135596800000) 253402300799999 W (by omega) (by omega) (by omega)
  have hN2 : Hid (∀ W, Calls Tryd.prog 7 #[.int .i64 zone, .int .i64 (-1440), .int .i64 1440] W fun e w' => e = .returned (.int .i64 z) ∧ W = w') := by
    intro W; rw [hz]; exact near_any zone (-1440) 1440 W (by omega) (by omega) (by omega)
  clear hk hz
  have HA := Lib.hid awake_any
  have HG := Lib.hid hg
  clear hg
  cases hd : datB k z
  · have hD := Lib.hid fun W => dates_no k z W hd
    clear hd
    go_enter Tryd.func5, Tryd.ntmps5
    go_wp2_with fail
    refine (HA.out _ HG.out).mono ?_
    rintro e w1 ⟨rfl, hb1⟩
    go_wp2_with fail
    refine (hN1.out _).mono ?_
    rintro e w' ⟨rfl, rfl⟩
    go_wp2_with fail
    refine (hN2.out _).mono ?_
    rintro e w' ⟨rfl, rfl⟩
    go_wp2_with fail
    refine (hD.out _).mono ?_
    rintro e w2 ⟨rfl, hb2⟩
    go_wp2_with fail
    go_ret
    exact ⟨rfl, (hb1.trans (hb2.mono hb1.size)).alloc (by have := hb1.size; have := hb2.size; omega) _⟩
  · have hD := Lib.hid fun W (hW : G W) => dates_yes k z W hW hd
    have hm := millis_back hd
    have hc := (ms_back hd).1
    have HM : Hid (∀ W, G W → Calls Tryd.prog 12 #[dateAt (Cal.civ (dayOf k z)) (restOf k z), .int .i64 z] W fun e w' => e = .returned (.tuple #[.int .i64 k, .int .i64 0]) ∧ Below W.heap.size W w') := by
      intro W hW
      have h := millis_any (Cal.civ (dayOf k z)).1 (Cal.civ (dayOf k z)).2.1 (Cal.civ (dayOf k z)).2.2 (restOf k z / 3600000) (restOf k z / 60000 % 60) (restOf k z / 1000 % 60) (restOf k z % 1000) z W hW
      rw [hm] at h
      exact h
    have HC : Hid (∀ W, G W → Calls Tryd.prog 14 #[dateAt (Cal.civ (dayOf k z)) (restOf k z)] W fun e w' => e = .returned (.int .i64 0) ∧ Below W.heap.size W w') := by
      intro W hW
      have h := check_any (Cal.civ (dayOf k z)).1 (Cal.civ (dayOf k z)).2.1 (Cal.civ (dayOf k z)).2.2 (restOf k z / 3600000) (restOf k z / 60000 % 60) (restOf k z / 1000 % 60) (restOf k z % 1000) W hW
      unfold chk at h
      rw [hc] at h
      exact h
    unfold dateAt at hD HM HC
    clear hm hc hd
    generalize (Cal.civ (dayOf k z)).1 = Y at *
    generalize (Cal.civ (dayOf k z)).2.1 = M at *
    generalize (Cal.civ (dayOf k z)).2.2 = D at *
    generalize restOf k z / 3600000 = r1 at *
    generalize restOf k z / 60000 % 60 = r2 at *
    generalize restOf k z / 1000 % 60 = r3 at *
    generalize restOf k z % 1000 = r4 at *
    go_enter Tryd.func5, Tryd.ntmps5
    go_wp2_with fail
    refine (HA.out _ HG.out).mono ?_
    rintro e w1 ⟨rfl, hb1⟩
    have G1 := Lib.hid (HG.out.below hb1)
    go_wp2_with fail
    refine (hN1.out _).mono ?_
    rintro e w' ⟨rfl, rfl⟩
    go_wp2_with fail
    refine (hN2.out _).mono ?_
    rintro e w' ⟨rfl, rfl⟩
    go_wp2_with fail
    refine (hD.out _ G1.out).mono ?_
    rintro e w2 ⟨rfl, hb2⟩
    have G2 := Lib.hid (G1.out.below hb2)
    go_wp2_with fail
    refine (HM.out _ (G2.out.alloc _)).mono ?_
    rintro e w3 ⟨rfl, hb3⟩
    have G3 := Lib.hid ((G2.out.alloc _).below hb3)
    obtain ⟨hk3, hf3⟩ := bcell hb3
    have hs3 : w2.heap.size < w3.heap.size := by have := hb3.size; simp at this; omega
    go_wp2_with fail
    refine (hD.out _ G3.out).mono ?_
    rintro e w4 ⟨rfl, hb4⟩
    have G4 := Lib.hid (G3.out.below hb4)
    obtain ⟨hk4, hf4⟩ := bcell hb4
    have hs4 : w2.heap.size < w4.heap.size := Nat.lt_of_lt_of_le hs3 hb4.size
    go_wp2_with fail
    refine (HC.out _ (G4.out.alloc _)).mono ?_
    rintro e w5 ⟨rfl, hb5⟩
    go_wp2_with fail
    go_ret
    have hb12 := hb1.trans (hb2.mono hb1.size)
    have hb13 := (hb12.alloc hb12.size _).trans (hb3.mono (by have := hb12.size; simp; omega))
    have hb14 := hb13.trans (hb4.mono hb13.size)
    exact ⟨rfl, (hb14.alloc hb14.size _).trans (hb5.mono (by have := hb14.size; simp; omega))⟩

end Go.Proofs.YtplbaffcgkjmjaaDoor

/-
  Format of the calendar, second part.
-/
import Derived.Test.YtplbaffcgkjmjaaDoorCalG
namespace Go.Proofs.YtplbaffcgkjmjaaDoor
open Go.RowKit Go.Sort

theorem zoneL_len (z : Int) (z1 : -1440 ≤ z) (z2 : z ≤ 1440) : (zoneL z).length ≤ 60 := by
  unfold zoneL
  by_cases a : z = 0
  · simp [a]
  · rw [if_neg a]
    by_cases b : z < 0
    · rw [if_pos b]
      have l1 := padL_len (-z / 60) 2 (by omega) (by omega) (by omega)
      have l2 := padL_len (-z % 60) 2 (by omega) (by omega) (by omega)
      simp; omega
    · rw [if_neg b]
      have l1 := padL_len (z / 60) 2 (by omega) (by omega) (by omega)
      have l2 := padL_len (z % 60) 2 (by omega) (by omega) (by omega)
      simp; omega

/-- A date and a time of day as text, ahead of the zone. -/
def stampL (y m d h mi s ms : Int) : List UInt8 :=
  padL y 4 ++ [45] ++ padL m 2 ++ [45] ++ padL d 2 ++ [84] ++ padL h 2 ++ [58] ++ padL mi 2 ++ [58] ++ padL s 2 ++ [46] ++ padL ms 3
noncomputable def fmtL (ms z : Int) : List UInt8 :=
  stampL (Cal.civ (dayOf ms z)).1 (Cal.civ (dayOf ms z)).2.1 (Cal.civ (dayOf ms z)).2.2 (restOf ms z / 3600000) (restOf ms z / 60000 % 60) (restOf ms z / 1000 % 60) (restOf ms z % 1000) ++ zoneL z

theorem ret_se {a b : ByteArray} {n : Int} (h : a = b) : Ending.returned (.tuple #[.string a, .int .i64 n]) = .returned (.tuple #[.string b, .int .i64 n]) := by rw [h]

theorem format_no (ms z : Int) (w : World) (hd : datB ms z = false) :
    Calls Tryd.prog 18 #[.int .i64 ms, .int .i64 z] w fun e w' => e = .returned (.tuple #[.string ⟨#[]⟩, .int .i64 2]) ∧ Below w.heap.size w w' := by
  have hD := Lib.hid fun W => dates_no ms z W hd
  clear hd
  go_enter Tryd.func18, Tryd.ntmps18
  go_wp2_with (go_at_call 16; refine (hD.out _).mono ?_; rintro e w1 ⟨rfl, hb⟩)
  go_ret2
  exact ⟨rfl, (((Below.refl _ _).alloc (Nat.le_refl _) _).trans (hb.mono (by simp))).alloc (by have := hb.size; simp at this; omega) _⟩

set_option maxHeartbeats 1000000 in
theorem format_yes (ms z : Int) (w : World) (hg : G w) (hd : datB ms z = true) :
    Calls Tryd.prog 18 #[.int .i64 ms, .int .i64 z] w fun e w' => e = .returned (.tuple #[.string ⟨(fmtL ms z).toArray⟩, .int .i64 0]) ∧ Below w.heap.size w w' := by
  have hD := Lib.hid fun W (hW : G W) => dates_yes ms z W hW hd
  have HG := Lib.hid hg
  unfold datB at hd
  simp only [Bool.and_eq_true] at hd
  obtain ⟨a, b, c⟩ := hd
  obtain ⟨z1, z2⟩ := (inB_iff _ _ _).1 b
  obtain ⟨c1, c2⟩ := (inB_iff _ _ _).1 c
  have hv := (Cal.civ_spec c1 c2).1
  have hm := Cal.vld_month hv
  have hv' := (Cal.vld_iff _ _ _).1 hv
  have hdm := Cal.dim_nonneg (Cal.civ (dayOf ms z)).1 (Cal.civ (dayOf ms z)).2.1
  have hr1 : 0 ≤ restOf ms z := by unfold restOf; omega
  have hr2 : restOf ms z < 86400000 := by unfold restOf; omega
  have hF : Hid (∀ l, l = stampL (Cal.civ (dayOf ms z)).1 (Cal.civ (dayOf ms z)).2.1 (Cal.civ (dayOf ms z)).2.2 (restOf ms z / 3600000) (restOf ms z / 60000 % 60) (restOf ms z / 1000 % 60) (restOf ms z % 1000) ++ zoneL z → l = fmtL ms z) := fun l h => h
  generalize fmtL ms z = out at *
  unfold dateAt at hD
  generalize (Cal.civ (dayOf ms z)).1 = Y at *
  generalize (Cal.civ (dayOf ms z)).2.1 = M at *
  generalize (Cal.civ (dayOf ms z)).2.2 = D at *
  generalize restOf ms z = r at *
  obtain ⟨y1, y2, d1, d2⟩ := hv'
  obtain ⟨m1, m2⟩ := hm
  have d3 : D ≤ 31 := by omega
  clear hv hdm d2 a b c c1 c2 hg
  have l1 := padL_len Y 4 (by omega) (by omega) (by omega)
  have l2 := padL_len M 2 (by omega) (by omega) (by omega)
  have l3 := padL_len D 2 (by omega) (by omega) (by omega)
  have l4 := padL_len (r / 3600000) 2 (by omega) (by omega) (by omega)
  have l5 := padL_len (r / 60000 % 60) 2 (by omega) (by omega) (by omega)
  have l6 := padL_len (r / 1000 % 60) 2 (by omega) (by omega) (by omega)
  have l7 := padL_len (r % 1000) 3 (by omega) (by omega) (by omega)
  have l8 := zoneL_len z z1 z2
  go_enter Tryd.func18, Tryd.ntmps18
  go_wp2_with (go_at_call 16; refine (hD.out _ (HG.out.alloc _)).mono ?_; rintro e w1 ⟨rfl, hb⟩)
  have hb1 := ((Below.refl w.heap.size w).alloc (Nat.le_refl _) (.cells #[.int .i64 z] 3)).trans (hb.mono (by simp))
  have hsz : w.heap.size < w1.heap.size := by have := hb.size; simp at this; omega
  have hz0 : w1.cell? ⟨w.heap.size, 0, none⟩ = some (.int .i64 z) := (hb.cell (p := ⟨w.heap.size, 0, none⟩) (by simp)).trans (by simp [go_sem])
  obtain ⟨W, hW⟩ : ∃ W, w1.alloc (.cells #[.int .i64 Y, .int .i64 M, .int .i64 D, .int .i64 (r / 3600000), .int .i64 (r / 60000 % 60), .int .i64 (r / 1000 % 60), .int .i64 (r % 1000)] 32) = W := ⟨_, rfl⟩
  have gW : G W := by rw [← hW]; exact (HG.out.below hb1).alloc _
  have bW : Below w.heap.size w W := by rw [← hW]; exact hb1.alloc (by omega) _
  have f0 : W.cell? ⟨w1.heap.size, 0, none⟩ = some (.int .i64 Y) := by rw [← hW]; simp [go_sem]
  have f1 : W.cell? ⟨w1.heap.size, 1, none⟩ = some (.int .i64 M) := by rw [← hW]; simp [go_sem]
  have f2 : W.cell? ⟨w1.heap.size, 2, none⟩ = some (.int .i64 D) := by rw [← hW]; simp [go_sem]
  have f3 : W.cell? ⟨w1.heap.size, 3, none⟩ = some (.int .i64 (r / 3600000)) := by rw [← hW]; simp [go_sem]
  have f4 : W.cell? ⟨w1.heap.size, 4, none⟩ = some (.int .i64 (r / 60000 % 60)) := by rw [← hW]; simp [go_sem]
  have f5 : W.cell? ⟨w1.heap.size, 5, none⟩ = some (.int .i64 (r / 1000 % 60)) := by rw [← hW]; simp [go_sem]
  have f6 : W.cell? ⟨w1.heap.size, 6, none⟩ = some (.int .i64 (r % 1000)) := by rw [← hW]; simp [go_sem]
  have fz : W.cell? ⟨w.heap.size, 0, none⟩ = some (.int .i64 z) := by rw [← hW]; exact ((((Below.refl w1.heap.size w1).alloc (Nat.le_refl _) _).cell (p := ⟨w.heap.size, 0, none⟩) hsz).trans hz0)
  rw [hW]
  clear hW hb hb1 hz0 HG hD
  have k0 := cell_regrown f0
  have k1 := cell_regrown f1
  have k2 := cell_regrown f2
  have hp := Lib.hid fun d os => (gW.below (below_regrown W d os)).pow
  refine wp_region_quiet_below (by kernel_rfl) (by kernel_rfl) ?_
  repeat (first | go_big_quiet_step ((go_at_call 28; exact Calls.regrown_of (padded_i _ _ _ (by omega) (by omega) (by omega) (by omega) (hp.out _ _)))) | quiet_step ((go_at_call 28; exact Calls.regrown_of (padded_i _ _ _ (by omega) (by omega) (by omega) (by omega) (hp.out _ _)))))
  refine wpQuiet_nil ?_
  clear k0 k1 k2 hp f0 f1 f2
  rintro _ ⟨⟨dq, osq⟩, rfl⟩
  obtain ⟨V, hV⟩ : ∃ V, grow (redrawn W dq) osq = V := ⟨_, rfl⟩
  have bV : Below W.heap.size W V := by rw [← hV]; exact below_regrown _ _ _
  have k3 := cell_regrown (hV ▸ cell_regrown f3 dq osq : V.cell? ⟨w1.heap.size, 3, none⟩ = _)
  have k4 := cell_regrown (hV ▸ cell_regrown f4 dq osq : V.cell? ⟨w1.heap.size, 4, none⟩ = _)
  have k5 := cell_regrown (hV ▸ cell_regrown f5 dq osq : V.cell? ⟨w1.heap.size, 5, none⟩ = _)
  have k6 := cell_regrown (hV ▸ cell_regrown f6 dq osq : V.cell? ⟨w1.heap.size, 6, none⟩ = _)
  have kz := Lib.hid (cell_regrown (hV ▸ cell_regrown fz dq osq : V.cell? ⟨w.heap.size, 0, none⟩ = _))
  have hg2 := Lib.hid fun d os => (gW.below bV).below (below_regrown V d os)
  have bF := bW.trans (bV.mono bW.size)
  dsimp only
  rw [hV]
  clear hV f3 f4 f5 f6 fz gW bV bW
  go_wp2_with fail
  refine wp_region_quiet_below (by kernel_rfl) (by kernel_rfl) ?_
  repeat (first | go_big_quiet_step (first | (go_at_call 28; exact Calls.regrown_of (padded_i _ _ _ (by omega) (by omega) (by omega) (by omega) (hg2.out _ _).pow)) | (go_at_call 27; exact Calls.regrown_of (suffix_any _ _ _ (kz.out _ _) (hg2.out _ _) z1 z2))) | quiet_step (first | (go_at_call 28; exact Calls.regrown_of (padded_i _ _ _ (by omega) (by omega) (by omega) (by omega) (hg2.out _ _).pow)) | (go_at_call 27; exact Calls.regrown_of (suffix_any _ _ _ (kz.out _ _) (hg2.out _ _) z1 z2))))
  refine wpQuiet_nil ?_
  rintro _ ⟨⟨dq, osq⟩, rfl⟩
  go_wp2_with fail
  go_ret2
  refine ⟨ret_se ?_, bF.trans ((below_regrown _ _ _).mono bF.size)⟩
  rw [← hF.out _ rfl]
  unfold stampL
  simp only [ba_app]

end Go.Proofs.YtplbaffcgkjmjaaDoor

/-
  The reference's Format.
-/
import Derived.Test.YtplbaffcgkjmjaaDoorCalM
namespace Go.Proofs.YtplbaffcgkjmjaaDoor
open Go.RowKit Go.Sort

theorem rformat_no (ms z : Int) (w : World) (hd : datB ms z = false) :
    Calls Tryd.prog 19 #[.int .i64 ms, .int .i64 z] w fun e w' => e = .returned (.tuple #[.string ⟨#[]⟩, .int .i64 2]) ∧ Below w.heap.size w w' := by
  have hD := Lib.hid fun W => rdates_no ms z W hd
  clear hd
  go_enter Tryd.func19, Tryd.ntmps19
  go_wp2_with (go_at_call 17; refine (hD.out _).mono ?_; rintro e w1 ⟨rfl, hb⟩)
  go_ret2
  exact ⟨rfl, hb.alloc hb.size _⟩

set_option maxHeartbeats 2000000 in
theorem rformat_yes (ms z : Int) (w : World) (hd : datB ms z = true) :
    Calls Tryd.prog 19 #[.int .i64 ms, .int .i64 z] w fun e w' => e = .returned (.tuple #[.string ⟨(fmtL ms z).toArray⟩, .int .i64 0]) ∧ Below w.heap.size w w' := by
  have hD := Lib.hid fun W => rdates_yes ms z W hd
  unfold datB at hd
  simp only [Bool.and_eq_true] at hd
  obtain ⟨a, b, c⟩ := hd
  obtain ⟨z1, z2⟩ := (inB_iff _ _ _).1 b
  obtain ⟨c1, c2⟩ := (inB_iff _ _ _).1 c
  have hv := (Cal.civ_spec c1 c2).1
  have hm := Cal.vld_month hv
  have hv' := (Cal.vld_iff _ _ _).1 hv
  have hdm := Cal.dim_nonneg (Cal.civ (dayOf ms z)).1 (Cal.civ (dayOf ms z)).2.1
  have hr1 : 0 ≤ restOf ms z := by unfold restOf; omega
  have hr2 : restOf ms z < 86400000 := by unfold restOf; omega
  have hF : Hid (∀ l, l = stampL (Cal.civ (dayOf ms z)).1 (Cal.civ (dayOf ms z)).2.1 (Cal.civ (dayOf ms z)).2.2 (restOf ms z / 3600000) (restOf ms z / 60000 % 60) (restOf ms z / 1000 % 60) (restOf ms z % 1000) ++ zoneL z → l = fmtL ms z) := fun l h => h
  generalize fmtL ms z = out at *
  unfold dateAt at hD
  generalize (Cal.civ (dayOf ms z)).1 = Y at *
  generalize (Cal.civ (dayOf ms z)).2.1 = M at *
  generalize (Cal.civ (dayOf ms z)).2.2 = D at *
  generalize restOf ms z = r at *
  obtain ⟨y1, y2, d1, d2⟩ := hv'
  obtain ⟨m1, m2⟩ := hm
  have d3 : D ≤ 31 := by omega
  clear hv hdm d2 a b c c1 c2
  have l1 := padL_len Y 4 (by omega) (by omega) (by omega)
  have l2 := padL_len M 2 (by omega) (by omega) (by omega)
  have l3 := padL_len D 2 (by omega) (by omega) (by omega)
  have l4 := padL_len (r / 3600000) 2 (by omega) (by omega) (by omega)
  have l5 := padL_len (r / 60000 % 60) 2 (by omega) (by omega) (by omega)
  have l6 := padL_len (r / 1000 % 60) 2 (by omega) (by omega) (by omega)
  have l7 := padL_len (r % 1000) 3 (by omega) (by omega) (by omega)
  go_enter Tryd.func19, Tryd.ntmps19
  go_wp2_with (go_at_call 17; refine (hD.out _).mono ?_; rintro e w1 ⟨rfl, hb⟩)
  obtain ⟨W, hW⟩ : ∃ W, w1.alloc (.cells #[.int .i64 Y, .int .i64 M, .int .i64 D, .int .i64 (r / 3600000), .int .i64 (r / 60000 % 60), .int .i64 (r / 1000 % 60), .int .i64 (r % 1000)] 32) = W := ⟨_, rfl⟩
  have bW : Below w.heap.size w W := by rw [← hW]; exact hb.alloc hb.size _
  have k0 := cell_regrown (show W.cell? ⟨w1.heap.size, 0, none⟩ = some (.int .i64 Y) by rw [← hW]; simp [go_sem])
  have k1 := cell_regrown (show W.cell? ⟨w1.heap.size, 1, none⟩ = some (.int .i64 M) by rw [← hW]; simp [go_sem])
  have k2 := cell_regrown (show W.cell? ⟨w1.heap.size, 2, none⟩ = some (.int .i64 D) by rw [← hW]; simp [go_sem])
  have k3 := cell_regrown (show W.cell? ⟨w1.heap.size, 3, none⟩ = some (.int .i64 (r / 3600000)) by rw [← hW]; simp [go_sem])
  have k4 := cell_regrown (show W.cell? ⟨w1.heap.size, 4, none⟩ = some (.int .i64 (r / 60000 % 60)) by rw [← hW]; simp [go_sem])
  have k5 := cell_regrown (show W.cell? ⟨w1.heap.size, 5, none⟩ = some (.int .i64 (r / 1000 % 60)) by rw [← hW]; simp [go_sem])
  have k6 := cell_regrown (show W.cell? ⟨w1.heap.size, 6, none⟩ = some (.int .i64 (r % 1000)) by rw [← hW]; simp [go_sem])
  rw [hW]
  clear hW hb hD
  refine wp_region_quiet_below (by kernel_rfl) (by kernel_rfl) ?_
  repeat (first | go_big_quiet_step ((go_at_call 29; exact Calls.regrown_of (rpadded_i _ _ _ (by omega) (by omega) (by omega) (by omega)))) | quiet_step ((go_at_call 29; exact Calls.regrown_of (rpadded_i _ _ _ (by omega) (by omega) (by omega) (by omega)))))
  refine wpQuiet_nil ?_
  clear k0 k1 k2 k3 k4 k5 k6
  rintro _ ⟨⟨dq, osq⟩, rfl⟩
  obtain ⟨V, hV⟩ : ∃ V, grow (redrawn W dq) osq = V := ⟨_, rfl⟩
  have bV : Below W.heap.size W V := by rw [← hV]; exact below_regrown _ _ _
  have bF := bW.trans (bV.mono bW.size)
  dsimp only
  rw [hV]
  clear hV bV bW
  simp only [ba_app]
  by_cases a : z = 0
  · subst a
    have hf := Lib.hid (show zoneL 0 = [90] by simp [zoneL])
    go_wp2_with fail
    go_ret2
    refine ⟨ret_se ?_, bF⟩
    rw [← hF.out _ rfl, hf.out]
    unfold stampL
    simp only [ba_app]
    simp
  · have a' : (z == 0) = false := by simp [a]
    by_cases b : z < 0
    · have hf := Lib.hid (show zoneL z = _ by unfold zoneL; rw [if_neg a, if_pos b])
      clear a
      have l8 := padL_len (-z / 60) 2 (by omega) (by omega) (by omega)
      have l9 := padL_len (-z % 60) 2 (by omega) (by omega) (by omega)
      have e1 : wrap64 (-(z.tdiv 60)) = -z / 60 := by rw [neg_quo z b]; exact IntWalk.wrap64_in _ ⟨by omega, by omega⟩
      have e2 := neg_rem z b
      go_wp2_with fail
      refine (rpadded_i _ _ _ (by omega) (by omega) (by omega) (by omega)).mono ?_
      rintro e w2 ⟨rfl, hb2⟩
      go_wp2_with fail
      refine (rpadded_i _ _ _ (by omega) (by omega) (by omega) (by omega)).mono ?_
      rintro e w3 ⟨rfl, hb3⟩
      go_wp2_with fail
      go_ret2
      refine ⟨ret_se ?_, (bF.trans (hb2.mono bF.size)).trans (hb3.mono (Nat.le_trans bF.size hb2.size))⟩
      rw [← hF.out _ rfl, hf.out]
      unfold stampL
      simp only [ba_app]
      simp
    · have hf := Lib.hid (show zoneL z = _ by unfold zoneL; rw [if_neg a, if_neg b])
      have b' : decide (z < 0) = false := by simpa using b
      clear a
      have l8 := padL_len (z / 60) 2 (by omega) (by omega) (by omega)
      have l9 := padL_len (z % 60) 2 (by omega) (by omega) (by omega)
      go_wp2_with fail
      refine (rpadded_i _ _ _ (by omega) (by omega) (by omega) (by omega)).mono ?_
      rintro e w2 ⟨rfl, hb2⟩
      go_wp2_with fail
      refine (rpadded_i _ _ _ (by omega) (by omega) (by omega) (by omega)).mono ?_
      rintro e w3 ⟨rfl, hb3⟩
      go_wp2_with fail
      go_ret2
      refine ⟨ret_se ?_, (bF.trans (hb2.mono bF.size)).trans (hb3.mono (Nat.le_trans bF.size hb2.size))⟩
      rw [← hF.out _ rfl, hf.out]
      unfold stampL
      simp only [ba_app]
      simp

end Go.Proofs.YtplbaffcgkjmjaaDoor

/-
  Format of the calendar.
-/
import Derived.Test.YtplbaffcgkjmjaaDoorCalF
namespace Go.Proofs.YtplbaffcgkjmjaaDoor
open Go.RowKit Go.Sort

theorem padL_len (n : Int) (k : Nat) (h0 : -9223372036854775808 ≤ n) (h1 : n ≤ 9223372036854775807) (hk : k ≤ 4) : (padL n k).length ≤ 25 := by
  have := Lib.itoa_length_le n h0 h1
  unfold padL; simp; omega
theorem padded2 (n : Int) (w : World) (h0 : -100000 ≤ n) (h1 : n ≤ 100000) (hp : Pow w) :
    Calls Tryd.prog 28 #[.int .i64 n, .int .i64 2] w fun e w' => e = .returned (.string ⟨(padL n 2).toArray⟩) ∧ Below w.heap.size w w' := padded_any n 2 w (by omega) (by omega) (by omega) hp
theorem padded3 (n : Int) (w : World) (h0 : -100000 ≤ n) (h1 : n ≤ 100000) (hp : Pow w) :
    Calls Tryd.prog 28 #[.int .i64 n, .int .i64 3] w fun e w' => e = .returned (.string ⟨(padL n 3).toArray⟩) ∧ Below w.heap.size w w' := padded_any n 3 w (by omega) (by omega) (by omega) hp
theorem padded4 (n : Int) (w : World) (h0 : -100000 ≤ n) (h1 : n ≤ 100000) (hp : Pow w) :
    Calls Tryd.prog 28 #[.int .i64 n, .int .i64 4] w fun e w' => e = .returned (.string ⟨(padL n 4).toArray⟩) ∧ Below w.heap.size w w' := padded_any n 4 w (by omega) (by omega) (by omega) hp

theorem padded_i (n k : Int) (w : World) (h0 : -100000 ≤ n) (h1 : n ≤ 100000) (k0 : 0 ≤ k) (k1 : k ≤ 4) (hp : Pow w) :
    Calls Tryd.prog 28 #[.int .i64 n, .int .i64 k] w fun e w' => e = .returned (.string ⟨(padL n k.toNat).toArray⟩) ∧ Below w.heap.size w w' := by
  obtain ⟨j, rfl⟩ := Int.eq_ofNat_of_zero_le k0
  exact padded_any n j w (by omega) (by omega) (by omega) hp

def zoneL (z : Int) : List UInt8 :=
  if z = 0 then [90] else if z < 0 then 45 :: (padL (-z / 60) 2 ++ 58 :: padL (-z % 60) 2) else 43 :: (padL (z / 60) 2 ++ 58 :: padL (z % 60) 2)

theorem neg_quo (z : Int) (h : z < 0) : -(z.tdiv 60) = -z / 60 := by
  rw [← Int.neg_tdiv, Int.tdiv_eq_ediv_of_nonneg (by omega)]
theorem neg_rem (z : Int) (h : z < 0) : -(z.tmod 60) = -z % 60 := by
  rw [← Int.neg_tmod, Int.tmod_eq_emod_of_nonneg (by omega)]
theorem pos_quo (z : Int) (h : 0 ≤ z) : z.tdiv 60 = z / 60 := Int.tdiv_eq_ediv_of_nonneg h
theorem pos_rem (z : Int) (h : 0 ≤ z) : z.tmod 60 = z % 60 := Int.tmod_eq_emod_of_nonneg h

theorem suffix_any (b : Nat) (z : Int) (w : World) (hc : w.cell? ⟨b, 0, none⟩ = some (.int .i64 z)) (hg : G w) (z1 : -1440 ≤ z) (z2 : z ≤ 1440) :
    Calls Tryd.prog 27 #[.pointer (some ⟨b, 0, none⟩)] w fun e w' => e = .returned (.string ⟨(zoneL z).toArray⟩) ∧ Below w.heap.size w w' := by
  have k0 := cell_regrown hc
  have hp := Lib.hid fun d os => hg.pow.below (below_regrown w d os)
  clear hg
  by_cases a : z = 0
  · subst a
    go_enter Tryd.func27, Tryd.ntmps27
    go_wp2
    go_ret
    exact ⟨ret_str (by simp [zoneL]), Below.refl _ _⟩
  · have a' : (z == 0) = false := by simp [a]
    by_cases b : z < 0
    · have hf := Lib.hid (show zoneL z = _ by unfold zoneL; rw [if_neg a, if_pos b])
      clear a
      have l1 := padL_len (-z / 60) 2 (by omega) (by omega) (by omega)
      have l2 := padL_len (-z % 60) 2 (by omega) (by omega) (by omega)
      have e1 : wrap64 (-(z.tdiv 60)) = -z / 60 := by rw [neg_quo z b]; exact IntWalk.wrap64_in _ ⟨by omega, by omega⟩
      have e2 := neg_rem z b
      go_enter Tryd.func27, Tryd.ntmps27
      go_wp2
      refine wp_region_quiet_below (by kernel_rfl) (by kernel_rfl) ?_
      repeat (first | go_big_quiet_step ((go_at_call 28; exact Calls.regrown_of (padded2 _ _ (by omega) (by omega) (hp.out _ _)))) | quiet_step ((go_at_call 28; exact Calls.regrown_of (padded2 _ _ (by omega) (by omega) (hp.out _ _)))))
      refine wpQuiet_nil ?_
      rintro _ ⟨p, rfl⟩
      go_wp2
      go_ret
      exact ⟨ret_val (by rw [hf.out]; simp only [ba_app]; simp), below_regrown _ _ _⟩
    · have hf := Lib.hid (show zoneL z = _ by unfold zoneL; rw [if_neg a, if_neg b])
      have b' : decide (z < 0) = false := by simpa using b
      clear a
      have l1 := padL_len (z / 60) 2 (by omega) (by omega) (by omega)
      have l2 := padL_len (z % 60) 2 (by omega) (by omega) (by omega)
      have e1 : wrap64 (z.tdiv 60) = z / 60 := by rw [pos_quo z (by omega)]; exact IntWalk.wrap64_in _ ⟨by omega, by omega⟩
      have e2 := pos_rem z (by omega)
      go_enter Tryd.func27, Tryd.ntmps27
      go_wp2
      refine wp_region_quiet_below (by kernel_rfl) (by kernel_rfl) ?_
      repeat (first | go_big_quiet_step ((go_at_call 28; exact Calls.regrown_of (padded2 _ _ (by omega) (by omega) (hp.out _ _)))) | quiet_step ((go_at_call 28; exact Calls.regrown_of (padded2 _ _ (by omega) (by omega) (hp.out _ _)))))
      refine wpQuiet_nil ?_
      rintro _ ⟨p, rfl⟩
      go_wp2
      go_ret
      exact ⟨ret_val (by rw [hf.out]; simp only [ba_app]; simp), below_regrown _ _ _⟩

end Go.Proofs.YtplbaffcgkjmjaaDoor

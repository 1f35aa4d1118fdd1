/-
  The reference's Check, Millis, Dates, Format. (Printed by gen_calm.py.)
-/
import Derived.Test.YtplbaffcgkjmjaaDoorCalL
namespace Go.Proofs.YtplbaffcgkjmjaaDoor
open Go.RowKit Go.Sort

theorem chk_no {y m d h mi s ms : Int} (c : ¬ (Cal.vldB y m d = true ∧ (0 ≤ h ∧ h ≤ 23) ∧ (0 ≤ mi ∧ mi ≤ 59) ∧ (0 ≤ s ∧ s ≤ 59) ∧ (0 ≤ ms ∧ ms ≤ 999))) : chk y m d h mi s ms = 10 := by
  unfold chk
  rw [if_neg]
  exact fun e => c (chkB_iff e)
theorem chk_yes {y m d h mi s ms : Int} (a : Cal.vldB y m d = true) (b : 0 ≤ h ∧ h ≤ 23) (c : 0 ≤ mi ∧ mi ≤ 59) (e : 0 ≤ s ∧ s ≤ 59) (f : 0 ≤ ms ∧ ms ≤ 999) : chk y m d h mi s ms = 0 := by
  unfold chk chkB
  rw [if_pos]
  simp only [Bool.and_eq_true, inB_iff]
  exact ⟨a, b, c, e, f⟩

set_option maxHeartbeats 2000000 in
theorem rcheck_any (y m d h mi s ms : Int) (w : World) :
    Calls Tryd.prog 15 #[dateV y m d h mi s ms] w fun e w' => e = .returned (.int .i64 (chk y m d h mi s ms)) ∧ Below w.heap.size w w' := by
  cases a : Cal.vldB y m d
  · have hf := Lib.hid (chk_no (y := y) (m := m) (d := d) (h := h) (mi := mi) (s := s) (ms := ms) (fun c => by rw [a] at c; exact absurd c.1 (by decide)))
    have hD := Lib.hid fun W => rdays_no y m d W a
    clear a
    go_enter Tryd.func15, Tryd.ntmps15
    go_wp2_with (go_at_call 25; refine (hD.out _).mono ?_; rintro e w' ⟨rfl, rfl⟩)
    go_ret
    exact ⟨ret_int (by rw [hf.out]), (Below.refl _ _).alloc (Nat.le_refl _) _⟩
  · have hD := Lib.hid fun W => rdays_yes y m d W a
    have ha := Lib.hid a
    clear a
    by_cases t0 : h < 0
    · have hf := Lib.hid (chk_no (y := y) (m := m) (d := d) (h := h) (mi := mi) (s := s) (ms := ms) (fun c => by omega))
      go_enter Tryd.func15, Tryd.ntmps15
      go_wp2_with (go_at_call 25; refine (hD.out _).mono ?_; rintro e w' ⟨rfl, rfl⟩)
      go_ret
      exact ⟨ret_int (by rw [hf.out]), (Below.refl _ _).alloc (Nat.le_refl _) _⟩
    have g0 : 0 ≤ h := by omega
    clear t0
    by_cases t1 : 23 < h
    · have hf := Lib.hid (chk_no (y := y) (m := m) (d := d) (h := h) (mi := mi) (s := s) (ms := ms) (fun c => by omega))
      go_enter Tryd.func15, Tryd.ntmps15
      go_wp2_with (go_at_call 25; refine (hD.out _).mono ?_; rintro e w' ⟨rfl, rfl⟩)
      go_ret
      exact ⟨ret_int (by rw [hf.out]), (Below.refl _ _).alloc (Nat.le_refl _) _⟩
    have g1 : h ≤ 23 := by omega
    clear t1
    by_cases t2 : mi < 0
    · have hf := Lib.hid (chk_no (y := y) (m := m) (d := d) (h := h) (mi := mi) (s := s) (ms := ms) (fun c => by omega))
      go_enter Tryd.func15, Tryd.ntmps15
      go_wp2_with (go_at_call 25; refine (hD.out _).mono ?_; rintro e w' ⟨rfl, rfl⟩)
      go_ret
      exact ⟨ret_int (by rw [hf.out]), (Below.refl _ _).alloc (Nat.le_refl _) _⟩
    have g2 : 0 ≤ mi := by omega
    clear t2
    by_cases t3 : 59 < mi
    · have hf := Lib.hid (chk_no (y := y) (m := m) (d := d) (h := h) (mi := mi) (s := s) (ms := ms) (fun c => by omega))
      go_enter Tryd.func15, Tryd.ntmps15
      go_wp2_with (go_at_call 25; refine (hD.out _).mono ?_; rintro e w' ⟨rfl, rfl⟩)
      go_ret
      exact ⟨ret_int (by rw [hf.out]), (Below.refl _ _).alloc (Nat.le_refl _) _⟩
    have g3 : mi ≤ 59 := by omega
    clear t3
    by_cases t4 : s < 0
    · have hf := Lib.hid (chk_no (y := y) (m := m) (d := d) (h := h) (mi := mi) (s := s) (ms := ms) (fun c => by omega))
      go_enter Tryd.func15, Tryd.ntmps15
      go_wp2_with (go_at_call 25; refine (hD.out _).mono ?_; rintro e w' ⟨rfl, rfl⟩)
      go_ret
      exact ⟨ret_int (by rw [hf.out]), (Below.refl _ _).alloc (Nat.le_refl _) _⟩
    have g4 : 0 ≤ s := by omega
    clear t4
    by_cases t5 : 59 < s
    · have hf := Lib.hid (chk_no (y := y) (m := m) (d := d) (h := h) (mi := mi) (s := s) (ms := ms) (fun c => by omega))
      go_enter Tryd.func15, Tryd.ntmps15
      go_wp2_with (go_at_call 25; refine (hD.out _).mono ?_; rintro e w' ⟨rfl, rfl⟩)
      go_ret
      exact ⟨ret_int (by rw [hf.out]), (Below.refl _ _).alloc (Nat.le_refl _) _⟩
    have g5 : s ≤ 59 := by omega
    clear t5
    by_cases t6 : ms < 0
    · have hf := Lib.hid (chk_no (y := y) (m := m) (d := d) (h := h) (mi := mi) (s := s) (ms := ms) (fun c => by omega))
      go_enter Tryd.func15, Tryd.ntmps15
      go_wp2_with (go_at_call 25; refine (hD.out _).mono ?_; rintro e w' ⟨rfl, rfl⟩)
      go_ret
      exact ⟨ret_int (by rw [hf.out]), (Below.refl _ _).alloc (Nat.le_refl _) _⟩
    have g6 : 0 ≤ ms := by omega
    clear t6
    by_cases t7 : 999 < ms
    · have hf := Lib.hid (chk_no (y := y) (m := m) (d := d) (h := h) (mi := mi) (s := s) (ms := ms) (fun c => by omega))
      go_enter Tryd.func15, Tryd.ntmps15
      go_wp2_with (go_at_call 25; refine (hD.out _).mono ?_; rintro e w' ⟨rfl, rfl⟩)
      go_ret
      exact ⟨ret_int (by rw [hf.out]), (Below.refl _ _).alloc (Nat.le_refl _) _⟩
    have g7 : ms ≤ 999 := by omega
    clear t7
    have hf := Lib.hid (chk_yes ha.out ⟨g0, g1⟩ ⟨g2, g3⟩ ⟨g4, g5⟩ ⟨g6, g7⟩)
    go_enter Tryd.func15, Tryd.ntmps15
    go_wp2_with (go_at_call 25; refine (hD.out _).mono ?_; rintro e w' ⟨rfl, rfl⟩)
    go_ret
    exact ⟨ret_int (by rw [hf.out]), (Below.refl _ _).alloc (Nat.le_refl _) _⟩

theorem inB_false {n lo hi : Int} (h : inB n lo hi = false) : n < lo ∨ hi < n := by
  have : ¬ inB n lo hi = true := by rw [h]; decide
  rw [inB_iff] at this; omega

theorem rmillis_any (y m d h mi s ms z : Int) (w : World) (z1 : -9223372036854775808 ≤ z) (z2 : z ≤ 9223372036854775807) :
    Calls Tryd.prog 13 #[dateV y m d h mi s ms, .int .i64 z] w fun e w' => e = .returned (.tuple #[.int .i64 (millis y m d h mi s ms z).1, .int .i64 (millis y m d h mi s ms z).2]) ∧ Below w.heap.size w w' := by
  have hc := Lib.hid fun o => rcheck_any y m d h mi s ms (w.alloc o)
  cases a : chkB y m d h mi s ms
  · have hf := Lib.hid (show millis y m d h mi s ms z = (0, 10) by unfold millis; rw [if_pos a])
    have ha := Lib.hid (show chk y m d h mi s ms = 10 by unfold chk; rw [a]; rfl)
    go_enter Tryd.func13, Tryd.ntmps13
    go_wp2_with (go_at_call 15; refine (hc.out _).mono ?_; rintro e w1 ⟨rfl, hb⟩; rw [ha.out])
    go_ret2
    exact ⟨ret2 (by rw [hf.out]) (by rw [hf.out]), ((Below.refl _ _).alloc (Nat.le_refl _) _).trans (hb.mono (by simp))⟩
  · have ha := Lib.hid (show chk y m d h mi s ms = 0 by unfold chk; rw [a]; rfl)
    obtain ⟨hv, ⟨h1, h2⟩, ⟨h3, h4⟩, ⟨h5, h6⟩, h7, h8⟩ := chkB_iff a
    obtain ⟨n1, n2⟩ := Cal.num_bd hv
    have a' := Lib.hid a
    clear a
    cases b : inB z (-1440) 1440
    · have hf := Lib.hid (show millis y m d h mi s ms z = (0, 2) by unfold millis; rw [if_neg (by rw [a'.out]; decide), if_pos b])
      rcases inB_false b with b | b
      all_goals
        go_enter Tryd.func13, Tryd.ntmps13
        go_wp2_with (go_at_call 15; refine (hc.out _).mono ?_; rintro e w1 ⟨rfl, hb⟩; rw [ha.out])
        go_ret2
        exact ⟨ret2 (by rw [hf.out]) (by rw [hf.out]), ((Below.refl _ _).alloc (Nat.le_refl _) _).trans (hb.mono (by simp))⟩
    · obtain ⟨z3, z4⟩ := (inB_iff _ _ _).1 b
      have hd := Lib.hid fun W => rdays_yes y m d W hv
      clear hv
      cases c : inB (msOf y m d h mi s ms z) (-62135596800000) 253402300799999
      · have hf := Lib.hid (show millis y m d h mi s ms z = (0, 2) by unfold millis; rw [if_neg (by rw [a'.out]; decide), if_neg (by rw [b]; decide), if_pos c])
        rcases inB_false c with c | c
        all_goals
          unfold msOf at c
          go_enter Tryd.func13, Tryd.ntmps13
          go_wp2_with (first | (go_at_call 15; refine (hc.out _).mono ?_; rintro e w1 ⟨rfl, hb⟩; rw [ha.out]; obtain ⟨hk, hk2⟩ := bcell hb) | (go_at_call 25; refine (hd.out _).mono ?_; rintro e w' ⟨rfl, rfl⟩))
          go_ret2
          exact ⟨ret2 (by rw [hf.out]) (by rw [hf.out]), ((Below.refl _ _).alloc (Nat.le_refl _) _).trans (hb.mono (by simp))⟩
      · have hf := Lib.hid (show millis y m d h mi s ms z = (msOf y m d h mi s ms z, 0) by unfold millis; rw [if_neg (by rw [a'.out]; decide), if_neg (by rw [b]; decide), if_neg (by rw [c]; decide)])
        obtain ⟨c1, c2⟩ := (inB_iff _ _ _).1 c
        unfold msOf at c1 c2
        clear c
        go_enter Tryd.func13, Tryd.ntmps13
        go_wp2_with (first | (go_at_call 15; refine (hc.out _).mono ?_; rintro e w1 ⟨rfl, hb⟩; rw [ha.out]; obtain ⟨hk, hk2⟩ := bcell hb) | (go_at_call 25; refine (hd.out _).mono ?_; rintro e w' ⟨rfl, rfl⟩))
        go_ret2
        exact ⟨ret2 (by rw [hf.out]; unfold msOf; omega) (by rw [hf.out]), ((Below.refl _ _).alloc (Nat.le_refl _) _).trans (hb.mono (by simp))⟩

theorem tdiv_floor (l : Int) : (0 ≤ l.tmod 86400000 → l.tdiv 86400000 = l / 86400000) ∧ (l.tmod 86400000 < 0 → l.tdiv 86400000 - 1 = l / 86400000) := by
  have h1 := tmod_split l 86400000 (by omega)
  have h2 := Int.tmod_add_mul_tdiv l 86400000
  constructor <;> intro h <;> omega

theorem rdates_no (ms z : Int) (w : World) (hd : datB ms z = false) :
    Calls Tryd.prog 17 #[.int .i64 ms, .int .i64 z] w fun e w' => e = .returned (.tuple #[dateV 0 0 0 0 0 0 0, .int .i64 2]) ∧ Below w.heap.size w w' := by
  unfold datB at hd
  cases a : inB ms (-62135596800000) 253402300799999
  · clear hd
    rcases inB_false a with a | a
    all_goals
      go_enter Tryd.func17, Tryd.ntmps17
      go_wp2_with fail
      exact bodyPost_ret (v := .tuple #[dateV 0 0 0 0 0 0 0, .int .i64 2]) (by simp [results, Tryd.results17, go_sem]) rfl ⟨rfl, (Below.refl _ _).alloc (Nat.le_refl _) _⟩
  · obtain ⟨a1, a2⟩ := (inB_iff _ _ _).1 a
    cases b : inB z (-1440) 1440
    · clear hd
      rcases inB_false b with b | b
      all_goals
        go_enter Tryd.func17, Tryd.ntmps17
        go_wp2_with fail
        exact bodyPost_ret (v := .tuple #[dateV 0 0 0 0 0 0 0, .int .i64 2]) (by simp [results, Tryd.results17, go_sem]) rfl ⟨rfl, (Below.refl _ _).alloc (Nat.le_refl _) _⟩
    · obtain ⟨b1, b2⟩ := (inB_iff _ _ _).1 b
      have hn : dayOf ms z < -719162 ∨ 2932896 < dayOf ms z := by
        have h : ¬ inB (dayOf ms z) (-719162) 2932896 = true := by rw [a, b] at hd; simp at hd; rw [hd]; decide
        rw [inB_iff] at h; omega
      have ts := Lib.hid (tdiv_floor (ms + z * 60000))
      obtain ⟨t1, t2⟩ := tmod_bd (ms + z * 60000) 86400000 (by omega)
      have hN := Lib.hid fun W => rcivil_no (dayOf ms z) W hn
      have q1 : -10000000 ≤ (ms + z * 60000).tdiv 86400000 := by have := tdiv_floor (ms + z * 60000); omega
      have q2 : (ms + z * 60000).tdiv 86400000 ≤ 10000000 := by have := tdiv_floor (ms + z * 60000); omega
      clear hd hn
      by_cases c : (ms + z * 60000).tmod 86400000 < 0
      · go_enter Tryd.func17, Tryd.ntmps17
        go_wp2_with (go_at_call 26; refine (calls_at (arg1 (ts.out.2 c)) (hN.out _)).mono ?_; rintro e w1 ⟨rfl, rfl⟩)
        exact bodyPost_ret (v := .tuple #[dateV 0 0 0 0 0 0 0, .int .i64 2]) (by simp [results, Tryd.results17, go_sem]) rfl ⟨rfl, (Below.refl _ _).alloc (Nat.le_refl _) _⟩
      · have c' : 0 ≤ (ms + z * 60000).tmod 86400000 := by omega
        go_enter Tryd.func17, Tryd.ntmps17
        go_wp2_with (go_at_call 26; refine (calls_at (arg1 (ts.out.1 c')) (hN.out _)).mono ?_; rintro e w1 ⟨rfl, rfl⟩)
        exact bodyPost_ret (v := .tuple #[dateV 0 0 0 0 0 0 0, .int .i64 2]) (by simp [results, Tryd.results17, go_sem]) rfl ⟨rfl, (Below.refl _ _).alloc (Nat.le_refl _) _⟩

theorem rdates_yes (ms z : Int) (w : World) (hd : datB ms z = true) :
    Calls Tryd.prog 17 #[.int .i64 ms, .int .i64 z] w fun e w' => e = .returned (.tuple #[dateAt (Cal.civ (dayOf ms z)) (restOf ms z), .int .i64 0]) ∧ Below w.heap.size w w' := by
  unfold datB at hd
  simp only [Bool.and_eq_true] at hd
  obtain ⟨a, b, c⟩ := hd
  obtain ⟨a1, a2⟩ := (inB_iff _ _ _).1 a
  obtain ⟨b1, b2⟩ := (inB_iff _ _ _).1 b
  have tm := Lib.hid (tmod_split (ms + z * 60000) 86400000 (by omega))
  have ts := Lib.hid (tdiv_floor (ms + z * 60000))
  obtain ⟨t1, t2⟩ := tmod_bd (ms + z * 60000) 86400000 (by omega)
  have hC := Lib.hid fun W => rcivil_yes (dayOf ms z) W ((inB_iff _ _ _).1 c).1 ((inB_iff _ _ _).1 c).2
  have q1 : -10000000 ≤ (ms + z * 60000).tdiv 86400000 := by have := tdiv_floor (ms + z * 60000); omega
  have q2 : (ms + z * 60000).tdiv 86400000 ≤ 10000000 := by have := tdiv_floor (ms + z * 60000); omega
  clear c a b
  by_cases c : (ms + z * 60000).tmod 86400000 < 0
  · go_enter Tryd.func17, Tryd.ntmps17
    go_wp2_with (go_at_call 26; refine (calls_at (arg1 (ts.out.2 c)) (hC.out _)).mono ?_; rintro e w1 ⟨rfl, n, rfl⟩)
    refine bodyPost_ret (v := .tuple #[dateAt (Cal.civ (dayOf ms z)) ((ms + z * 60000).tmod 86400000 + 86400000), .int .i64 0]) (by simp [results, Tryd.results17, go_sem]) rfl ⟨ret_date (by unfold restOf; have := tm.out; omega), by repeat (first | refine Below.setCell ?_ (by simp) _ | exact below_drewN ((Below.refl _ _).alloc (Nat.le_refl _) _) _)⟩
  · have c' : 0 ≤ (ms + z * 60000).tmod 86400000 := by omega
    have hx := Lib.hid (show (ms + z * 60000).tmod 1000 = (ms + z * 60000).tmod 86400000 % 1000 by
      rw [← Int.tmod_eq_emod_of_nonneg c', Int.tmod_tmod_of_dvd _ (by decide)])
    go_enter Tryd.func17, Tryd.ntmps17
    go_wp2_with (go_at_call 26; refine (calls_at (arg1 (ts.out.1 c')) (hC.out _)).mono ?_; rintro e w1 ⟨rfl, n, rfl⟩)
    refine bodyPost_ret (v := .tuple #[dateAt (Cal.civ (dayOf ms z)) ((ms + z * 60000).tmod 86400000), .int .i64 0]) (by simp [results, Tryd.results17, go_sem]; exact hx.out) rfl ⟨ret_date (by unfold restOf; have := tm.out; omega), by repeat (first | refine Below.setCell ?_ (by simp) _ | exact below_drewN ((Below.refl _ _).alloc (Nat.le_refl _) _) _)⟩

end Go.Proofs.YtplbaffcgkjmjaaDoor

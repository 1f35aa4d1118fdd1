/-
  The walk of CalendarTimes.
-/
import Derived.Test.YtplbaffcgkjmjaaDoorCalN
import Derived.Deep.DeepCutAuto
import Derived.Deep.LoopGhost
namespace Go.Proofs.YtplbaffcgkjmjaaDoor
open Go.RowKit Go.Sort

/-- The seven cells of a date at an address. -/
def DateAt (W : World) (b o : Nat) (y m d h mi s ms : Int) : Prop :=
  W.cell? ⟨b, o, none⟩ = some (.int .i64 y) ∧ W.cell? ⟨b, o + 1, none⟩ = some (.int .i64 m) ∧ W.cell? ⟨b, o + 2, none⟩ = some (.int .i64 d) ∧ W.cell? ⟨b, o + 3, none⟩ = some (.int .i64 h) ∧
  W.cell? ⟨b, o + 4, none⟩ = some (.int .i64 mi) ∧ W.cell? ⟨b, o + 5, none⟩ = some (.int .i64 s) ∧ W.cell? ⟨b, o + 6, none⟩ = some (.int .i64 ms)
theorem DateAt.below {W W' : World} {b o : Nat} {y m d h mi s ms : Int} (a : DateAt W b o y m d h mi s ms) (hb : Below W.heap.size W W') : DateAt W' b o y m d h mi s ms := by
  obtain ⟨c0, c1, c2, c3, c4, c5, c6⟩ := a
  have hlt : b < W.heap.size := World.block_lt_of_cell? W _ c0
  exact ⟨(hb.cell (p := ⟨b, o, none⟩) hlt).trans c0, (hb.cell (p := ⟨b, o + 1, none⟩) hlt).trans c1, (hb.cell (p := ⟨b, o + 2, none⟩) hlt).trans c2, (hb.cell (p := ⟨b, o + 3, none⟩) hlt).trans c3,
    (hb.cell (p := ⟨b, o + 4, none⟩) hlt).trans c4, (hb.cell (p := ⟨b, o + 5, none⟩) hlt).trans c5, (hb.cell (p := ⟨b, o + 6, none⟩) hlt).trans c6⟩

/-- Dates and Format of the program and of the reference return the same, for every time and zone. -/
theorem same_dates (t z : Int) : ∃ (F0 F1 F2 F3 F4 F5 F6 er : Int) (st : ByteArray),
    (∀ W, G W → Calls Tryd.prog 16 #[.int .i64 t, .int .i64 z] W fun e w' => e = .returned (.tuple #[dateV F0 F1 F2 F3 F4 F5 F6, .int .i64 er]) ∧ Below W.heap.size W w') ∧
    (∀ W, Calls Tryd.prog 17 #[.int .i64 t, .int .i64 z] W fun e w' => e = .returned (.tuple #[dateV F0 F1 F2 F3 F4 F5 F6, .int .i64 er]) ∧ Below W.heap.size W w') ∧
    (∀ W, G W → Calls Tryd.prog 18 #[.int .i64 t, .int .i64 z] W fun e w' => e = .returned (.tuple #[.string st, .int .i64 er]) ∧ Below W.heap.size W w') ∧
    (∀ W, Calls Tryd.prog 19 #[.int .i64 t, .int .i64 z] W fun e w' => e = .returned (.tuple #[.string st, .int .i64 er]) ∧ Below W.heap.size W w') := by
  cases hd : datB t z
  · exact ⟨0, 0, 0, 0, 0, 0, 0, 2, ⟨#[]⟩, fun W _ => dates_no t z W hd, fun W => rdates_no t z W hd, fun W _ => format_no t z W hd, fun W => rformat_no t z W hd⟩
  · exact ⟨_, _, _, _, _, _, _, 0, ⟨(fmtL t z).toArray⟩, fun W hW => dates_yes t z W hW hd, fun W => rdates_yes t z W hd, fun W hW => format_yes t z W hW hd, fun W => rformat_yes t z W hd⟩

/-- What the statement 'e := api.Date{..}' leaves: some date in a new block. -/
def TimesCut (w1 : World) (v : Value) (wx : World) : Prop :=
  ∃ y m d h mi s ms : Int, v = .pointer (some ⟨w1.heap.size, 0, none⟩) ∧ DateAt wx w1.heap.size 0 y m d h mi s ms ∧ Below w1.heap.size w1 wx

set_option maxHeartbeats 3000000 in
set_option maxRecDepth 100000 in
theorem times_any (y m d h mi s ms t zone : Int) (w : World) (hg : G w) (z1 : -9223372036854775808 ≤ zone) (z2 : zone ≤ 9223372036854775807) :
    Calls Tryd.prog 4 #[dateV y m d h mi s ms, .int .i64 t, .int .i64 zone] w fun e w' => e = .returned (.bool true) ∧ Below w.heap.size w w' := by
  have HA := Lib.hid awake_any
  have HG := Lib.hid hg
  clear hg
  go_enter Tryd.func4, Tryd.ntmps4
  go_wp2_with fail
  refine (HA.out _ (HG.out.alloc _)).mono ?_
  rintro e w1 ⟨rfl, hb1⟩
  have G1 := Lib.hid ((HG.out.alloc _).below hb1)
  obtain ⟨hk1, hf1⟩ := bcell hb1
  go_upto_region 3 with fail
  have c0 : w1.cell? ⟨w.heap.size, 0, none⟩ = some (.int .i64 y) := by rw [hk1 _ _ (by simp)]; simp [go_sem]
  have c1 : w1.cell? ⟨w.heap.size, 1, none⟩ = some (.int .i64 m) := by rw [hk1 _ _ (by simp)]; simp [go_sem]
  have c2 : w1.cell? ⟨w.heap.size, 2, none⟩ = some (.int .i64 d) := by rw [hk1 _ _ (by simp)]; simp [go_sem]
  have c3 : w1.cell? ⟨w.heap.size, 3, none⟩ = some (.int .i64 h) := by rw [hk1 _ _ (by simp)]; simp [go_sem]
  have c4 : w1.cell? ⟨w.heap.size, 4, none⟩ = some (.int .i64 mi) := by rw [hk1 _ _ (by simp)]; simp [go_sem]
  have c5 : w1.cell? ⟨w.heap.size, 5, none⟩ = some (.int .i64 s) := by rw [hk1 _ _ (by simp)]; simp [go_sem]
  have c6 : w1.cell? ⟨w.heap.size, 6, none⟩ = some (.int .i64 ms) := by rw [hk1 _ _ (by simp)]; simp [go_sem]
  have hlt : w.heap.size < w1.heap.size := by have := hb1.size; simp at this; omega
  clear hk1 hf1
  go_cut [7] (fun s7 wx => TimesCut w1 s7 wx)
  case first =>
   go_region_held3 (fun W => W.cell? ⟨w.heap.size, 0, none⟩ = some (.int .i64 y) ∧ W.cell? ⟨w.heap.size, 1, none⟩ = some (.int .i64 m) ∧ W.cell? ⟨w.heap.size, 2, none⟩ = some (.int .i64 d) ∧ W.cell? ⟨w.heap.size, 3, none⟩ = some (.int .i64 h) ∧ W.cell? ⟨w.heap.size, 4, none⟩ = some (.int .i64 mi) ∧ W.cell? ⟨w.heap.size, 5, none⟩ = some (.int .i64 s) ∧ W.cell? ⟨w.heap.size, 6, none⟩ = some (.int .i64 ms)) (go_keep)
     (first | (go_at_call 7; refine (near_any _ _ _ _ (by omega) (by omega) (by omega)).mono ?_; rintro e w' ⟨rfl, rfl⟩))
   all_goals (go_wp2_with fail; go_meet; exact ⟨1 + y % 9999, 1 + m % 12, 1 + d % 31, h % 25, mi % 61, s % 61, ms % 1001, rfl, ⟨by simp [go_sem], by simp [go_sem], by simp [go_sem], by simp [go_sem], by simp [go_sem], by simp [go_sem], by simp [go_sem]⟩, (((Below.refl _ _).alloc (Nat.le_refl _) _).drew)⟩)
  case rest =>
    obtain ⟨y', m', d', h', mi', s', ms', rfl, hE, hb2⟩ := hcut
    obtain ⟨Z, hZ⟩ : ∃ Z, Z = -1441 + zone % (1441 - (-1441) + 1) := ⟨_, rfl⟩
    have Z1 : -9223372036854775808 ≤ Z := by have := near_bd zone (-1441) 1441 (by decide); omega
    have Z2 : Z ≤ 9223372036854775807 := by have := near_bd zone (-1441) 1441 (by decide); omega
    have hN : Hid (∀ W, Calls Tryd.prog 7 #[.int .i64 zone, .int .i64 (-1441), .int .i64 1441] W fun e w' => e = .returned (.int .i64 Z) ∧ W = w') := by
      intro W; rw [hZ]; exact near_any zone (-1441) 1441 W (by omega) (by omega) (by omega)
    clear hZ
    have hD : DateAt w1 w.heap.size 0 y m d h mi s ms := ⟨c0, c1, c2, c3, c4, c5, c6⟩
    have hD2 := hD.below hb2
    have G2 := Lib.hid (G1.out.below hb2)
    have hb12 : Below w.heap.size w wc := (((Below.refl _ _).alloc (Nat.le_refl _) _).trans (hb1.mono (by simp))).trans (hb2.mono (by omega))
    clear c0 c1 c2 c3 c4 c5 c6 hD hb2 hb1 HA G1 HG
    go_wp2_with fail
    refine (hN.out _).mono ?_
    rintro e w' ⟨rfl, rfl⟩
    go_wp2_with fail
    obtain ⟨W2, hW2⟩ : ∃ W, wc.alloc (.cells #[.int .i64 zone, .int .i64 Z, .int .i64 0] 3) = W := ⟨_, rfl⟩
    have bW : Below wc.heap.size wc W2 := by rw [← hW2]; exact (Below.refl _ _).alloc (Nat.le_refl _) _
    have hzs : ∀ k : Nat, k < 3 → ∃ z, W2.cell? ⟨wc.heap.size, k, none⟩ = some (.int .i64 z) ∧ -9223372036854775808 ≤ z ∧ z ≤ 9223372036854775807 := by
      intro k hk
      rw [← hW2]
      obtain rfl | rfl | rfl : k = 0 ∨ k = 1 ∨ k = 2 := by omega
      · exact ⟨zone, by simp [go_sem], z1, z2⟩
      · exact ⟨Z, by simp [go_sem], Z1, Z2⟩
      · exact ⟨0, by simp [go_sem], by omega, by omega⟩
    have hE2 := hE.below bW
    have hD3 := hD2.below bW
    have G3 := Lib.hid (G2.out.below bW)
    have hb3 := hb12.trans (bW.mono hb12.size)
    have hlt2 : wc.heap.size < W2.heap.size := by rw [← hW2]; simp
    rw [hW2]
    have HZ := Lib.hid hzs
    have HE2 := Lib.hid hE2
    have HD3 := Lib.hid hD3
    clear hW2 bW hE hD2 hb12 G2 hN hzs hE2 hD3
    go_loopw [55] (fun i wr => ∃ k : Nat, k ≤ 3 ∧ i = .int .i64 k ∧ Below W2.heap.size W2 wr) (fun i _ => 3 - (intOf i).toNat)
    case atStart => exact ⟨0, by omega, rfl, Below.refl _ _⟩
    case round =>
      obtain ⟨k, hk, rfl, hbr⟩ := hrel
      by_cases hlt : k < 3
      · have kb : decide ((k : Int) < 3) = true := by simp; omega
        obtain ⟨z, hz, za, zb⟩ := HZ.out k hlt
        have hz' : wr.cell? ⟨wc.heap.size, k, none⟩ = some (.int .i64 z) := (hbr.cell (p := ⟨wc.heap.size, k, none⟩) hlt2).trans hz
        obtain ⟨d0, d1, d2, d3, d4, d5, d6⟩ := HD3.out.below hbr
        obtain ⟨e0, e1, e2, e3, e4, e5, e6⟩ := HE2.out.below hbr
        clear hz
        simp only [Nat.zero_add] at d0 d1 d2 d3 d4 d5 d6 e0 e1 e2 e3 e4 e5 e6
        go_wp2_with fail
        obtain ⟨wo, rfl⟩ : ∃ wo : World, wo = wr := ⟨_, rfl⟩
        obtain ⟨W3, hW3⟩ : ∃ W, wo.alloc (.cells #[.int .i64 y, .int .i64 m, .int .i64 d, .int .i64 h, .int .i64 mi, .int .i64 s, .int .i64 ms, .int .i64 y', .int .i64 m', .int .i64 d', .int .i64 h', .int .i64 mi', .int .i64 s', .int .i64 ms'] 32) = W := ⟨_, rfl⟩
        have bW3 : Below wo.heap.size wo W3 := by rw [← hW3]; exact (Below.refl _ _).alloc (Nat.le_refl _) _
        have hds : Hid (∀ j : Nat, j < 2 → ∃ f0 f1 f2 f3 f4 f5 f6 : Int, DateAt W3 wo.heap.size (j * 7) f0 f1 f2 f3 f4 f5 f6) := by
          intro j hj
          rw [← hW3]
          obtain rfl | rfl : j = 0 ∨ j = 1 := by omega
          · exact ⟨y, m, d, h, mi, s, ms, by simp [go_sem], by simp [go_sem], by simp [go_sem], by simp [go_sem], by simp [go_sem], by simp [go_sem], by simp [go_sem]⟩
          · exact ⟨y', m', d', h', mi', s', ms', by simp [go_sem], by simp [go_sem], by simp [go_sem], by simp [go_sem], by simp [go_sem], by simp [go_sem], by simp [go_sem]⟩
        have hbr3 : Below W2.heap.size W2 W3 := hbr.trans (bW3.mono hbr.size)
        have G4 := Lib.hid (G3.out.below hbr3)
        rw [hW3]
        clear hW3 bW3 d0 d1 d2 d3 d4 d5 d6 e0 e1 e2 e3 e4 e5 e6 hz' hbr
        go_loopw [63] (fun i wx => ∃ j : Nat, j ≤ 2 ∧ i = .int .i64 j ∧ Below W3.heap.size W3 wx) (fun i _ => 2 - (intOf i).toNat)
        case atStart => exact ⟨0, by omega, rfl, Below.refl _ _⟩
        case round =>
          obtain ⟨j, hj, rfl, hbj⟩ := hrel
          by_cases hjlt : j < 2
          · have jb : decide ((j : Int) < 2) = true := by simp; omega
            obtain ⟨f0, f1, f2, f3, f4, f5, f6, hF⟩ := hds.out j hjlt
            obtain ⟨d0, d1, d2, d3, d4, d5, d6⟩ := hF.below hbj
            have G5 := Lib.hid (G4.out.below hbj)
            have H1 := Lib.hid fun o => millis_any f0 f1 f2 f3 f4 f5 f6 z (wr.alloc o) (G5.out.alloc o)
            have H2 := Lib.hid fun W => rmillis_any f0 f1 f2 f3 f4 f5 f6 z W za zb
            generalize (millis f0 f1 f2 f3 f4 f5 f6 z).1 = A at *
            generalize (millis f0 f1 f2 f3 f4 f5 f6 z).2 = E at *
            go_wp2_with fail
            refine (H1.out _).mono ?_
            rintro e w5 ⟨rfl, hb5⟩
            have hd5 : DateAt w5 wr.heap.size 0 f0 f1 f2 f3 f4 f5 f6 := DateAt.below (W := wr.alloc (.cells #[.int .i64 f0, .int .i64 f1, .int .i64 f2, .int .i64 f3, .int .i64 f4, .int .i64 f5, .int .i64 f6] 32)) ⟨by simp [go_sem], by simp [go_sem], by simp [go_sem], by simp [go_sem], by simp [go_sem], by simp [go_sem], by simp [go_sem]⟩ hb5
            obtain ⟨g0, g1, g2, g3, g4, g5, g6⟩ := hd5
            simp only [Nat.zero_add] at g0 g1 g2 g3 g4 g5 g6
            go_wp2_with fail
            refine (H2.out _).mono ?_
            rintro e w6 ⟨rfl, hb6⟩
            have hd6 : DateAt w6 wr.heap.size 0 f0 f1 f2 f3 f4 f5 f6 := DateAt.below (W := w5) ⟨g0, g1, g2, g3, g4, g5, g6⟩ hb6
            have G6 := Lib.hid (((G5.out.alloc _).below hb5).below hb6)
            clear g0 g1 g2 g3 g4 g5 g6 d0 d1 d2 d3 d4 d5 d6
            obtain ⟨g0, g1, g2, g3, g4, g5, g6⟩ := hd6
            simp only [Nat.zero_add] at g0 g1 g2 g3 g4 g5 g6
            have k0 := cell_regrown g0
            have k1 := cell_regrown g1
            have k2 := cell_regrown g2
            have k3 := cell_regrown g3
            have k4 := cell_regrown g4
            have k5 := cell_regrown g5
            have k6 := cell_regrown g6
            have hg := Lib.hid fun dd os => G6.out.below (below_regrown w6 dd os)
            have H3 := Lib.hid fun W (hW : G W) => check_any f0 f1 f2 f3 f4 f5 f6 W hW
            have H4 := Lib.hid fun W => rcheck_any f0 f1 f2 f3 f4 f5 f6 W
            generalize chk f0 f1 f2 f3 f4 f5 f6 = C at *
            go_wp2_with fail
            refine wp_region_quiet_below (by kernel_rfl) (by kernel_rfl) ?_
            repeat (first | go_big_quiet_step (first | (go_at_call 14; exact Calls.regrown_of (H3.out _ (hg.out _ _))) | (go_at_call 15; exact Calls.regrown_of (H4.out _))) | quiet_step (first | (go_at_call 14; exact Calls.regrown_of (H3.out _ (hg.out _ _))) | (go_at_call 15; exact Calls.regrown_of (H4.out _))))
            refine wpQuiet_nil ?_
            rintro _ ⟨⟨dq, osq⟩, rfl⟩
            have bq := below_regrown w6 dq osq
            have hb56 : Below W3.heap.size W3 w6 := ((hbj.alloc hbj.size _).trans (hb5.mono (by have := hbj.size; simp; omega))).trans (hb6.mono (by have := hbj.size; have := hb5.size; simp at this; omega))
            clear k0 k1 k2 k3 k4 k5 k6
            go_wp2_with fail
            go_roundw
            case rel => exact ⟨j + 1, by omega, by go_num, hb56.trans (bq.mono hb56.size)⟩
            case measure => simp [intOf]; omega
          · obtain rfl : j = 2 := by omega
            go_wp2_with fail
            refine (near_any _ _ _ _ (by omega) (by omega) (by omega)).mono ?_
            rintro e w' ⟨rfl, rfl⟩
            go_wp2_with fail
            refine (near_any _ _ _ _ (by omega) (by omega) (by omega)).mono ?_
            rintro e w' ⟨rfl, rfl⟩
            go_wp2_with fail
            refine (near_any _ _ _ _ (by omega) (by omega) (by omega)).mono ?_
            rintro e w' ⟨rfl, rfl⟩
            go_wp2_with fail
            obtain ⟨wi, rfl⟩ : ∃ wi : World, wi = wr := ⟨_, rfl⟩
            obtain ⟨W4, hW4⟩ : ∃ W, wi.alloc (.cells #[.int .i64 t, .int .i64 (-62135596800005 + t % 315537897600010), .int .i64 (-62135596800000 + t % 100000000), .int .i64 (253402300799999 - t % 100000000)] 3) = W := ⟨_, rfl⟩
            have bW4 : Below wi.heap.size wi W4 := by rw [← hW4]; exact (Below.refl _ _).alloc (Nat.le_refl _) _
            have hlt4 : wi.heap.size < W4.heap.size := by rw [← hW4]; simp
            have hts : Hid (∀ i : Nat, i < 4 → ∃ q, W4.cell? ⟨wi.heap.size, i, none⟩ = some (.int .i64 q)) := by
              intro i hi
              rw [← hW4]
              obtain rfl | rfl | rfl | rfl : i = 0 ∨ i = 1 ∨ i = 2 ∨ i = 3 := by omega
              all_goals exact ⟨_, by simp [go_sem]; rfl⟩
            have hb34 : Below W3.heap.size W3 W4 := hbj.trans (bW4.mono hbj.size)
            have hb24 : Below W2.heap.size W2 W4 := hbr3.trans (hb34.mono hbr3.size)
            have G5 := Lib.hid (G4.out.below hb34)
            rw [hW4]
            clear hW4 bW4 hbj
            go_loopw [105] (fun i wx => ∃ j : Nat, j ≤ 4 ∧ i = .int .i64 j ∧ Below W4.heap.size W4 wx) (fun i _ => 4 - (intOf i).toNat)
            case atStart => exact ⟨0, by omega, rfl, Below.refl _ _⟩
            case round =>
              obtain ⟨j, hj, rfl, hbq⟩ := hrel
              by_cases hq4 : j < 4
              · have jb : decide ((j : Int) < 4) = true := by simp; omega
                obtain ⟨q, hq⟩ := hts.out j hq4
                have hq' : wr.cell? ⟨wi.heap.size, j, none⟩ = some (.int .i64 q) := (hbq.cell (p := ⟨wi.heap.size, j, none⟩) hlt4).trans hq
                obtain ⟨F0, F1, F2, F3, F4, F5, F6, er, st, h1, h2, h3, h4⟩ := same_dates q z
                have H1 := Lib.hid h1
                have H2 := Lib.hid h2
                have H3 := Lib.hid h3
                have H4 := Lib.hid h4
                have G6 := Lib.hid (G5.out.below hbq)
                clear hq h1 h2 h3 h4
                go_wp2_with fail
                refine (H1.out _ G6.out).mono ?_
                rintro e w5 ⟨rfl, hb5⟩
                clear hq'
                have hbA := hbq.trans (hb5.mono hbq.size)
                go_wp2_with fail
                refine (H2.out _).mono ?_
                rintro e w6 ⟨rfl, hb6⟩
                have hd6 : DateAt w6 w5.heap.size 0 F0 F1 F2 F3 F4 F5 F6 := DateAt.below (W := w5.alloc (.cells #[.int .i64 F0, .int .i64 F1, .int .i64 F2, .int .i64 F3, .int .i64 F4, .int .i64 F5, .int .i64 F6] 32)) ⟨by simp [go_sem], by simp [go_sem], by simp [go_sem], by simp [go_sem], by simp [go_sem], by simp [go_sem], by simp [go_sem]⟩ hb6
                have hbB := (hbA.alloc hbA.size (.cells #[.int .i64 F0, .int .i64 F1, .int .i64 F2, .int .i64 F3, .int .i64 F4, .int .i64 F5, .int .i64 F6] 32)).trans (hb6.mono (by have := hbA.size; simp; omega))
                have hbC := hbB.alloc hbB.size (.cells #[.int .i64 F0, .int .i64 F1, .int .i64 F2, .int .i64 F3, .int .i64 F4, .int .i64 F5, .int .i64 F6] 32)
                have G7 := Lib.hid (G5.out.below hbC)
                go_wp2_with fail
                refine (H3.out _ G7.out).mono ?_
                rintro e w7 ⟨rfl, hb7⟩
                have hd7 : DateAt w7 w6.heap.size 0 F0 F1 F2 F3 F4 F5 F6 := DateAt.below (W := w6.alloc (.cells #[.int .i64 F0, .int .i64 F1, .int .i64 F2, .int .i64 F3, .int .i64 F4, .int .i64 F5, .int .i64 F6] 32)) ⟨by simp [go_sem], by simp [go_sem], by simp [go_sem], by simp [go_sem], by simp [go_sem], by simp [go_sem], by simp [go_sem]⟩ hb7
                have hd6' := (hd6.below ((Below.refl _ _).alloc (Nat.le_refl _) (.cells #[.int .i64 F0, .int .i64 F1, .int .i64 F2, .int .i64 F3, .int .i64 F4, .int .i64 F5, .int .i64 F6] 32))).below hb7
                have hbD := hbC.trans (hb7.mono hbC.size)
                go_wp2_with fail
                refine (H4.out _).mono ?_
                rintro e w8 ⟨rfl, hb8⟩
                have hbE := hbD.trans (hb8.mono hbD.size)
                obtain ⟨d0, d1, d2, d3, d4, d5, d6⟩ := hd6'.below hb8
                obtain ⟨e0, e1, e2, e3, e4, e5, e6⟩ := hd7.below hb8
                simp only [Nat.zero_add] at d0 d1 d2 d3 d4 d5 d6 e0 e1 e2 e3 e4 e5 e6
                go_wp2_with fail
                go_roundw
                case rel => exact ⟨j + 1, by omega, by go_num, hbE⟩
                case measure => simp [intOf]; omega
              · obtain rfl : j = 4 := by omega
                go_wp2_with fail
                go_roundw
                case rel => exact ⟨k + 1, by omega, by go_num, hb24.trans (hbq.mono hb24.size)⟩
                case measure => simp [intOf]; omega
      · obtain rfl : k = 3 := by omega
        go_wp2_with fail
        go_ret
        exact ⟨rfl, hb3.trans (hbr.mono hb3.size)⟩

end Go.Proofs.YtplbaffcgkjmjaaDoor

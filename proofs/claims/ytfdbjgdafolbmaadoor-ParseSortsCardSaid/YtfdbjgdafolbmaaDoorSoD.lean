/-
  symMergeCmpFunc: the general case; all cases.
-/
import Derived.Test.YtfdbjgdafolbmaaDoorSoC
namespace Go.Proofs.YtfdbjgdafolbmaaDoor
open Go.RowKit Go.Sort Go.Shelf

def SymC (w0 : World) (blk cap : Nat) (a m b : Nat) (D : Array Fd) (W : World) : Prop :=
  Calls Tryd.prog 63 #[.slice (some ⟨blk, 0, none⟩) D.size cap, .int .i64 a, .int .i64 m, .int .i64 b, cmpV] W fun e w' => e = .returned (.tuple #[]) ∧ ∃ d', Mg D a b d' ∧ RW w0 blk d' w'
theorem Mid.left {d d1 : Array Fd} {a m b mid s : Nat} (h : Mid d a m b mid s d1) (hs : a ≤ s) (hsm : s ≤ mid) (hn : ¬ (a < s ∧ s < mid)) : Mg d1 a mid d1 := by
  refine ⟨permIn_refl _ _ _, ?_⟩
  rcases Nat.eq_or_lt_of_le hs with c | c
  · rw [c]; exact h.s2
  · obtain rfl : s = mid := by omega
    exact h.s1
theorem Mid.right {d d1 d2 : Array Fd} {a m b mid s : Nat} (h : Mid d a m b mid s d1) (hp : PermIn a mid d1 d2) : SortedIn ltF mid (mid + m - s) d2 ∧ SortedIn ltF (mid + m - s) b d2 ∨ mid + m - s < mid := by
  rcases Nat.lt_or_ge (mid + m - s) mid with c | c
  · exact .inr c
  · refine .inl ⟨fun i j h1 h2 h3 => ?_, fun i j h1 h2 h3 => ?_⟩
    · rw [hp.2.1 i (by omega), hp.2.1 j (by omega)]; exact h.s3 i j h1 h2 h3
    · rw [hp.2.1 i (by omega), hp.2.1 j (by omega)]; exact h.s4 i j h1 h2 h3
theorem mg_same {d : Array Fd} {a e b : Nat} (h : SortedIn ltF a e d ∧ SortedIn ltF e b d) (h1 : a ≤ e) (h2 : e ≤ b) (hn : ¬ (a < e ∧ e < b)) : Mg d a b d := by
  refine ⟨permIn_refl _ _ _, ?_⟩
  rcases Nat.eq_or_lt_of_le h1 with c | c
  · rw [c]; exact h.2
  · obtain rfl : e = b := by omega
    exact h.1

set_option maxRecDepth 100000 in
set_option maxHeartbeats 8000000 in
theorem symM_3 {w0 W : World} {blk : Nat} {d : Array Fd} (cap a m b : Nat) (h : RW w0 blk d W) (ham : a + 1 < m) (hmb : m + 1 < b) (hb : b ≤ d.size) (hd : d.size ≤ 1000) (hs1 : SortedIn ltF a m d) (hs2 : SortedIn ltF m b d)
    (IH : ∀ (a' m' b' : Nat) (D : Array Fd) (W' : World), b' - a' < b - a → a' < m' → m' < b' → b' ≤ D.size → D.size ≤ 1000 → SortedIn ltF a' m' D → SortedIn ltF m' b' D → RW w0 blk D W' → SymC w0 blk cap a' m' b' D W') :
    SymC w0 blk cap a m b d W := by
  unfold SymC at *
  have H0 := Lib.hid h
  have HS1 := Lib.hid hs1
  have HS2 := Lib.hid hs2
  have HIH := Lib.hid IH
  have t0 : ((m : Int) - (a : Int) == 1) = false := by rw [beq_eq_false_iff_ne]; omega
  have t1 : ((b : Int) - (m : Int) == 1) = false := by rw [beq_eq_false_iff_ne]; omega
  obtain ⟨mid, hmid⟩ : ∃ mid, (a + b) / 2 = mid := ⟨_, rfl⟩
  have e1 : ((a : Int) + (b : Int)) / 2 = (mid : Int) := by omega
  have m1 : a ≤ mid := by omega
  have m2 : mid < b := by omega
  have m3 : a + b ≤ 2 * mid + 1 := by omega
  have m4 : 2 * mid ≤ a + b := by omega
  have E1 := Lib.hid e1
  obtain ⟨p, hp⟩ : ∃ p, mid + m - 1 = p := ⟨_, rfl⟩
  have e2 : (mid : Int) + (m : Int) - 1 = (p : Int) := by omega
  have p1 : p + 1 = mid + m := by omega
  have HP1 := Lib.hid p1
  have p2 : p + 1 ≤ mid + m := by omega
  have p3 : mid + m ≤ p + 1 := by omega
  have E2 := Lib.hid e2
  clear h hs1 hs2 IH hmid hp e1 e2 p1
  have hcm : m ≤ mid ∨ mid < m := by omega
  go_enter Tryd.func63, Tryd.ntmps63
  rcases hcm with hcm | hcm
  · have t2 : decide ((mid : Int) < (m : Int)) = false := decide_eq_false (by omega)
    go_wp2_with fail
    rw [E1.out]
    go_wp2_with fail
    rw [E2.out, t2]
    go_loopg [20, 21, 23] (m - a) (fun z vi vj _ wr => ∃ s r : Nat, vi = .int .i64 s ∧ vj = .int .i64 r ∧ a ≤ s ∧ s ≤ r ∧ r ≤ m ∧ r - s = z ∧ (a < s → ltF d[p - (s - 1)]! d[s - 1]! = false) ∧ (r < m → ltF d[p - r]! d[r]! = true) ∧ RW w0 blk d wr)
    case atStart => exact ⟨a, m, rfl, rfl, by omega, by omega, by omega, rfl, fun h => by omega, fun h => by omega, H0.out⟩
    case round =>
      obtain ⟨s, r, rfl, rfl, hi, hij, hj, hz, hl, hr, hR⟩ := hrel
      have HL := Lib.hid hl
      have HRR := Lib.hid hr
      have HR := Lib.hid hR
      have HZ := Lib.hid hz
      clear hl hr hR H0 hz
      by_cases hlt : s < r
      · obtain ⟨c, hc⟩ : ∃ c, (s + r) / 2 = c := ⟨_, rfl⟩
        have e4 : ((s : Int) + (r : Int)) / 2 = (c : Int) := by omega
        have c1 : s ≤ c := by omega
        have c2 : c < r := by omega
        obtain ⟨q, hq⟩ : ∃ q, p - c = q := ⟨_, rfl⟩
        have q0 : q + c ≤ p := by omega
        have q0' : p ≤ q + c := by omega
        have HQ := Lib.hid hq
        have E4 := Lib.hid e4
        clear hc e4 hq
        go_wp2_with fail
        rw [E4.out]
        have i1 : (0 : Int) ≤ (c : Int) := by omega
        have i2 : (c : Int) < (d.size : Int) := by omega
        have i3 : (0 : Int) ≤ (q : Int) := by omega
        have i4 : (q : Int) < (d.size : Int) := by omega
        have i5 : IntKind.i64.wrap (q : Int) = (q : Int) := IntWalk.i64_in _ ⟨by omega, by omega⟩
        have i6 : (p : Int) - (c : Int) = (q : Int) := by omega
        obtain ⟨p1, p2⟩ := HR.out.cell (q) (by have := HR.out; omega)
        obtain ⟨q1, q2⟩ := HR.out.cell (c) (by omega)
        have hbk := HR.out.hi
        generalize hxx : d[q]! = x at *
        generalize hyy : d[c]! = y at *
        have HXX := Lib.hid hxx
        have HYY := Lib.hid hyy
        clear hxx hyy
        cases hc : ltF x y
        · have tc := cmp_is hc
          have HCC := Lib.hid hc
          clear hc
          go_region_held3 (fun W' => W'.cell? ⟨blk, (q) * 2, none⟩ = some (.string ⟨x.1.toArray⟩) ∧ W'.cell? ⟨blk, (q) * 2 + 1, none⟩ = some (.string ⟨x.2.toArray⟩) ∧ W'.cell? ⟨blk, (c) * 2, none⟩ = some (.string ⟨y.1.toArray⟩) ∧ W'.cell? ⟨blk, (c) * 2 + 1, none⟩ = some (.string ⟨y.2.toArray⟩)) (go_keep) (first | (go_at_call 29; refine (closure_b x y _).mono ?_; rintro e w2 ⟨rfl, hbl⟩; have z1 := (hbl.cell (p := ⟨blk, (q) * 2, none⟩) hbk).trans p1; have z2 := (hbl.cell (p := ⟨blk, (q) * 2 + 1, none⟩) hbk).trans p2; have z3 := (hbl.cell (p := ⟨blk, (c) * 2, none⟩) hbk).trans q1; have z4 := (hbl.cell (p := ⟨blk, (c) * 2 + 1, none⟩) hbk).trans q2))
          have HR2 := Lib.hid ((HR.out.later (W' := wr.drew) ((Below.refl _ _).drew)).later hbl)
          clear z1 z2 z3 z4 hbl
          clear i5 i6
          go_wp2_with fail
          go_roundg (r - (c + 1))
          case measure => have := HZ.out; omega
          case rel => exact ⟨c + 1, r, by go_num, rfl, by omega, by omega, hj, rfl, fun _ => by rw [Nat.add_sub_cancel, HQ.out, HXX.out, HYY.out]; exact HCC.out, fun h => HRR.out h, HR2.out⟩
        · have tc := cmp_is hc
          have HCC := Lib.hid hc
          clear hc
          go_region_held3 (fun W' => W'.cell? ⟨blk, (q) * 2, none⟩ = some (.string ⟨x.1.toArray⟩) ∧ W'.cell? ⟨blk, (q) * 2 + 1, none⟩ = some (.string ⟨x.2.toArray⟩) ∧ W'.cell? ⟨blk, (c) * 2, none⟩ = some (.string ⟨y.1.toArray⟩) ∧ W'.cell? ⟨blk, (c) * 2 + 1, none⟩ = some (.string ⟨y.2.toArray⟩)) (go_keep) (first | (go_at_call 29; refine (closure_b x y _).mono ?_; rintro e w2 ⟨rfl, hbl⟩; have z1 := (hbl.cell (p := ⟨blk, (q) * 2, none⟩) hbk).trans p1; have z2 := (hbl.cell (p := ⟨blk, (q) * 2 + 1, none⟩) hbk).trans p2; have z3 := (hbl.cell (p := ⟨blk, (c) * 2, none⟩) hbk).trans q1; have z4 := (hbl.cell (p := ⟨blk, (c) * 2 + 1, none⟩) hbk).trans q2))
          have HR2 := Lib.hid ((HR.out.later (W' := wr.drew) ((Below.refl _ _).drew)).later hbl)
          clear z1 z2 z3 z4 hbl
          clear i5 i6
          go_wp2_with fail
          go_roundg (c - s)
          case measure => have := HZ.out; omega
          case rel => exact ⟨s, c, rfl, rfl, hi, by omega, by omega, rfl, fun h => HL.out h, fun _ => by rw [HQ.out, HXX.out, HYY.out]; exact HCC.out, HR2.out⟩
      · obtain rfl : s = r := by omega
        obtain ⟨en, hen⟩ : ∃ en, mid + m - s = en := ⟨_, rfl⟩
        have e5 : (mid : Int) + (m : Int) - (s : Int) = (en : Int) := by omega
        have n1 : en + s ≤ mid + m := by omega
        have n2 : mid + m ≤ en + s := by omega
        have E5 := Lib.hid e5
        have HEN := Lib.hid hen
        have HMD := Lib.hid (fun d1 hrot => mid_of (d := d) (d1 := d1) (a := a) (m := m) (b := b) (mid := mid) (s := s) hb (by omega) (by omega) (by omega) (by omega) (by omega) (by omega) (by omega) HS1.out HS2.out
          (fun h1 h2 => by rw [show mid + m - s = p - (s - 1) by omega]; exact HL.out (by omega)) (fun h1 h2 => by rw [show mid + m - s - 1 = p - s by omega]; exact HRR.out (by omega)) hrot)
        rw [hen] at HMD
        clear hen e5 HL HRR
        by_cases r1 : s < m
        · by_cases r2 : m < en
          · have HC := Lib.hid (rotate_any cap s m en cmpV HR.out r1 r2 (by omega) hd)
            go_wp2_with fail
            rw [E5.out]
            refine HC.out.mono ?_
            rintro e w3 ⟨rfl, d1, hrot, h3⟩
            have H3 := Lib.hid h3
            have HM := Lib.hid (HMD.out d1 (.inl ⟨r1, r2, hrot⟩))
            have z1 : d1.size ≤ d.size := by have := HM.out.perm.1; omega
            have z2 : d.size ≤ d1.size := by have := HM.out.perm.1; omega
            have HZ1 := Lib.hid HM.out.perm.1
            clear h3 hrot HC HMD HR
            by_cases hL1 : a < s
            · by_cases hL2 : s < mid
              · have HCL := Lib.hid (HIH.out a s mid d1 w3 (by omega) hL1 hL2 (by omega) (by omega) HM.out.s1 HM.out.s2 H3.out)
                rw [HZ1.out] at HCL
                go_wp2_with fail
                all_goals
                  refine HCL.out.mono ?_
                  rintro e w4 ⟨rfl, d2, hg2, h4⟩
                  have HG2 := Lib.hid hg2
                  have H4 := Lib.hid h4
                  have HZ3 := Lib.hid (show d2.size = d.size from hg2.perm.1.trans HZ1.out)
                  clear hg2 h4 HCL
                  have hsr := HM.out.right HG2.out.perm
                  rw [HEN.out] at hsr
                  have HSR := Lib.hid (hsr.resolve_right (by omega))
                  clear hsr
                  by_cases hR1 : mid < en
                  · by_cases hR2 : en < b
                    · have HCR := Lib.hid (HIH.out mid en b d2 w4 (by omega) hR1 hR2 (by rw [HZ3.out]; exact hb) (by rw [HZ3.out]; exact hd) HSR.out.1 HSR.out.2 H4.out)
                      rw [HZ3.out] at HCR
                      go_wp2_with fail
                      all_goals
                        try rw [E5.out]
                        refine HCR.out.mono ?_
                        rintro e w5 ⟨rfl, d3, hg3, h5⟩
                        have HF := Lib.hid (show Mg d a b d3 ∧ RW w0 blk d3 w5 from ⟨HM.out.done hb (by omega) (by omega) HG2.out hg3, h5⟩)
                        clear hg3 h5
                        go_wp2_with fail
                        go_end0
                        exact ⟨rfl, d3, HF.out.1, HF.out.2⟩
                    · have HF := Lib.hid (show Mg d a b d2 from HM.out.done hb (by omega) (by omega) HG2.out (mg_same HSR.out (by omega) (by omega) (fun h => hR2 h.2)))
                      go_wp2_with fail
                      all_goals
                        go_end0
                        exact ⟨rfl, d2, HF.out, H4.out⟩
                  · have HF := Lib.hid (show Mg d a b d2 from HM.out.done hb (by omega) (by omega) HG2.out (mg_same HSR.out (by omega) (by omega) (fun h => hR1 h.1)))
                    go_wp2_with fail
                    all_goals
                      go_end0
                      exact ⟨rfl, d2, HF.out, H4.out⟩
              · have HG2 := Lib.hid (HM.out.left (by omega) (by omega) (fun h => hL2 h.2))
                have H4 := Lib.hid H3.out
                have HZ3 := Lib.hid HZ1.out
                have hsr := HM.out.right HG2.out.perm
                rw [HEN.out] at hsr
                have HSR := Lib.hid (hsr.resolve_right (by omega))
                clear hsr
                by_cases hR1 : mid < en
                · by_cases hR2 : en < b
                  · have HCR := Lib.hid (HIH.out mid en b d1 w3 (by omega) hR1 hR2 (by rw [HZ3.out]; exact hb) (by rw [HZ3.out]; exact hd) HSR.out.1 HSR.out.2 H4.out)
                    rw [HZ3.out] at HCR
                    go_wp2_with fail
                    all_goals
                      try rw [E5.out]
                      refine HCR.out.mono ?_
                      rintro e w5 ⟨rfl, d3, hg3, h5⟩
                      have HF := Lib.hid (show Mg d a b d3 ∧ RW w0 blk d3 w5 from ⟨HM.out.done hb (by omega) (by omega) HG2.out hg3, h5⟩)
                      clear hg3 h5
                      go_wp2_with fail
                      go_end0
                      exact ⟨rfl, d3, HF.out.1, HF.out.2⟩
                  · have HF := Lib.hid (show Mg d a b d1 from HM.out.done hb (by omega) (by omega) HG2.out (mg_same HSR.out (by omega) (by omega) (fun h => hR2 h.2)))
                    go_wp2_with fail
                    all_goals
                      go_end0
                      exact ⟨rfl, d1, HF.out, H4.out⟩
                · have HF := Lib.hid (show Mg d a b d1 from HM.out.done hb (by omega) (by omega) HG2.out (mg_same HSR.out (by omega) (by omega) (fun h => hR1 h.1)))
                  go_wp2_with fail
                  all_goals
                    go_end0
                    exact ⟨rfl, d1, HF.out, H4.out⟩
            · have HG2 := Lib.hid (HM.out.left (by omega) (by omega) (fun h => hL1 h.1))
              have H4 := Lib.hid H3.out
              have HZ3 := Lib.hid HZ1.out
              have hsr := HM.out.right HG2.out.perm
              rw [HEN.out] at hsr
              have HSR := Lib.hid (hsr.resolve_right (by omega))
              clear hsr
              by_cases hR1 : mid < en
              · by_cases hR2 : en < b
                · have HCR := Lib.hid (HIH.out mid en b d1 w3 (by omega) hR1 hR2 (by rw [HZ3.out]; exact hb) (by rw [HZ3.out]; exact hd) HSR.out.1 HSR.out.2 H4.out)
                  rw [HZ3.out] at HCR
                  go_wp2_with fail
                  all_goals
                    try rw [E5.out]
                    refine HCR.out.mono ?_
                    rintro e w5 ⟨rfl, d3, hg3, h5⟩
                    have HF := Lib.hid (show Mg d a b d3 ∧ RW w0 blk d3 w5 from ⟨HM.out.done hb (by omega) (by omega) HG2.out hg3, h5⟩)
                    clear hg3 h5
                    go_wp2_with fail
                    go_end0
                    exact ⟨rfl, d3, HF.out.1, HF.out.2⟩
                · have HF := Lib.hid (show Mg d a b d1 from HM.out.done hb (by omega) (by omega) HG2.out (mg_same HSR.out (by omega) (by omega) (fun h => hR2 h.2)))
                  go_wp2_with fail
                  all_goals
                    go_end0
                    exact ⟨rfl, d1, HF.out, H4.out⟩
              · have HF := Lib.hid (show Mg d a b d1 from HM.out.done hb (by omega) (by omega) HG2.out (mg_same HSR.out (by omega) (by omega) (fun h => hR1 h.1)))
                go_wp2_with fail
                all_goals
                  go_end0
                  exact ⟨rfl, d1, HF.out, H4.out⟩
          · have HM := Lib.hid (HMD.out d (.inr ⟨(fun h => r2 h.2), rfl⟩))
            have H3 := Lib.hid HR.out
            clear HMD HR
            by_cases hL1 : a < s
            · by_cases hL2 : s < mid
              · have HCL := Lib.hid (HIH.out a s mid d wr (by omega) hL1 hL2 (by omega) (by omega) HM.out.s1 HM.out.s2 H3.out)
                go_wp2_with fail
                all_goals
                  refine HCL.out.mono ?_
                  rintro e w4 ⟨rfl, d2, hg2, h4⟩
                  have HG2 := Lib.hid hg2
                  have H4 := Lib.hid h4
                  have HZ3 := Lib.hid (show d2.size = d.size from hg2.perm.1)
                  clear hg2 h4 HCL
                  have hsr := HM.out.right HG2.out.perm
                  rw [HEN.out] at hsr
                  have HSR := Lib.hid (hsr.resolve_right (by omega))
                  clear hsr
                  by_cases hR1 : mid < en
                  · by_cases hR2 : en < b
                    · have HCR := Lib.hid (HIH.out mid en b d2 w4 (by omega) hR1 hR2 (by rw [HZ3.out]; exact hb) (by rw [HZ3.out]; exact hd) HSR.out.1 HSR.out.2 H4.out)
                      rw [HZ3.out] at HCR
                      go_wp2_with fail
                      all_goals
                        try rw [E5.out]
                        refine HCR.out.mono ?_
                        rintro e w5 ⟨rfl, d3, hg3, h5⟩
                        have HF := Lib.hid (show Mg d a b d3 ∧ RW w0 blk d3 w5 from ⟨HM.out.done hb (by omega) (by omega) HG2.out hg3, h5⟩)
                        clear hg3 h5
                        go_wp2_with fail
                        go_end0
                        exact ⟨rfl, d3, HF.out.1, HF.out.2⟩
                    · have HF := Lib.hid (show Mg d a b d2 from HM.out.done hb (by omega) (by omega) HG2.out (mg_same HSR.out (by omega) (by omega) (fun h => hR2 h.2)))
                      go_wp2_with fail
                      all_goals
                        go_end0
                        exact ⟨rfl, d2, HF.out, H4.out⟩
                  · have HF := Lib.hid (show Mg d a b d2 from HM.out.done hb (by omega) (by omega) HG2.out (mg_same HSR.out (by omega) (by omega) (fun h => hR1 h.1)))
                    go_wp2_with fail
                    all_goals
                      go_end0
                      exact ⟨rfl, d2, HF.out, H4.out⟩
              · have HG2 := Lib.hid (HM.out.left (by omega) (by omega) (fun h => hL2 h.2))
                have H4 := Lib.hid H3.out
                have hsr := HM.out.right HG2.out.perm
                rw [HEN.out] at hsr
                have HSR := Lib.hid (hsr.resolve_right (by omega))
                clear hsr
                by_cases hR1 : mid < en
                · by_cases hR2 : en < b
                  · have HCR := Lib.hid (HIH.out mid en b d wr (by omega) hR1 hR2 (by omega) (by omega) HSR.out.1 HSR.out.2 H4.out)
                    go_wp2_with fail
                    all_goals
                      try rw [E5.out]
                      refine HCR.out.mono ?_
                      rintro e w5 ⟨rfl, d3, hg3, h5⟩
                      have HF := Lib.hid (show Mg d a b d3 ∧ RW w0 blk d3 w5 from ⟨HM.out.done hb (by omega) (by omega) HG2.out hg3, h5⟩)
                      clear hg3 h5
                      go_wp2_with fail
                      go_end0
                      exact ⟨rfl, d3, HF.out.1, HF.out.2⟩
                  · have HF := Lib.hid (show Mg d a b d from HM.out.done hb (by omega) (by omega) HG2.out (mg_same HSR.out (by omega) (by omega) (fun h => hR2 h.2)))
                    go_wp2_with fail
                    all_goals
                      go_end0
                      exact ⟨rfl, d, HF.out, H4.out⟩
                · have HF := Lib.hid (show Mg d a b d from HM.out.done hb (by omega) (by omega) HG2.out (mg_same HSR.out (by omega) (by omega) (fun h => hR1 h.1)))
                  go_wp2_with fail
                  all_goals
                    go_end0
                    exact ⟨rfl, d, HF.out, H4.out⟩
            · have HG2 := Lib.hid (HM.out.left (by omega) (by omega) (fun h => hL1 h.1))
              have H4 := Lib.hid H3.out
              have hsr := HM.out.right HG2.out.perm
              rw [HEN.out] at hsr
              have HSR := Lib.hid (hsr.resolve_right (by omega))
              clear hsr
              by_cases hR1 : mid < en
              · by_cases hR2 : en < b
                · have HCR := Lib.hid (HIH.out mid en b d wr (by omega) hR1 hR2 (by omega) (by omega) HSR.out.1 HSR.out.2 H4.out)
                  go_wp2_with fail
                  all_goals
                    try rw [E5.out]
                    refine HCR.out.mono ?_
                    rintro e w5 ⟨rfl, d3, hg3, h5⟩
                    have HF := Lib.hid (show Mg d a b d3 ∧ RW w0 blk d3 w5 from ⟨HM.out.done hb (by omega) (by omega) HG2.out hg3, h5⟩)
                    clear hg3 h5
                    go_wp2_with fail
                    go_end0
                    exact ⟨rfl, d3, HF.out.1, HF.out.2⟩
                · have HF := Lib.hid (show Mg d a b d from HM.out.done hb (by omega) (by omega) HG2.out (mg_same HSR.out (by omega) (by omega) (fun h => hR2 h.2)))
                  go_wp2_with fail
                  all_goals
                    go_end0
                    exact ⟨rfl, d, HF.out, H4.out⟩
              · have HF := Lib.hid (show Mg d a b d from HM.out.done hb (by omega) (by omega) HG2.out (mg_same HSR.out (by omega) (by omega) (fun h => hR1 h.1)))
                go_wp2_with fail
                all_goals
                  go_end0
                  exact ⟨rfl, d, HF.out, H4.out⟩
        · have HM := Lib.hid (HMD.out d (.inr ⟨(fun h => r1 h.1), rfl⟩))
          have H3 := Lib.hid HR.out
          clear HMD HR
          by_cases hL1 : a < s
          · by_cases hL2 : s < mid
            · have HCL := Lib.hid (HIH.out a s mid d wr (by omega) hL1 hL2 (by omega) (by omega) HM.out.s1 HM.out.s2 H3.out)
              go_wp2_with fail
              all_goals
                refine HCL.out.mono ?_
                rintro e w4 ⟨rfl, d2, hg2, h4⟩
                have HG2 := Lib.hid hg2
                have H4 := Lib.hid h4
                have HZ3 := Lib.hid (show d2.size = d.size from hg2.perm.1)
                clear hg2 h4 HCL
                have hsr := HM.out.right HG2.out.perm
                rw [HEN.out] at hsr
                have HSR := Lib.hid (hsr.resolve_right (by omega))
                clear hsr
                by_cases hR1 : mid < en
                · by_cases hR2 : en < b
                  · have HCR := Lib.hid (HIH.out mid en b d2 w4 (by omega) hR1 hR2 (by rw [HZ3.out]; exact hb) (by rw [HZ3.out]; exact hd) HSR.out.1 HSR.out.2 H4.out)
                    rw [HZ3.out] at HCR
                    go_wp2_with fail
                    all_goals
                      try rw [E5.out]
                      refine HCR.out.mono ?_
                      rintro e w5 ⟨rfl, d3, hg3, h5⟩
                      have HF := Lib.hid (show Mg d a b d3 ∧ RW w0 blk d3 w5 from ⟨HM.out.done hb (by omega) (by omega) HG2.out hg3, h5⟩)
                      clear hg3 h5
                      go_wp2_with fail
                      go_end0
                      exact ⟨rfl, d3, HF.out.1, HF.out.2⟩
                  · have HF := Lib.hid (show Mg d a b d2 from HM.out.done hb (by omega) (by omega) HG2.out (mg_same HSR.out (by omega) (by omega) (fun h => hR2 h.2)))
                    go_wp2_with fail
                    all_goals
                      go_end0
                      exact ⟨rfl, d2, HF.out, H4.out⟩
                · have HF := Lib.hid (show Mg d a b d2 from HM.out.done hb (by omega) (by omega) HG2.out (mg_same HSR.out (by omega) (by omega) (fun h => hR1 h.1)))
                  go_wp2_with fail
                  all_goals
                    go_end0
                    exact ⟨rfl, d2, HF.out, H4.out⟩
            · have HG2 := Lib.hid (HM.out.left (by omega) (by omega) (fun h => hL2 h.2))
              have H4 := Lib.hid H3.out
              have hsr := HM.out.right HG2.out.perm
              rw [HEN.out] at hsr
              have HSR := Lib.hid (hsr.resolve_right (by omega))
              clear hsr
              by_cases hR1 : mid < en
              · by_cases hR2 : en < b
                · have HCR := Lib.hid (HIH.out mid en b d wr (by omega) hR1 hR2 (by omega) (by omega) HSR.out.1 HSR.out.2 H4.out)
                  go_wp2_with fail
                  all_goals
                    try rw [E5.out]
                    refine HCR.out.mono ?_
                    rintro e w5 ⟨rfl, d3, hg3, h5⟩
                    have HF := Lib.hid (show Mg d a b d3 ∧ RW w0 blk d3 w5 from ⟨HM.out.done hb (by omega) (by omega) HG2.out hg3, h5⟩)
                    clear hg3 h5
                    go_wp2_with fail
                    go_end0
                    exact ⟨rfl, d3, HF.out.1, HF.out.2⟩
                · have HF := Lib.hid (show Mg d a b d from HM.out.done hb (by omega) (by omega) HG2.out (mg_same HSR.out (by omega) (by omega) (fun h => hR2 h.2)))
                  go_wp2_with fail
                  all_goals
                    go_end0
                    exact ⟨rfl, d, HF.out, H4.out⟩
              · have HF := Lib.hid (show Mg d a b d from HM.out.done hb (by omega) (by omega) HG2.out (mg_same HSR.out (by omega) (by omega) (fun h => hR1 h.1)))
                go_wp2_with fail
                all_goals
                  go_end0
                  exact ⟨rfl, d, HF.out, H4.out⟩
          · have HG2 := Lib.hid (HM.out.left (by omega) (by omega) (fun h => hL1 h.1))
            have H4 := Lib.hid H3.out
            have hsr := HM.out.right HG2.out.perm
            rw [HEN.out] at hsr
            have HSR := Lib.hid (hsr.resolve_right (by omega))
            clear hsr
            by_cases hR1 : mid < en
            · by_cases hR2 : en < b
              · have HCR := Lib.hid (HIH.out mid en b d wr (by omega) hR1 hR2 (by omega) (by omega) HSR.out.1 HSR.out.2 H4.out)
                go_wp2_with fail
                all_goals
                  try rw [E5.out]
                  refine HCR.out.mono ?_
                  rintro e w5 ⟨rfl, d3, hg3, h5⟩
                  have HF := Lib.hid (show Mg d a b d3 ∧ RW w0 blk d3 w5 from ⟨HM.out.done hb (by omega) (by omega) HG2.out hg3, h5⟩)
                  clear hg3 h5
                  go_wp2_with fail
                  go_end0
                  exact ⟨rfl, d3, HF.out.1, HF.out.2⟩
              · have HF := Lib.hid (show Mg d a b d from HM.out.done hb (by omega) (by omega) HG2.out (mg_same HSR.out (by omega) (by omega) (fun h => hR2 h.2)))
                go_wp2_with fail
                all_goals
                  go_end0
                  exact ⟨rfl, d, HF.out, H4.out⟩
            · have HF := Lib.hid (show Mg d a b d from HM.out.done hb (by omega) (by omega) HG2.out (mg_same HSR.out (by omega) (by omega) (fun h => hR1 h.1)))
              go_wp2_with fail
              all_goals
                go_end0
                exact ⟨rfl, d, HF.out, H4.out⟩
  · have t2 : decide ((mid : Int) < (m : Int)) = true := decide_eq_true (by omega)
    obtain ⟨lo, hlo⟩ : ∃ lo, mid + m - b = lo := ⟨_, rfl⟩
    have e3 : (mid : Int) + (m : Int) - (b : Int) = (lo : Int) := by omega
    have E3 := Lib.hid e3
    have l1 : lo + b ≤ mid + m := by omega
    have l2 : mid + m ≤ lo + b := by omega
    clear hlo e3
    go_wp2_with fail
    rw [E1.out]
    go_wp2_with fail
    rw [E2.out, E3.out, t2]
    go_loopg [20, 21, 23] (mid - lo) (fun z vi vj _ wr => ∃ s r : Nat, vi = .int .i64 s ∧ vj = .int .i64 r ∧ lo ≤ s ∧ s ≤ r ∧ r ≤ mid ∧ r - s = z ∧ (lo < s → ltF d[p - (s - 1)]! d[s - 1]! = false) ∧ (r < mid → ltF d[p - r]! d[r]! = true) ∧ RW w0 blk d wr)
    case atStart => exact ⟨lo, mid, rfl, rfl, by omega, by omega, by omega, rfl, fun h => by omega, fun h => by omega, H0.out⟩
    case round =>
      obtain ⟨s, r, rfl, rfl, hi, hij, hj, hz, hl, hr, hR⟩ := hrel
      have HL := Lib.hid hl
      have HRR := Lib.hid hr
      have HR := Lib.hid hR
      have HZ := Lib.hid hz
      clear hl hr hR H0 hz
      by_cases hlt : s < r
      · obtain ⟨c, hc⟩ : ∃ c, (s + r) / 2 = c := ⟨_, rfl⟩
        have e4 : ((s : Int) + (r : Int)) / 2 = (c : Int) := by omega
        have c1 : s ≤ c := by omega
        have c2 : c < r := by omega
        obtain ⟨q, hq⟩ : ∃ q, p - c = q := ⟨_, rfl⟩
        have q0 : q + c ≤ p := by omega
        have q0' : p ≤ q + c := by omega
        have HQ := Lib.hid hq
        have E4 := Lib.hid e4
        clear hc e4 hq
        go_wp2_with fail
        rw [E4.out]
        have i1 : (0 : Int) ≤ (c : Int) := by omega
        have i2 : (c : Int) < (d.size : Int) := by omega
        have i3 : (0 : Int) ≤ (q : Int) := by omega
        have i4 : (q : Int) < (d.size : Int) := by omega
        have i5 : IntKind.i64.wrap (q : Int) = (q : Int) := IntWalk.i64_in _ ⟨by omega, by omega⟩
        have i6 : (p : Int) - (c : Int) = (q : Int) := by omega
        obtain ⟨p1, p2⟩ := HR.out.cell (q) (by have := HR.out; omega)
        obtain ⟨q1, q2⟩ := HR.out.cell (c) (by omega)
        have hbk := HR.out.hi
        generalize hxx : d[q]! = x at *
        generalize hyy : d[c]! = y at *
        have HXX := Lib.hid hxx
        have HYY := Lib.hid hyy
        clear hxx hyy
        cases hc : ltF x y
        · have tc := cmp_is hc
          have HCC := Lib.hid hc
          clear hc
          go_region_held3 (fun W' => W'.cell? ⟨blk, (q) * 2, none⟩ = some (.string ⟨x.1.toArray⟩) ∧ W'.cell? ⟨blk, (q) * 2 + 1, none⟩ = some (.string ⟨x.2.toArray⟩) ∧ W'.cell? ⟨blk, (c) * 2, none⟩ = some (.string ⟨y.1.toArray⟩) ∧ W'.cell? ⟨blk, (c) * 2 + 1, none⟩ = some (.string ⟨y.2.toArray⟩)) (go_keep) (first | (go_at_call 29; refine (closure_b x y _).mono ?_; rintro e w2 ⟨rfl, hbl⟩; have z1 := (hbl.cell (p := ⟨blk, (q) * 2, none⟩) hbk).trans p1; have z2 := (hbl.cell (p := ⟨blk, (q) * 2 + 1, none⟩) hbk).trans p2; have z3 := (hbl.cell (p := ⟨blk, (c) * 2, none⟩) hbk).trans q1; have z4 := (hbl.cell (p := ⟨blk, (c) * 2 + 1, none⟩) hbk).trans q2))
          have HR2 := Lib.hid ((HR.out.later (W' := wr.drew) ((Below.refl _ _).drew)).later hbl)
          clear z1 z2 z3 z4 hbl
          clear i5 i6
          go_wp2_with fail
          go_roundg (r - (c + 1))
          case measure => have := HZ.out; omega
          case rel => exact ⟨c + 1, r, by go_num, rfl, by omega, by omega, hj, rfl, fun _ => by rw [Nat.add_sub_cancel, HQ.out, HXX.out, HYY.out]; exact HCC.out, fun h => HRR.out h, HR2.out⟩
        · have tc := cmp_is hc
          have HCC := Lib.hid hc
          clear hc
          go_region_held3 (fun W' => W'.cell? ⟨blk, (q) * 2, none⟩ = some (.string ⟨x.1.toArray⟩) ∧ W'.cell? ⟨blk, (q) * 2 + 1, none⟩ = some (.string ⟨x.2.toArray⟩) ∧ W'.cell? ⟨blk, (c) * 2, none⟩ = some (.string ⟨y.1.toArray⟩) ∧ W'.cell? ⟨blk, (c) * 2 + 1, none⟩ = some (.string ⟨y.2.toArray⟩)) (go_keep) (first | (go_at_call 29; refine (closure_b x y _).mono ?_; rintro e w2 ⟨rfl, hbl⟩; have z1 := (hbl.cell (p := ⟨blk, (q) * 2, none⟩) hbk).trans p1; have z2 := (hbl.cell (p := ⟨blk, (q) * 2 + 1, none⟩) hbk).trans p2; have z3 := (hbl.cell (p := ⟨blk, (c) * 2, none⟩) hbk).trans q1; have z4 := (hbl.cell (p := ⟨blk, (c) * 2 + 1, none⟩) hbk).trans q2))
          have HR2 := Lib.hid ((HR.out.later (W' := wr.drew) ((Below.refl _ _).drew)).later hbl)
          clear z1 z2 z3 z4 hbl
          clear i5 i6
          go_wp2_with fail
          go_roundg (c - s)
          case measure => have := HZ.out; omega
          case rel => exact ⟨s, c, rfl, rfl, hi, by omega, by omega, rfl, fun h => HL.out h, fun _ => by rw [HQ.out, HXX.out, HYY.out]; exact HCC.out, HR2.out⟩
      · obtain rfl : s = r := by omega
        obtain ⟨en, hen⟩ : ∃ en, mid + m - s = en := ⟨_, rfl⟩
        have e5 : (mid : Int) + (m : Int) - (s : Int) = (en : Int) := by omega
        have n1 : en + s ≤ mid + m := by omega
        have n2 : mid + m ≤ en + s := by omega
        have E5 := Lib.hid e5
        have HEN := Lib.hid hen
        have HMD := Lib.hid (fun d1 hrot => mid_of (d := d) (d1 := d1) (a := a) (m := m) (b := b) (mid := mid) (s := s) hb (by omega) (by omega) (by omega) (by omega) (by omega) (by omega) (by omega) HS1.out HS2.out
          (fun h1 h2 => by rw [show mid + m - s = p - (s - 1) by omega]; exact HL.out (by omega)) (fun h1 h2 => by rw [show mid + m - s - 1 = p - s by omega]; exact HRR.out (by omega)) hrot)
        rw [hen] at HMD
        clear hen e5 HL HRR
        by_cases r1 : s < m
        · by_cases r2 : m < en
          · have HC := Lib.hid (rotate_any cap s m en cmpV HR.out r1 r2 (by omega) hd)
            go_wp2_with fail
            rw [E5.out]
            refine HC.out.mono ?_
            rintro e w3 ⟨rfl, d1, hrot, h3⟩
            have H3 := Lib.hid h3
            have HM := Lib.hid (HMD.out d1 (.inl ⟨r1, r2, hrot⟩))
            have z1 : d1.size ≤ d.size := by have := HM.out.perm.1; omega
            have z2 : d.size ≤ d1.size := by have := HM.out.perm.1; omega
            have HZ1 := Lib.hid HM.out.perm.1
            clear h3 hrot HC HMD HR
            by_cases hL1 : a < s
            · by_cases hL2 : s < mid
              · have HCL := Lib.hid (HIH.out a s mid d1 w3 (by omega) hL1 hL2 (by omega) (by omega) HM.out.s1 HM.out.s2 H3.out)
                rw [HZ1.out] at HCL
                go_wp2_with fail
                all_goals
                  refine HCL.out.mono ?_
                  rintro e w4 ⟨rfl, d2, hg2, h4⟩
                  have HG2 := Lib.hid hg2
                  have H4 := Lib.hid h4
                  have HZ3 := Lib.hid (show d2.size = d.size from hg2.perm.1.trans HZ1.out)
                  clear hg2 h4 HCL
                  have hsr := HM.out.right HG2.out.perm
                  rw [HEN.out] at hsr
                  have HSR := Lib.hid (hsr.resolve_right (by omega))
                  clear hsr
                  by_cases hR1 : mid < en
                  · by_cases hR2 : en < b
                    · have HCR := Lib.hid (HIH.out mid en b d2 w4 (by omega) hR1 hR2 (by rw [HZ3.out]; exact hb) (by rw [HZ3.out]; exact hd) HSR.out.1 HSR.out.2 H4.out)
                      rw [HZ3.out] at HCR
                      go_wp2_with fail
                      all_goals
                        try rw [E5.out]
                        refine HCR.out.mono ?_
                        rintro e w5 ⟨rfl, d3, hg3, h5⟩
                        have HF := Lib.hid (show Mg d a b d3 ∧ RW w0 blk d3 w5 from ⟨HM.out.done hb (by omega) (by omega) HG2.out hg3, h5⟩)
                        clear hg3 h5
                        go_wp2_with fail
                        go_end0
                        exact ⟨rfl, d3, HF.out.1, HF.out.2⟩
                    · have HF := Lib.hid (show Mg d a b d2 from HM.out.done hb (by omega) (by omega) HG2.out (mg_same HSR.out (by omega) (by omega) (fun h => hR2 h.2)))
                      go_wp2_with fail
                      all_goals
                        go_end0
                        exact ⟨rfl, d2, HF.out, H4.out⟩
                  · have HF := Lib.hid (show Mg d a b d2 from HM.out.done hb (by omega) (by omega) HG2.out (mg_same HSR.out (by omega) (by omega) (fun h => hR1 h.1)))
                    go_wp2_with fail
                    all_goals
                      go_end0
                      exact ⟨rfl, d2, HF.out, H4.out⟩
              · have HG2 := Lib.hid (HM.out.left (by omega) (by omega) (fun h => hL2 h.2))
                have H4 := Lib.hid H3.out
                have HZ3 := Lib.hid HZ1.out
                have hsr := HM.out.right HG2.out.perm
                rw [HEN.out] at hsr
                have HSR := Lib.hid (hsr.resolve_right (by omega))
                clear hsr
                by_cases hR1 : mid < en
                · by_cases hR2 : en < b
                  · have HCR := Lib.hid (HIH.out mid en b d1 w3 (by omega) hR1 hR2 (by rw [HZ3.out]; exact hb) (by rw [HZ3.out]; exact hd) HSR.out.1 HSR.out.2 H4.out)
                    rw [HZ3.out] at HCR
                    go_wp2_with fail
                    all_goals
                      try rw [E5.out]
                      refine HCR.out.mono ?_
                      rintro e w5 ⟨rfl, d3, hg3, h5⟩
                      have HF := Lib.hid (show Mg d a b d3 ∧ RW w0 blk d3 w5 from ⟨HM.out.done hb (by omega) (by omega) HG2.out hg3, h5⟩)
                      clear hg3 h5
                      go_wp2_with fail
                      go_end0
                      exact ⟨rfl, d3, HF.out.1, HF.out.2⟩
                  · have HF := Lib.hid (show Mg d a b d1 from HM.out.done hb (by omega) (by omega) HG2.out (mg_same HSR.out (by omega) (by omega) (fun h => hR2 h.2)))
                    go_wp2_with fail
                    all_goals
                      go_end0
                      exact ⟨rfl, d1, HF.out, H4.out⟩
                · have HF := Lib.hid (show Mg d a b d1 from HM.out.done hb (by omega) (by omega) HG2.out (mg_same HSR.out (by omega) (by omega) (fun h => hR1 h.1)))
                  go_wp2_with fail
                  all_goals
                    go_end0
                    exact ⟨rfl, d1, HF.out, H4.out⟩
            · have HG2 := Lib.hid (HM.out.left (by omega) (by omega) (fun h => hL1 h.1))
              have H4 := Lib.hid H3.out
              have HZ3 := Lib.hid HZ1.out
              have hsr := HM.out.right HG2.out.perm
              rw [HEN.out] at hsr
              have HSR := Lib.hid (hsr.resolve_right (by omega))
              clear hsr
              by_cases hR1 : mid < en
              · by_cases hR2 : en < b
                · have HCR := Lib.hid (HIH.out mid en b d1 w3 (by omega) hR1 hR2 (by rw [HZ3.out]; exact hb) (by rw [HZ3.out]; exact hd) HSR.out.1 HSR.out.2 H4.out)
                  rw [HZ3.out] at HCR
                  go_wp2_with fail
                  all_goals
                    try rw [E5.out]
                    refine HCR.out.mono ?_
                    rintro e w5 ⟨rfl, d3, hg3, h5⟩
                    have HF := Lib.hid (show Mg d a b d3 ∧ RW w0 blk d3 w5 from ⟨HM.out.done hb (by omega) (by omega) HG2.out hg3, h5⟩)
                    clear hg3 h5
                    go_wp2_with fail
                    go_end0
                    exact ⟨rfl, d3, HF.out.1, HF.out.2⟩
                · have HF := Lib.hid (show Mg d a b d1 from HM.out.done hb (by omega) (by omega) HG2.out (mg_same HSR.out (by omega) (by omega) (fun h => hR2 h.2)))
                  go_wp2_with fail
                  all_goals
                    go_end0
                    exact ⟨rfl, d1, HF.out, H4.out⟩
              · have HF := Lib.hid (show Mg d a b d1 from HM.out.done hb (by omega) (by omega) HG2.out (mg_same HSR.out (by omega) (by omega) (fun h => hR1 h.1)))
                go_wp2_with fail
                all_goals
                  go_end0
                  exact ⟨rfl, d1, HF.out, H4.out⟩
          · have HM := Lib.hid (HMD.out d (.inr ⟨(fun h => r2 h.2), rfl⟩))
            have H3 := Lib.hid HR.out
            clear HMD HR
            by_cases hL1 : a < s
            · by_cases hL2 : s < mid
              · have HCL := Lib.hid (HIH.out a s mid d wr (by omega) hL1 hL2 (by omega) (by omega) HM.out.s1 HM.out.s2 H3.out)
                go_wp2_with fail
                all_goals
                  refine HCL.out.mono ?_
                  rintro e w4 ⟨rfl, d2, hg2, h4⟩
                  have HG2 := Lib.hid hg2
                  have H4 := Lib.hid h4
                  have HZ3 := Lib.hid (show d2.size = d.size from hg2.perm.1)
                  clear hg2 h4 HCL
                  have hsr := HM.out.right HG2.out.perm
                  rw [HEN.out] at hsr
                  have HSR := Lib.hid (hsr.resolve_right (by omega))
                  clear hsr
                  by_cases hR1 : mid < en
                  · by_cases hR2 : en < b
                    · have HCR := Lib.hid (HIH.out mid en b d2 w4 (by omega) hR1 hR2 (by rw [HZ3.out]; exact hb) (by rw [HZ3.out]; exact hd) HSR.out.1 HSR.out.2 H4.out)
                      rw [HZ3.out] at HCR
                      go_wp2_with fail
                      all_goals
                        try rw [E5.out]
                        refine HCR.out.mono ?_
                        rintro e w5 ⟨rfl, d3, hg3, h5⟩
                        have HF := Lib.hid (show Mg d a b d3 ∧ RW w0 blk d3 w5 from ⟨HM.out.done hb (by omega) (by omega) HG2.out hg3, h5⟩)
                        clear hg3 h5
                        go_wp2_with fail
                        go_end0
                        exact ⟨rfl, d3, HF.out.1, HF.out.2⟩
                    · have HF := Lib.hid (show Mg d a b d2 from HM.out.done hb (by omega) (by omega) HG2.out (mg_same HSR.out (by omega) (by omega) (fun h => hR2 h.2)))
                      go_wp2_with fail
                      all_goals
                        go_end0
                        exact ⟨rfl, d2, HF.out, H4.out⟩
                  · have HF := Lib.hid (show Mg d a b d2 from HM.out.done hb (by omega) (by omega) HG2.out (mg_same HSR.out (by omega) (by omega) (fun h => hR1 h.1)))
                    go_wp2_with fail
                    all_goals
                      go_end0
                      exact ⟨rfl, d2, HF.out, H4.out⟩
              · have HG2 := Lib.hid (HM.out.left (by omega) (by omega) (fun h => hL2 h.2))
                have H4 := Lib.hid H3.out
                have hsr := HM.out.right HG2.out.perm
                rw [HEN.out] at hsr
                have HSR := Lib.hid (hsr.resolve_right (by omega))
                clear hsr
                by_cases hR1 : mid < en
                · by_cases hR2 : en < b
                  · have HCR := Lib.hid (HIH.out mid en b d wr (by omega) hR1 hR2 (by omega) (by omega) HSR.out.1 HSR.out.2 H4.out)
                    go_wp2_with fail
                    all_goals
                      try rw [E5.out]
                      refine HCR.out.mono ?_
                      rintro e w5 ⟨rfl, d3, hg3, h5⟩
                      have HF := Lib.hid (show Mg d a b d3 ∧ RW w0 blk d3 w5 from ⟨HM.out.done hb (by omega) (by omega) HG2.out hg3, h5⟩)
                      clear hg3 h5
                      go_wp2_with fail
                      go_end0
                      exact ⟨rfl, d3, HF.out.1, HF.out.2⟩
                  · have HF := Lib.hid (show Mg d a b d from HM.out.done hb (by omega) (by omega) HG2.out (mg_same HSR.out (by omega) (by omega) (fun h => hR2 h.2)))
                    go_wp2_with fail
                    all_goals
                      go_end0
                      exact ⟨rfl, d, HF.out, H4.out⟩
                · have HF := Lib.hid (show Mg d a b d from HM.out.done hb (by omega) (by omega) HG2.out (mg_same HSR.out (by omega) (by omega) (fun h => hR1 h.1)))
                  go_wp2_with fail
                  all_goals
                    go_end0
                    exact ⟨rfl, d, HF.out, H4.out⟩
            · have HG2 := Lib.hid (HM.out.left (by omega) (by omega) (fun h => hL1 h.1))
              have H4 := Lib.hid H3.out
              have hsr := HM.out.right HG2.out.perm
              rw [HEN.out] at hsr
              have HSR := Lib.hid (hsr.resolve_right (by omega))
              clear hsr
              by_cases hR1 : mid < en
              · by_cases hR2 : en < b
                · have HCR := Lib.hid (HIH.out mid en b d wr (by omega) hR1 hR2 (by omega) (by omega) HSR.out.1 HSR.out.2 H4.out)
                  go_wp2_with fail
                  all_goals
                    try rw [E5.out]
                    refine HCR.out.mono ?_
                    rintro e w5 ⟨rfl, d3, hg3, h5⟩
                    have HF := Lib.hid (show Mg d a b d3 ∧ RW w0 blk d3 w5 from ⟨HM.out.done hb (by omega) (by omega) HG2.out hg3, h5⟩)
                    clear hg3 h5
                    go_wp2_with fail
                    go_end0
                    exact ⟨rfl, d3, HF.out.1, HF.out.2⟩
                · have HF := Lib.hid (show Mg d a b d from HM.out.done hb (by omega) (by omega) HG2.out (mg_same HSR.out (by omega) (by omega) (fun h => hR2 h.2)))
                  go_wp2_with fail
                  all_goals
                    go_end0
                    exact ⟨rfl, d, HF.out, H4.out⟩
              · have HF := Lib.hid (show Mg d a b d from HM.out.done hb (by omega) (by omega) HG2.out (mg_same HSR.out (by omega) (by omega) (fun h => hR1 h.1)))
                go_wp2_with fail
                all_goals
                  go_end0
                  exact ⟨rfl, d, HF.out, H4.out⟩
        · have HM := Lib.hid (HMD.out d (.inr ⟨(fun h => r1 h.1), rfl⟩))
          have H3 := Lib.hid HR.out
          clear HMD HR
          by_cases hL1 : a < s
          · by_cases hL2 : s < mid
            · have HCL := Lib.hid (HIH.out a s mid d wr (by omega) hL1 hL2 (by omega) (by omega) HM.out.s1 HM.out.s2 H3.out)
              go_wp2_with fail
              all_goals
                refine HCL.out.mono ?_
                rintro e w4 ⟨rfl, d2, hg2, h4⟩
                have HG2 := Lib.hid hg2
                have H4 := Lib.hid h4
                have HZ3 := Lib.hid (show d2.size = d.size from hg2.perm.1)
                clear hg2 h4 HCL
                have hsr := HM.out.right HG2.out.perm
                rw [HEN.out] at hsr
                have HSR := Lib.hid (hsr.resolve_right (by omega))
                clear hsr
                by_cases hR1 : mid < en
                · by_cases hR2 : en < b
                  · have HCR := Lib.hid (HIH.out mid en b d2 w4 (by omega) hR1 hR2 (by rw [HZ3.out]; exact hb) (by rw [HZ3.out]; exact hd) HSR.out.1 HSR.out.2 H4.out)
                    rw [HZ3.out] at HCR
                    go_wp2_with fail
                    all_goals
                      try rw [E5.out]
                      refine HCR.out.mono ?_
                      rintro e w5 ⟨rfl, d3, hg3, h5⟩
                      have HF := Lib.hid (show Mg d a b d3 ∧ RW w0 blk d3 w5 from ⟨HM.out.done hb (by omega) (by omega) HG2.out hg3, h5⟩)
                      clear hg3 h5
                      go_wp2_with fail
                      go_end0
                      exact ⟨rfl, d3, HF.out.1, HF.out.2⟩
                  · have HF := Lib.hid (show Mg d a b d2 from HM.out.done hb (by omega) (by omega) HG2.out (mg_same HSR.out (by omega) (by omega) (fun h => hR2 h.2)))
                    go_wp2_with fail
                    all_goals
                      go_end0
                      exact ⟨rfl, d2, HF.out, H4.out⟩
                · have HF := Lib.hid (show Mg d a b d2 from HM.out.done hb (by omega) (by omega) HG2.out (mg_same HSR.out (by omega) (by omega) (fun h => hR1 h.1)))
                  go_wp2_with fail
                  all_goals
                    go_end0
                    exact ⟨rfl, d2, HF.out, H4.out⟩
            · have HG2 := Lib.hid (HM.out.left (by omega) (by omega) (fun h => hL2 h.2))
              have H4 := Lib.hid H3.out
              have hsr := HM.out.right HG2.out.perm
              rw [HEN.out] at hsr
              have HSR := Lib.hid (hsr.resolve_right (by omega))
              clear hsr
              by_cases hR1 : mid < en
              · by_cases hR2 : en < b
                · have HCR := Lib.hid (HIH.out mid en b d wr (by omega) hR1 hR2 (by omega) (by omega) HSR.out.1 HSR.out.2 H4.out)
                  go_wp2_with fail
                  all_goals
                    try rw [E5.out]
                    refine HCR.out.mono ?_
                    rintro e w5 ⟨rfl, d3, hg3, h5⟩
                    have HF := Lib.hid (show Mg d a b d3 ∧ RW w0 blk d3 w5 from ⟨HM.out.done hb (by omega) (by omega) HG2.out hg3, h5⟩)
                    clear hg3 h5
                    go_wp2_with fail
                    go_end0
                    exact ⟨rfl, d3, HF.out.1, HF.out.2⟩
                · have HF := Lib.hid (show Mg d a b d from HM.out.done hb (by omega) (by omega) HG2.out (mg_same HSR.out (by omega) (by omega) (fun h => hR2 h.2)))
                  go_wp2_with fail
                  all_goals
                    go_end0
                    exact ⟨rfl, d, HF.out, H4.out⟩
              · have HF := Lib.hid (show Mg d a b d from HM.out.done hb (by omega) (by omega) HG2.out (mg_same HSR.out (by omega) (by omega) (fun h => hR1 h.1)))
                go_wp2_with fail
                all_goals
                  go_end0
                  exact ⟨rfl, d, HF.out, H4.out⟩
          · have HG2 := Lib.hid (HM.out.left (by omega) (by omega) (fun h => hL1 h.1))
            have H4 := Lib.hid H3.out
            have hsr := HM.out.right HG2.out.perm
            rw [HEN.out] at hsr
            have HSR := Lib.hid (hsr.resolve_right (by omega))
            clear hsr
            by_cases hR1 : mid < en
            · by_cases hR2 : en < b
              · have HCR := Lib.hid (HIH.out mid en b d wr (by omega) hR1 hR2 (by omega) (by omega) HSR.out.1 HSR.out.2 H4.out)
                go_wp2_with fail
                all_goals
                  try rw [E5.out]
                  refine HCR.out.mono ?_
                  rintro e w5 ⟨rfl, d3, hg3, h5⟩
                  have HF := Lib.hid (show Mg d a b d3 ∧ RW w0 blk d3 w5 from ⟨HM.out.done hb (by omega) (by omega) HG2.out hg3, h5⟩)
                  clear hg3 h5
                  go_wp2_with fail
                  go_end0
                  exact ⟨rfl, d3, HF.out.1, HF.out.2⟩
              · have HF := Lib.hid (show Mg d a b d from HM.out.done hb (by omega) (by omega) HG2.out (mg_same HSR.out (by omega) (by omega) (fun h => hR2 h.2)))
                go_wp2_with fail
                all_goals
                  go_end0
                  exact ⟨rfl, d, HF.out, H4.out⟩
            · have HF := Lib.hid (show Mg d a b d from HM.out.done hb (by omega) (by omega) HG2.out (mg_same HSR.out (by omega) (by omega) (fun h => hR1 h.1)))
              go_wp2_with fail
              all_goals
                go_end0
                exact ⟨rfl, d, HF.out, H4.out⟩

theorem symMerge_any {w0 : World} {blk : Nat} (cap : Nat) : ∀ (n a m b : Nat) (D : Array Fd) (W : World), b - a ≤ n → a < m → m < b → b ≤ D.size → D.size ≤ 1000 → SortedIn ltF a m D → SortedIn ltF m b D → RW w0 blk D W → SymC w0 blk cap a m b D W := by
  intro n
  induction n with
  | zero => intro a m b D W hn h1 h2; omega
  | succ n ih =>
    intro a m b D W hn h1 h2 h3 h4 h5 h6 h7
    by_cases c1 : a + 1 = m
    · exact symM_1 cap a m b h7 c1 h2 h3 h4 h6
    · by_cases c2 : m + 1 = b
      · exact symM_2 cap a m b h7 (by omega) c2 h3 h4 h5
      · exact symM_3 cap a m b h7 (by omega) (by omega) h3 h4 h5 h6 (fun a' m' b' D' W' hlt g1 g2 g3 g4 g5 g6 g7 => ih a' m' b' D' W' (by omega) g1 g2 g3 g4 g5 g6 g7)

end Go.Proofs.YtfdbjgdafolbmaaDoor

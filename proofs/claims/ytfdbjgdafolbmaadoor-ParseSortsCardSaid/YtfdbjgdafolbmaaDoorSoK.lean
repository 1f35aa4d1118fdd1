/-
  ParseSorts' walk.
-/
import Derived.Test.YtfdbjgdafolbmaaDoorSoJ
namespace Go.Proofs.YtfdbjgdafolbmaaDoor
open Go.RowKit Go.Sort Go.Shelf

/-- The three lists at the block xb. -/
def X3 (W : World) (xb : Nat) : Prop := xb < W.heap.size ∧ ∀ j, j < 3 → ∃ v, ∃ d : List Fd, W.cell? ⟨xb, j, none⟩ = some v ∧ FI W v d ∧ d.length ≤ 60 ∧ ∀ i (h : i < d.length), (d[i]).1.length ≤ 9223372036854775807
theorem X3.later {W W' : World} {xb : Nat} (h : X3 W xb) (hb : RowKit.Below W.heap.size W W') : X3 W' xb :=
  ⟨Nat.lt_of_lt_of_le h.1 hb.size, fun j hj => by
    obtain ⟨v, d, a, b, c⟩ := h.2 j hj
    exact ⟨v, d, (hb.cell (p := ⟨xb, j, none⟩) h.1).trans a, b.later hb, c⟩⟩
theorem X3.start {W : World} {v0 v1 v2 : Value} {raw out : List Fd} (h0 : FI W v0 raw) (h60 : raw.length ≤ 60) (hn : ∀ i (h : i < raw.length), (raw[i]).1.length ≤ 9223372036854775807)
    (h1 : FI W v1 out) (ho : out.length ≤ 39) (hon : ∀ x ∈ out, x.1.length ≤ 100) {m : Nat} (h2 : FI W v2 (out.take m)) : X3 (W.alloc (.cells #[v0, v1, v2] 27)) W.heap.size := by
  have hb : RowKit.Below W.heap.size W (W.alloc (.cells #[v0, v1, v2] 27)) := (RowKit.Below.refl _ _).alloc (Nat.le_refl _) _
  refine ⟨by simp, fun j hj => ?_⟩
  have h3 : j = 0 ∨ j = 1 ∨ j = 2 := by omega
  rcases h3 with rfl | rfl | rfl
  · exact ⟨v0, raw, by simp [go_sem], h0.later hb, h60, hn⟩
  · exact ⟨v1, out, by simp [go_sem], h1.later hb, by omega, fun i hi => by have := hon _ (List.getElem_mem hi); omega⟩
  · refine ⟨v2, out.take m, by simp [go_sem], h2.later hb, by rw [List.length_take]; omega, fun i hi => ?_⟩
    have := hon _ (List.take_subset _ _ (List.getElem_mem hi))
    omega
/-- The three names at the block nb. -/
def N3 (W : World) (nb : Nat) : Prop := nb < W.heap.size ∧ ∀ j, j < 3 → ∃ n : List UInt8, W.cell? ⟨nb, j, none⟩ = some (.string ⟨n.toArray⟩)
structure IS (w : World) (xb nb : Nat) (v : Value) (d : List Fd) (W : World) : Prop where
  below : RowKit.Below w.heap.size w W
  x : X3 W xb
  fi : FI W v d
  nms : N3 W nb
theorem IS.later {w : World} {xb nb : Nat} {v : Value} {d : List Fd} {W W' : World} (h : IS w xb nb v d W) (hb : RowKit.Below W.heap.size W W') : IS w xb nb v d W' :=
  ⟨h.below.trans (hb.mono h.below.size), h.x.later hb, h.fi.later hb, Nat.lt_of_lt_of_le h.nms.1 hb.size, fun j hj => by
    obtain ⟨n, hn⟩ := h.nms.2 j hj
    exact ⟨n, (hb.cell (p := ⟨nb, j, none⟩) h.nms.1).trans hn⟩⟩
theorem IS.start {w W : World} {xb : Nat} {v : Value} {d : List Fd} (nm : List UInt8) (hw : RowKit.Below w.heap.size w W) (hx : X3 W xb) (hf : FI W v d) :
    IS w xb W.heap.size v d (W.alloc (.cells #[.string ⟨nm.toArray⟩, .string ⟨#[97]⟩, .string ⟨#[98, 49]⟩] 9)) := by
  have hb : RowKit.Below W.heap.size W (W.alloc (.cells #[.string ⟨nm.toArray⟩, .string ⟨#[97]⟩, .string ⟨#[98, 49]⟩] 9)) := (RowKit.Below.refl _ _).alloc (Nat.le_refl _) _
  refine ⟨hw.trans (hb.mono hw.size), hx.later hb, hf.later hb, by simp, fun j hj => ?_⟩
  have h3 : j = 0 ∨ j = 1 ∨ j = 2 := by omega
  rcases h3 with rfl | rfl | rfl
  · exact ⟨nm, by simp [go_sem]⟩
  · exact ⟨[97], by simp [go_sem]⟩
  · exact ⟨[98, 49], by simp [go_sem]⟩
/-- The first five of the fields that were made. -/
theorem LJ.five {w : World} {g : Nat} {out : List Fd} {v : Value} {W : World} (h : LJ w g out v W) : ∃ a cap, v = .slice a out.length cap ∧ out.length ≤ cap ∧ cap ≤ 9223372036854775807 ∧ ∀ m cap', m ≤ out.length → FI W (.slice a m cap') (out.take m) := by
  have hf := h.fi
  obtain ⟨_, ⟨e, h0⟩ | ⟨g', cap, cur, hv, _, _, h1, h2, _⟩⟩ := h.own
  · refine ⟨none, 0, by rw [e, h0], by omega, by omega, fun m cap' hm => ?_⟩
    have hm0 : m = 0 := by omega
    subst hm0
    exact ⟨none, cap', by simp, fun h => by simp at h⟩
  · subst hv
    exact ⟨_, cap, rfl, h1, h2, fun m cap' hm => hf.cut m hm⟩

set_option maxRecDepth 100000 in
set_option maxHeartbeats 4000000 in
theorem sorts_any (vr vc : Value) (raw : List Fd) (cs nm : List UInt8) (w : World) (hk : Kinds w) (hr : FI w vr raw) (hrl : raw.length ≤ 9223372036854775807) (hrn : ∀ i (h : i < raw.length), (raw[i]).1.length ≤ 9223372036854775807) (hc : BS w vc cs) :
    Calls Tryd.prog 4 #[vr, vc, .string ⟨nm.toArray⟩] w fun e w' => e = .returned (.bool true) ∧ RowKit.Below w.heap.size w w' := by
  have HA := Lib.hid (awake_any w hk)
  have HK := Lib.hid hk
  have HNW := Lib.hid fun w1 hb1 => new_any vc cs 120 w1 (hc.below hb1) (by omega)
  have HR := Lib.hid hr
  have HRN := Lib.hid hrn
  obtain ⟨ar, capr, rfl, _⟩ := hr
  clear hk hc hrn
  by_cases h60 : raw.length ≤ 60
  · have t60 : decide ((60 : Int) < (raw.length : Int)) = false := decide_eq_false (by omega)
    go_enter Tryd.func4, Tryd.ntmps4
    go_wp2_with (go_at_call 7; refine HA.out.mono ?_; rintro e w1 ⟨rfl, hb1⟩)
    refine (HNW.out w1 hb1).mono ?_
    rintro e w2 ⟨rfl, hca, hb2⟩
    have hg1 := hb1.size
    obtain ⟨g, hg⟩ : ∃ g, g = w1.heap.size := ⟨_, rfl⟩
    have HB2 := Lib.hid (hb1.trans (hb2.mono hb1.size))
    rw [← hg] at hg1 hca ⊢
    have HN := Lib.hid (next_any g 40 w2 hca (by omega) (by omega))
    clear hg hb2 hca HNW HA
    go_wp2_with fail
    refine HN.out.mono ?_
    rintro e w3 ⟨n, hn, rfl, hca, hap⟩
    have HL := Lib.hid (show LJ w g [] (.slice none 0 0) w3 from ⟨⟨rfl, .inl ⟨rfl, rfl⟩⟩, Apart.below HB2.out hap hg1, hca, fun x h => by simp at h⟩)
    clear hca hap HN
    go_wp2_with fail
    go_loopw [8, 9] (fun v i wr => ∃ (out : List Fd) (j : Nat), i = .int .i64 j ∧ out.length + j ≤ 39 ∧ LJ w g out v wr) (fun _ i _ => (intOf i).toNat)
    case atStart => exact ⟨[], n, rfl, by simp; omega, HL.out⟩
    case round =>
      obtain ⟨out, j, rfl, hoj, hLJ⟩ := hrel
      obtain ⟨v, rfl⟩ : ∃ v, v = u8 := ⟨_, rfl⟩
      have HLJ := Lib.hid hLJ
      clear hLJ HL
      cases j with
      | zero =>
        obtain ⟨av, capv, rfl, hcv, hcv2, h5⟩ := HLJ.out.five
        have HF := Lib.hid HLJ.out.fi
        have HF5 := Lib.hid h5
        clear h5
        obtain ⟨m, hm⟩ : ∃ m, min out.length 5 = m := ⟨_, rfl⟩
        have hml : m ≤ out.length := by omega
        have hmz : min (out.length : Int) 5 = (m : Int) := by omega
        have m1 : (m : Int) ≤ (capv : Int) := by omega
        have m2 : (0 : Int) ≤ (m : Int) := by omega
        have HX := Lib.hid fun cap' => X3.start (HR.out.later HLJ.out.below) h60 HRN.out HF.out (by omega) HLJ.out.nms (HF5.out m cap' hml)
        have HBW := Lib.hid HLJ.out.below
        clear hm
        go_wp2_with fail
        obtain ⟨xb, hxb⟩ : ∃ xb, xb = wr.heap.size := ⟨_, rfl⟩
        rw [← hxb] at HX ⊢
        clear hxb
        go_loopw [59] (fun i wr => ∃ k : Nat, k ≤ 3 ∧ i = .int .i64 k ∧ X3 wr xb ∧ RowKit.Below w.heap.size w wr) (fun i _ => 3 - (intOf i).toNat)
        case atStart => exact ⟨0, by omega, rfl, HX.out _, HBW.out.alloc HBW.out.size _⟩
        case round =>
          obtain ⟨k, hk, rfl, hXX, hb⟩ := hrel
          by_cases hlt : k < 3
          · obtain ⟨v, d, hcell, hfi, hdl, hdn⟩ := hXX.2 k hlt

            have hfi2 := hfi
            obtain ⟨ad, cd, rfl, _⟩ := hfi2
            have HS := Lib.hid (pSort_both _ d wr (HK.out.below hb) hfi (by omega))
            have HS2 := Lib.hid fun W (hW : RowKit.Below wr.heap.size wr W) => refSort_both _ d W (hfi.later hW) (by omega) hdn
            have i1 : (k : Int) < 3 := by omega
            have i2 : (0 : Int) ≤ (k : Int) := by omega
            clear HX HBW HF HF5 HLJ hdn
            go_wp2_with fail
            refine HS.out.mono ?_
            intro e w4 h4
            rcases h4.cases with ⟨c1, hc1, rfl, hw1, hb4⟩ | ⟨v1, o1, rfl, hf1, hs1, hp1, h32, hnb, hb4⟩
            · have HE := Lib.hid hw1
              clear h4 hw1 HS
              go_wp2_with fail
              refine (HS2.out w4 hb4).mono ?_
              intro e w5 h5
              rcases h5.cases with ⟨c2, hc2, rfl, hw2, hb5⟩ | ⟨v2, o2, rfl, hf2, hs2, hp2, h32, hnb, hb5⟩
              · obtain rfl : c1 = c2 := err_same HE.out hw2
                have tt : ((c1 : Int) != (c1 : Int)) = false := by simp
                have t0 : ((c1 : Int) == 0) = false := by rw [beq_eq_false_iff_ne]; omega
                have hb6 := hb4.trans (hb5.mono hb4.size)
                clear h5 hw2 HE HS2 hb4 hb5
                go_wp2_with fail
                refine (sameG _ _ [] w5 (FI.nil _) (FI.nil _) (by simp)).mono ?_
                rintro e wz ⟨rfl, hb7⟩
                have hbZ := hb6.trans (hb7.mono hb6.size)
                clear hb6 hb7
                have HX := Lib.hid (hXX.later hbZ)
                have HV := Lib.hid (hfi.later hbZ)
                have hbw := hb.trans (hbZ.mono hb.size)
                clear hXX hfi
                go_wp2_with fail
                obtain ⟨nb, hnb⟩ : ∃ nb, nb = wz.heap.size := ⟨_, rfl⟩
                have HQ := Lib.hid (IS.start (w := w) (xb := xb) (d := d) nm hbw HX.out HV.out)
                rw [← hnb] at HQ ⊢
                clear hnb
                go_loopw [100] (fun i wr => ∃ j : Nat, j ≤ 3 ∧ i = .int .i64 j ∧ IS w xb nb (.slice ad d.length cd) d wr) (fun i _ => 3 - (intOf i).toNat)
                case atStart => exact ⟨0, by omega, rfl, HQ.out⟩
                case round =>
                  obtain ⟨j, hj, rfl, hI⟩ := hrel
                  have HI := Lib.hid hI
                  by_cases hlt : j < 3
                  · obtain ⟨n, hn⟩ := hI.nms.2 j hlt
                    have HG := Lib.hid (pGet_any _ d n wr hI.fi (by omega))
                    have HG2 := Lib.hid fun W (hW : RowKit.Below wr.heap.size wr W) => rGet_any _ d n W (hI.fi.later hW) (by omega)
                    have i1 : (j : Int) < 3 := by omega
                    have i2 : (0 : Int) ≤ (j : Int) := by omega
                    obtain ⟨R, hR⟩ : ∃ R, gv d n = R := ⟨_, rfl⟩
                    obtain ⟨S, hS⟩ : ∃ S, R.getD [] = S := ⟨_, rfl⟩
                    obtain ⟨B, hB⟩ : ∃ B, R.isSome = B := ⟨_, rfl⟩
                    unfold GetPost at HG HG2
                    rw [hR, hS, hB] at HG HG2
                    clear hI HQ hR hS hB
                    go_wp2_with fail
                    refine HG.out.mono ?_
                    rintro e w1 ⟨rfl, hb1⟩
                    have HG3 := Lib.hid (HG2.out w1 hb1)
                    go_wp2_with fail
                    refine HG3.out.mono ?_
                    rintro e w2 ⟨rfl, hb2⟩
                    have HI2 := Lib.hid ((HI.out.later hb1).later hb2)
                    go_wp2_with fail
                    go_roundw
                    case rel => exact ⟨j + 1, by omega, by go_num, HI2.out⟩
                    case measure => simp [intOf]; omega
                  · obtain rfl : j = 3 := by omega
                    go_wp2_with fail
                    refine ⟨?_, by simp [intOf]; omega⟩
                    repeat apply Exists.intro (α := Value)
                    refine ⟨⟨k + 1, by omega, ?h1, hI.x, hI.below⟩, ?h2⟩
                    case h2 => rfl
                    case h1 => go_num
              · exact (err_not_ok HE.out h32 hnb hs2 hp2).elim
            · have HO := Lib.hid (show StrictS o1 ∧ o1.Perm d ∧ ¬ BadF d 0 from ⟨hs1, hp1, hnb⟩)
              have HF1 := Lib.hid hf1
              have ho32 : o1.length ≤ 32 := by rw [hp1.length_eq]; exact h32
              clear h4 hs1 hp1 hnb HS hf1
              go_wp2_with fail
              refine (HS2.out w4 hb4).mono ?_
              intro e w5 h5
              rcases h5.cases with ⟨c2, hc2, rfl, hw2, hb5⟩ | ⟨v2, o2, rfl, hf2, hs2, hp2, _, hnb, hb5⟩
              · exact (err_not_ok hw2 h32 HO.out.2.2 HO.out.1 HO.out.2.1).elim
              · obtain rfl : o1 = o2 := ok_same HO.out.1 HO.out.2.1 hs2 hp2
                have hb6 := hb4.trans (hb5.mono hb4.size)
                have HSA := Lib.hid (sameG v1 v2 o1 w5 (HF1.out.later hb5) hf2 (by omega))
                have HF2 := Lib.hid (HF1.out.later hb5)
                clear h5 hs2 hp2 hnb HS2 hb4 hb5 hf2 HF1
                go_wp2_with fail
                refine HSA.out.mono ?_
                rintro e w6 ⟨rfl, hb7⟩
                have hb8 := hb6.trans (hb7.mono hb6.size)
                have HF3 := Lib.hid (HF2.out.later hb7)
                have HS3 := Lib.hid (pSort_both v1 o1 w6 (HK.out.below (hb.trans (hb8.mono hb.size))) HF3.out (by omega))
                clear hb6 hb7 HSA HF2
                go_wp2_with fail
                refine HS3.out.mono ?_
                intro e w7 h7
                rcases h7.cases with ⟨c2, hc2, rfl, hw2, hb9⟩ | ⟨v3, o3, rfl, hf3, hs3, hp3, _, _, hb9⟩
                · exact (ok_again HO.out.1 HO.out.2.1 h32 HO.out.2.2 hw2).elim
                · obtain rfl : o1 = o3 := ok_same HO.out.1 (List.Perm.refl _) hs3 hp3
                  have HSB := Lib.hid (sameG v3 v1 o1 w7 hf3 (HF3.out.later hb9) (by omega))
                  have hb10 := hb8.trans (hb9.mono hb8.size)
                  clear h7 hs3 hp3 hf3 HF3 HS3 hb8 hb9 HO
                  go_wp2_with fail
                  refine HSB.out.mono ?_
                  rintro e wz ⟨rfl, hb11⟩
                  have hbZ := hb10.trans (hb11.mono hb10.size)
                  clear hb10 hb11 HSB
                  have HX := Lib.hid (hXX.later hbZ)
                  have HV := Lib.hid (hfi.later hbZ)
                  have hbw := hb.trans (hbZ.mono hb.size)
                  clear hXX hfi
                  go_wp2_with fail
                  obtain ⟨nb, hnb⟩ : ∃ nb, nb = wz.heap.size := ⟨_, rfl⟩
                  have HQ := Lib.hid (IS.start (w := w) (xb := xb) (d := d) nm hbw HX.out HV.out)
                  rw [← hnb] at HQ ⊢
                  clear hnb
                  go_loopw [100] (fun i wr => ∃ j : Nat, j ≤ 3 ∧ i = .int .i64 j ∧ IS w xb nb (.slice ad d.length cd) d wr) (fun i _ => 3 - (intOf i).toNat)
                  case atStart => exact ⟨0, by omega, rfl, HQ.out⟩
                  case round =>
                    obtain ⟨j, hj, rfl, hI⟩ := hrel
                    have HI := Lib.hid hI
                    by_cases hlt : j < 3
                    · obtain ⟨n, hn⟩ := hI.nms.2 j hlt
                      have HG := Lib.hid (pGet_any _ d n wr hI.fi (by omega))
                      have HG2 := Lib.hid fun W (hW : RowKit.Below wr.heap.size wr W) => rGet_any _ d n W (hI.fi.later hW) (by omega)
                      have i1 : (j : Int) < 3 := by omega
                      have i2 : (0 : Int) ≤ (j : Int) := by omega
                      obtain ⟨R, hR⟩ : ∃ R, gv d n = R := ⟨_, rfl⟩
                      obtain ⟨S, hS⟩ : ∃ S, R.getD [] = S := ⟨_, rfl⟩
                      obtain ⟨B, hB⟩ : ∃ B, R.isSome = B := ⟨_, rfl⟩
                      unfold GetPost at HG HG2
                      rw [hR, hS, hB] at HG HG2
                      clear hI HQ hR hS hB
                      go_wp2_with fail
                      refine HG.out.mono ?_
                      rintro e w1 ⟨rfl, hb1⟩
                      have HG3 := Lib.hid (HG2.out w1 hb1)
                      go_wp2_with fail
                      refine HG3.out.mono ?_
                      rintro e w2 ⟨rfl, hb2⟩
                      have HI2 := Lib.hid ((HI.out.later hb1).later hb2)
                      go_wp2_with fail
                      go_roundw
                      case rel => exact ⟨j + 1, by omega, by go_num, HI2.out⟩
                      case measure => simp [intOf]; omega
                    · obtain rfl : j = 3 := by omega
                      go_wp2_with fail
                      refine ⟨?_, by simp [intOf]; omega⟩
                      repeat apply Exists.intro (α := Value)
                      refine ⟨⟨k + 1, by omega, ?h1, hI.x, hI.below⟩, ?h2⟩
                      case h2 => rfl
                      case h1 => go_num
          · obtain rfl : k = 3 := by omega
            go_wp2_with fail
            go_ret
            exact ⟨rfl, hb⟩
      | succ j =>
        have hj0 : (0 : Int) < (j : Int) + 1 := by omega
        have hgl := HLJ.out.codes.1
        go_wp2_with fail
        refine (pickN_any g wr HLJ.out.codes).mono ?_
        rintro e w4 ⟨x1, hx1, rfl, k1, a1⟩
        have l1 := short (fs := pickN) (n := 3) (by decide) hx1
        have HL1 := Lib.hid (HLJ.out.apart hg1 a1 k1)
        clear hx1 k1 a1
        go_wp2_with fail
        refine (pickM_any g w4 HL1.out.codes).mono ?_
        rintro e w5 ⟨x2, hx2, rfl, k2, a2⟩
        have l2 := short (fs := pickM) (n := 1) (by decide) hx2
        have HL2 := Lib.hid (HL1.out.apart hg1 a2 k2)
        clear hx2 k2 a2
        have e1 := ba_app x1 x2
        have E1 := Lib.hid e1
        clear e1
        go_wp2_with fail
        refine (text1_any g w5 HL2.out.codes).mono ?_
        rintro e w6 ⟨y, hy, rfl, k3, a3⟩
        have HL3 := Lib.hid (HL2.out.apart hg1 a3 k3)
        have hown := HL3.out.own
        have hsz : g + 1 ≤ w6.heap.size := HL3.out.codes.1
        have hfl : out.length ≤ 39 := by omega
        have q1 : out.length + 1 ≤ 140737488355328 := by omega
        have q2 : (out.length + 1) * 32 ≤ 140737488355328 := by omega
        clear k3 a3
        go_wp2_with (at_builtin; refine wpList_append_k (ys := [.string ⟨(x1 ++ x2).toArray⟩, .string ⟨y.toArray⟩]) rfl _ _ 27 30 (.agg #[.string ⟨#[]⟩, .string ⟨#[]⟩]) 2 32 rfl Tryd.underlying27 infoF rfl (by decide) (g + 1) _ _ _ rfl hown rfl w6.heap.size rfl rfl (one_encF [(x1 ++ x2, y)]) q1 q2 hsz ?_; intro v' w7 hown' hgrow; have HX2 := Lib.hid (HL3.out.push hg1 (x1 ++ x2, y) (by simp; omega) hown' hgrow); clear hown hown' hgrow)
        refine ⟨⟨out ++ [(x1 ++ x2, y)], j, by go_num, by simp; omega, HX2.out⟩, by simp [intOf]⟩
  · have t60 : decide ((60 : Int) < (raw.length : Int)) = true := decide_eq_true (by omega)
    go_enter Tryd.func4, Tryd.ntmps4
    go_wp2_with (go_at_call 7; refine HA.out.mono ?_; rintro e w1 ⟨rfl, hb1⟩)
    go_ret
    exact ⟨rfl, hb1⟩

end Go.Proofs.YtfdbjgdafolbmaaDoor

/-
  symMergeCmpFunc.
-/
import Derived.Test.YtfdbjgdafolbmaaDoorSoB
import Derived.Deep.RegionHeld3
namespace Go.Proofs.YtfdbjgdafolbmaaDoor
open Go.RowKit Go.Sort Go.Shelf

abbrev cmpV : Value := .func (.func 29) #[] #[]
theorem closure_b (x y : Fd) (W : World) : Calls Tryd.prog 29 #[.agg #[.string ⟨x.1.toArray⟩, .string ⟨x.2.toArray⟩], .agg #[.string ⟨y.1.toArray⟩, .string ⟨y.2.toArray⟩]] W fun e w' =>
    e = .returned (.int .i64 (cmpF x y)) ∧ RowKit.Below W.heap.size W w' :=
  (closure_any x y W).mono fun e w' ⟨h1, q, os, h2⟩ => ⟨h1, by rw [h2]; exact below_growN (below_drewN (Below.refl _ _) q) (Nat.le_refl _) os⟩
theorem cmp_is {x y : Fd} {b : Bool} (h : ltF x y = b) : decide (cmpF x y < 0) = b := h

set_option maxRecDepth 100000 in
set_option maxHeartbeats 4000000 in
theorem symM_1 {w0 W : World} {blk : Nat} {d : Array Fd} (cap a m b : Nat) (h : RW w0 blk d W) (ham : a + 1 = m) (hmb : m < b) (hb : b ≤ d.size) (hd : d.size ≤ 1000) (hs : SortedIn ltF m b d) :
    Calls Tryd.prog 63 #[.slice (some ⟨blk, 0, none⟩) d.size cap, .int .i64 a, .int .i64 m, .int .i64 b, cmpV] W fun e w' => e = .returned (.tuple #[]) ∧ ∃ d', Mg d a b d' ∧ RW w0 blk d' w' := by
  have H0 := Lib.hid h
  have HS := Lib.hid hs
  have HAM := Lib.hid ham
  have t0 : ((m : Int) - (a : Int) == 1) = true := by rw [beq_iff_eq]; omega
  clear h hs
  have g1 : a < m := by omega
  have g2 : m ≤ a + 1 := by omega
  clear ham
  go_enter Tryd.func63, Tryd.ntmps63
  go_wp2_with fail
  go_loopg [10, 11, 12] (b - m) (fun z vi vj _ wr => ∃ i j : Nat, vi = .int .i64 i ∧ vj = .int .i64 j ∧ m ≤ i ∧ i ≤ j ∧ j ≤ b ∧ j - i = z ∧ (m < i → ltF d[i - 1]! d[a]! = true) ∧ (j < b → ltF d[j]! d[a]! = false) ∧ RW w0 blk d wr)
  case atStart => exact ⟨m, b, rfl, rfl, by omega, by omega, by omega, rfl, fun h => by omega, fun h => by omega, H0.out⟩
  case round =>
    obtain ⟨i, j, rfl, rfl, hi, hij, hj, hz, hl, hr, hR⟩ := hrel
    have HL := Lib.hid hl
    have HRR := Lib.hid hr
    have HR := Lib.hid hR
    have HZ := Lib.hid hz
    clear hl hr hR H0 hz
    by_cases hlt : i < j
    · obtain ⟨c, hc⟩ : ∃ c, (i + j) / 2 = c := ⟨_, rfl⟩
      have e1 : ((i : Int) + (j : Int)) / 2 = (c : Int) := by omega
      have c1 : i ≤ c := by omega
      have c2 : c < j := by omega
      have E1 := Lib.hid e1
      clear hc e1
      go_wp2_with fail
      rw [E1.out]
      have i1 : (0 : Int) ≤ (c : Int) := by omega
      have i2 : (c : Int) < (d.size : Int) := by omega
      have i3 : (0 : Int) ≤ (a : Int) := by omega
      have i4 : (a : Int) < (d.size : Int) := by omega
      obtain ⟨p1, p2⟩ := HR.out.cell (c) (by have := HR.out; omega)
      obtain ⟨q1, q2⟩ := HR.out.cell (a) (by omega)
      have hbk := HR.out.hi
      generalize hxx : d[c]! = x at *
      generalize hyy : d[a]! = y at *
      have HXX := Lib.hid hxx
      have HYY := Lib.hid hyy
      clear hxx hyy
      cases hc : ltF x y
      · have tc := cmp_is hc
        have HCC := Lib.hid hc
        clear hc
        go_region_held3 (fun W' => W'.cell? ⟨blk, (c) * 2, none⟩ = some (.string ⟨x.1.toArray⟩) ∧ W'.cell? ⟨blk, (c) * 2 + 1, none⟩ = some (.string ⟨x.2.toArray⟩) ∧ W'.cell? ⟨blk, (a) * 2, none⟩ = some (.string ⟨y.1.toArray⟩) ∧ W'.cell? ⟨blk, (a) * 2 + 1, none⟩ = some (.string ⟨y.2.toArray⟩)) (go_keep) (first | (go_at_call 29; refine (closure_b x y _).mono ?_; rintro e w2 ⟨rfl, hbl⟩; have z1 := (hbl.cell (p := ⟨blk, (c) * 2, none⟩) hbk).trans p1; have z2 := (hbl.cell (p := ⟨blk, (c) * 2 + 1, none⟩) hbk).trans p2; have z3 := (hbl.cell (p := ⟨blk, (a) * 2, none⟩) hbk).trans q1; have z4 := (hbl.cell (p := ⟨blk, (a) * 2 + 1, none⟩) hbk).trans q2))
        have HR2 := Lib.hid ((HR.out.later (W' := wr.drew) ((Below.refl _ _).drew)).later hbl)
        clear z1 z2 z3 z4 hbl
        go_wp2_with fail
        go_roundg (c - i)
        case measure => have := HZ.out; omega
        case rel => exact ⟨i, c, rfl, rfl, hi, by omega, by omega, rfl, fun h => HL.out h, fun _ => by rw [HXX.out]; exact HCC.out, HR2.out⟩
      · have tc := cmp_is hc
        have HCC := Lib.hid hc
        clear hc
        go_region_held3 (fun W' => W'.cell? ⟨blk, (c) * 2, none⟩ = some (.string ⟨x.1.toArray⟩) ∧ W'.cell? ⟨blk, (c) * 2 + 1, none⟩ = some (.string ⟨x.2.toArray⟩) ∧ W'.cell? ⟨blk, (a) * 2, none⟩ = some (.string ⟨y.1.toArray⟩) ∧ W'.cell? ⟨blk, (a) * 2 + 1, none⟩ = some (.string ⟨y.2.toArray⟩)) (go_keep) (first | (go_at_call 29; refine (closure_b x y _).mono ?_; rintro e w2 ⟨rfl, hbl⟩; have z1 := (hbl.cell (p := ⟨blk, (c) * 2, none⟩) hbk).trans p1; have z2 := (hbl.cell (p := ⟨blk, (c) * 2 + 1, none⟩) hbk).trans p2; have z3 := (hbl.cell (p := ⟨blk, (a) * 2, none⟩) hbk).trans q1; have z4 := (hbl.cell (p := ⟨blk, (a) * 2 + 1, none⟩) hbk).trans q2))
        have HR2 := Lib.hid ((HR.out.later (W' := wr.drew) ((Below.refl _ _).drew)).later hbl)
        clear z1 z2 z3 z4 hbl
        go_wp2_with fail
        go_roundg (j - (c + 1))
        case measure => have := HZ.out; omega
        case rel => exact ⟨c + 1, j, by go_num, rfl, by omega, by omega, hj, rfl, fun _ => by rw [Nat.add_sub_cancel, HXX.out]; exact HCC.out, fun h => HRR.out h, HR2.out⟩
    · obtain rfl : i = j := by omega
      go_wp2_with fail
      go_loopw [13] (fun vk wr => ∃ (k : Nat) (D : Array Fd), vk = .int .i64 k ∧ a ≤ k ∧ k ≤ i - 1 ∧ Up d a k D ∧ RW w0 blk D wr) (fun vk _ => i - (intOf vk).toNat)
      case atStart => exact ⟨a, d, rfl, by omega, by omega, ⟨permIn_refl _ _ _, rfl, fun p h1 h2 => by omega⟩, HR.out⟩
      case round =>
        obtain ⟨k, D, rfl, hk1, hk2, hU, hR⟩ := hrel
        have HU := Lib.hid hU
        have HSZ := Lib.hid hU.perm.1
        clear hU HR
        have HR := Lib.hid hR
        clear hR
        by_cases hkl : k < i - 1
        · have i1 : (0 : Int) ≤ (k : Int) := by omega
          have i2 : (k : Int) < (d.size : Int) := by omega
          have i3 : (0 : Int) ≤ (k : Int) + 1 := by omega
          have i4 : (k : Int) + 1 < (d.size : Int) := by omega
          have i5 : ((k : Int) + 1).toNat = k + 1 := by omega
          have t5 : decide ((k : Int) < (i : Int) - 1) = true := decide_eq_true (by omega)
          have HUN := Lib.hid (HU.out.next hk1 (by omega))
          obtain ⟨p1, p2⟩ := HR.out.cell (k) (by have := HU.out.perm.1; omega)
          obtain ⟨q1, q2⟩ := HR.out.cell (k + 1) (by have := HU.out.perm.1; omega)
          have HN := Lib.hid (HR.out.swap (k) (k + 1) (by have := HU.out.perm.1; omega) (by have := HU.out.perm.1; omega) (by omega))
          have f1 := HR.out.fz ((k) * 2)
          have f2 := HR.out.fz ((k) * 2 + 1)
          have f3 := HR.out.fz ((k + 1) * 2)
          have f4 := HR.out.fz ((k + 1) * 2 + 1)
          clear HR
          generalize D[k]! = x at *
          generalize D[k + 1]! = y at *
          have i6 : IntKind.i64.wrap ((k : Int) + 1) = (k : Int) + 1 := IntWalk.i64_in _ ⟨by omega, by omega⟩
          go_wp2_with fail
          go_region
          go_wp2_with fail
          go_roundw
          case rel => exact ⟨k + 1, _, by go_num, by omega, by omega, HUN.out, HN.out⟩
          case measure => simp [intOf]; omega
        · obtain rfl : k = i - 1 := by omega
          have t5 : decide (((i - 1 : Nat) : Int) < (i : Int) - 1) = false := decide_eq_false (by omega)
          go_wp2_with fail
          refine bodyPost_ret (results_none rfl _ _ _) rfl ?_
          refine ⟨rfl, D, ?_, HR.out⟩
          have hs := HS.out
          rw [← HAM.out] at hs
          exact mg_up hs hb (by omega) (by omega) (fun h => HL.out (by omega)) (fun h => HRR.out h) HU.out

set_option maxRecDepth 100000 in
set_option maxHeartbeats 4000000 in
theorem symM_2 {w0 W : World} {blk : Nat} {d : Array Fd} (cap a m b : Nat) (h : RW w0 blk d W) (ham : a + 1 < m) (hmb : m + 1 = b) (hb : b ≤ d.size) (hd : d.size ≤ 1000) (hs : SortedIn ltF a m d) :
    Calls Tryd.prog 63 #[.slice (some ⟨blk, 0, none⟩) d.size cap, .int .i64 a, .int .i64 m, .int .i64 b, cmpV] W fun e w' => e = .returned (.tuple #[]) ∧ ∃ d', Mg d a b d' ∧ RW w0 blk d' w' := by
  have H0 := Lib.hid h
  have HS := Lib.hid hs
  have HMB := Lib.hid hmb
  have t0 : ((m : Int) - (a : Int) == 1) = false := by rw [beq_eq_false_iff_ne]; omega
  have t1 : ((b : Int) - (m : Int) == 1) = true := by rw [beq_iff_eq]; omega
  clear h hs
  have g1 : m < b := by omega
  have g2 : b ≤ m + 1 := by omega
  clear hmb
  go_enter Tryd.func63, Tryd.ntmps63
  go_wp2_with fail
  go_loopg [14, 15, 16] (m - a) (fun z vi vj _ wr => ∃ i j : Nat, vi = .int .i64 i ∧ vj = .int .i64 j ∧ a ≤ i ∧ i ≤ j ∧ j ≤ m ∧ j - i = z ∧ (a < i → ltF d[m]! d[i - 1]! = false) ∧ (j < m → ltF d[m]! d[j]! = true) ∧ RW w0 blk d wr)
  case atStart => exact ⟨a, m, rfl, rfl, by omega, by omega, by omega, rfl, fun h => by omega, fun h => by omega, H0.out⟩
  case round =>
    obtain ⟨i, j, rfl, rfl, hi, hij, hj, hz, hl, hr, hR⟩ := hrel
    have HL := Lib.hid hl
    have HRR := Lib.hid hr
    have HR := Lib.hid hR
    have HZ := Lib.hid hz
    clear hl hr hR H0 hz
    by_cases hlt : i < j
    · obtain ⟨c, hc⟩ : ∃ c, (i + j) / 2 = c := ⟨_, rfl⟩
      have e1 : ((i : Int) + (j : Int)) / 2 = (c : Int) := by omega
      have c1 : i ≤ c := by omega
      have c2 : c < j := by omega
      have E1 := Lib.hid e1
      clear hc e1
      go_wp2_with fail
      rw [E1.out]
      have i1 : (0 : Int) ≤ (c : Int) := by omega
      have i2 : (c : Int) < (d.size : Int) := by omega
      have i3 : (0 : Int) ≤ (m : Int) := by omega
      have i4 : (m : Int) < (d.size : Int) := by omega
      obtain ⟨p1, p2⟩ := HR.out.cell (m) (by have := HR.out; omega)
      obtain ⟨q1, q2⟩ := HR.out.cell (c) (by omega)
      have hbk := HR.out.hi
      generalize hxx : d[m]! = x at *
      generalize hyy : d[c]! = y at *
      have HXX := Lib.hid hxx
      have HYY := Lib.hid hyy
      clear hxx hyy
      cases hc : ltF x y
      · have tc := cmp_is hc
        have HCC := Lib.hid hc
        clear hc
        go_region_held3 (fun W' => W'.cell? ⟨blk, (m) * 2, none⟩ = some (.string ⟨x.1.toArray⟩) ∧ W'.cell? ⟨blk, (m) * 2 + 1, none⟩ = some (.string ⟨x.2.toArray⟩) ∧ W'.cell? ⟨blk, (c) * 2, none⟩ = some (.string ⟨y.1.toArray⟩) ∧ W'.cell? ⟨blk, (c) * 2 + 1, none⟩ = some (.string ⟨y.2.toArray⟩)) (go_keep) (first | (go_at_call 29; refine (closure_b x y _).mono ?_; rintro e w2 ⟨rfl, hbl⟩; have z1 := (hbl.cell (p := ⟨blk, (m) * 2, none⟩) hbk).trans p1; have z2 := (hbl.cell (p := ⟨blk, (m) * 2 + 1, none⟩) hbk).trans p2; have z3 := (hbl.cell (p := ⟨blk, (c) * 2, none⟩) hbk).trans q1; have z4 := (hbl.cell (p := ⟨blk, (c) * 2 + 1, none⟩) hbk).trans q2))
        have HR2 := Lib.hid ((HR.out.later (W' := wr.drew) ((Below.refl _ _).drew)).later hbl)
        clear z1 z2 z3 z4 hbl
        go_wp2_with fail
        go_roundg (j - (c + 1))
        case measure => have := HZ.out; omega
        case rel => exact ⟨c + 1, j, by go_num, rfl, by omega, by omega, hj, rfl, fun _ => by rw [Nat.add_sub_cancel, HYY.out]; exact HCC.out, fun h => HRR.out h, HR2.out⟩
      · have tc := cmp_is hc
        have HCC := Lib.hid hc
        clear hc
        go_region_held3 (fun W' => W'.cell? ⟨blk, (m) * 2, none⟩ = some (.string ⟨x.1.toArray⟩) ∧ W'.cell? ⟨blk, (m) * 2 + 1, none⟩ = some (.string ⟨x.2.toArray⟩) ∧ W'.cell? ⟨blk, (c) * 2, none⟩ = some (.string ⟨y.1.toArray⟩) ∧ W'.cell? ⟨blk, (c) * 2 + 1, none⟩ = some (.string ⟨y.2.toArray⟩)) (go_keep) (first | (go_at_call 29; refine (closure_b x y _).mono ?_; rintro e w2 ⟨rfl, hbl⟩; have z1 := (hbl.cell (p := ⟨blk, (m) * 2, none⟩) hbk).trans p1; have z2 := (hbl.cell (p := ⟨blk, (m) * 2 + 1, none⟩) hbk).trans p2; have z3 := (hbl.cell (p := ⟨blk, (c) * 2, none⟩) hbk).trans q1; have z4 := (hbl.cell (p := ⟨blk, (c) * 2 + 1, none⟩) hbk).trans q2))
        have HR2 := Lib.hid ((HR.out.later (W' := wr.drew) ((Below.refl _ _).drew)).later hbl)
        clear z1 z2 z3 z4 hbl
        go_wp2_with fail
        go_roundg (c - i)
        case measure => have := HZ.out; omega
        case rel => exact ⟨i, c, rfl, rfl, hi, by omega, by omega, rfl, fun h => HL.out h, fun _ => by rw [HYY.out]; exact HCC.out, HR2.out⟩
    · obtain rfl : i = j := by omega
      go_wp2_with fail
      go_loopw [17] (fun vk wr => ∃ (k : Nat) (D : Array Fd), vk = .int .i64 k ∧ i ≤ k ∧ k ≤ m ∧ Dn d m k D ∧ RW w0 blk D wr) (fun vk _ => (intOf vk).toNat)
      case atStart => exact ⟨m, d, rfl, by omega, by omega, ⟨permIn_refl _ _ _, rfl, fun p h1 h2 => by omega⟩, HR.out⟩
      case round =>
        obtain ⟨k, D, rfl, hk1, hk2, hU, hR⟩ := hrel
        have HU := Lib.hid hU
        clear hU HR
        have HR := Lib.hid hR
        clear hR
        by_cases hkl : i < k
        · obtain ⟨k, rfl⟩ : ∃ k', k = k' + 1 := ⟨k - 1, by omega⟩
          have i1 : (0 : Int) ≤ (k : Int) := by omega
          have i2 : (k : Int) < (d.size : Int) := by omega
          have i3 : (0 : Int) ≤ (k : Int) + 1 := by omega
          have i4 : (k : Int) + 1 < (d.size : Int) := by omega
          have i5 : ((k : Int) + 1).toNat = k + 1 := by omega
          have t5 : decide ((i : Int) < (k : Int) + 1) = true := decide_eq_true (by omega)
          have HUN := Lib.hid (HU.out.next hk2 (by omega))
          obtain ⟨p1, p2⟩ := HR.out.cell (k + 1) (by have := HU.out.perm.1; omega)
          obtain ⟨q1, q2⟩ := HR.out.cell (k) (by have := HU.out.perm.1; omega)
          have HN := Lib.hid (HR.out.swap (k + 1) (k) (by have := HU.out.perm.1; omega) (by have := HU.out.perm.1; omega) (by omega))
          have f1 := HR.out.fz ((k + 1) * 2)
          have f2 := HR.out.fz ((k + 1) * 2 + 1)
          have f3 := HR.out.fz ((k) * 2)
          have f4 := HR.out.fz ((k) * 2 + 1)
          clear HR
          generalize D[k + 1]! = x at *
          generalize D[k]! = y at *
          have i6 : IntKind.i64.wrap ((k : Int) + 1 - 1) = (k : Int) := by rw [IntWalk.i64_in _ ⟨by omega, by omega⟩]; omega
          have i7 : (k : Int) + 1 - 1 = (k : Int) := by omega
          go_wp2_with fail
          go_region
          go_wp2_with fail
          go_roundw
          case rel => exact ⟨k, _, by go_num, by omega, by omega, HUN.out, HN.out⟩
          case measure => simp [intOf]
        · obtain rfl : k = i := by omega
          have t5 : decide ((k : Int) < (k : Int)) = false := decide_eq_false (by omega)
          go_wp2_with fail
          refine bodyPost_ret (results_none rfl _ _ _) rfl ?_
          refine ⟨rfl, D, ?_, HR.out⟩
          rw [← HMB.out]
          exact mg_dn HS.out (by omega) (by omega) (by omega) (fun h => HL.out (by omega)) (fun h => HRR.out h) HU.out

end Go.Proofs.YtfdbjgdafolbmaaDoor

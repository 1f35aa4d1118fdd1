/-
 Joined: RpI, RpJ.
-/
import Derived.Test.YtgcpinnnfoanjaaGreatDoorRdP
import Derived.Test.YtgcpinnnfoanjaaGreatDoorRdJ
namespace Go.Proofs.YtgcpinnnfoanjaaGreatDoor
open Go.RowKit
def RbsP (l : List UInt8) (r : Out (Int × Int)) (w : World) (en : Ending) (w' : World) : Prop :=
 ∃ (j e bad : Nat) (lo hi : Int), en = .returned (.tuple #[.agg #[.string ⟨l.toArray⟩, .int .i64 (j : Int), .int .i64 (e : Int), .int .i64 (bad : Int)], .int .i64 lo, .int .i64 hi]) ∧ Below w.heap.size w w' ∧
  (match r with
  | .ok ((a, b), j') => (j = j' ∧ e = 0 ∧ bad = 0) ∧ lo = a ∧ hi = b ∧ j ≤ l.length
  | .error (k, x) => (e = x ∧ x ≠ 0 ∧ bad = k) ∧ j ≤ 1002)
theorem pk_lt_len {l : List UInt8} {j c : Nat} (h : Asc.at_ l j = c) (hc : c < 256) : j < l.length := Asc.at_lt (by omega)
set_option maxHeartbeats 16000000 in
set_option maxRecDepth 1000000 in
theorem rbounds_any (l : List UInt8) (i : Nat) (hl : l.length ≤ 1000) (hi : i ≤ l.length) (w : World) : Calls Tryz.prog 115 #[.agg #[.string ⟨l.toArray⟩, .int .i64 (i : Int), .int .i64 0, .int .i64 0]] w (RbsP l (boundsM l i) w) := by
 obtain ⟨M, hM⟩ : ∃ M, boundsM l i = M := ⟨_, rfl⟩
 rw [hM]
 unfold boundsM at hM
 have HM := Lib.hid hM
 clear hM
 have HI0 : Hid (RI w l i 0 0 ((w.alloc (.cells #[.string ⟨l.toArray⟩, .int .i64 (i : Int), .int .i64 0, .int .i64 0] 111)).alloc (.cells #[.string ⟨#[]⟩, .int .i64 0, .int .i64 0, .int .i64 0] 111))) := Lib.hid (RI.start w l i 0 0)
 have HBD := Lib.hid fun j (hj : j ≤ l.length) W => rbound_any l j hl hj W
 have HPK := Lib.hid fun j W => rpeek_any l j 0 0 W
 have HF := Lib.hid fun j x W => rfail_any l j 0 x j W
 go_enter Tryz.func115, Tryz.ntmps115
 go_wp2_with fail
 refine (HBD.out i hi _).mono ?_
 rintro e w1 ⟨j, e1, bad, n, rfl, hb, hr⟩
 have HI1 := Lib.hid (HI0.out.go hb)
 have HI2 := Lib.hid (HI1.out.put j e1 bad)
 clear hb HI0
 obtain ⟨⟨c0, c1, c2, c3⟩, f0, f1, f2, f3⟩ := HI1.out.cs
 obtain ⟨⟨ra, rb, rc, rd, r0, r1, r2, r3⟩, g0, g1, g2, g3⟩ := HI1.out.rs
 go_upto_region 2 with fail
 obtain ⟨w2, hw0⟩ : ∃ w2, ((((w1.setCell ⟨w.heap.size, 0, none⟩ (.string ⟨l.toArray⟩)).setCell ⟨w.heap.size, 1, none⟩ (.int .i64 (j : Int))).setCell ⟨w.heap.size, 2, none⟩ (.int .i64 (e1 : Int))).setCell ⟨w.heap.size, 3, none⟩ (.int .i64 (bad : Int))) = w2 := ⟨_, rfl⟩
 have HI2 : Hid (RI w l j e1 bad w2) := Lib.hid (by rw [← hw0]; exact HI2.out)
 rw [hw0]
 clear hw0 c0 c1 c2 c3 f0 f1 f2 f3 r0 r1 r2 r3 g0 g1 g2 g3 HI1
 obtain ⟨⟨c0, c1, c2, c3⟩, f0, f1, f2, f3⟩ := HI2.out.cs
 obtain ⟨⟨ra, rb, rc, rd, r0, r1, r2, r3⟩, g0, g1, g2, g3⟩ := HI2.out.rs
 cases hq : boundM l i with
 | error kx =>
  obtain ⟨k, x⟩ := kx
  rw [hq] at hr HM
  obtain ⟨⟨rfl, hx0, rfl⟩, hj, hn0, hn1⟩ := hr
  have HR := Lib.hid (show M = .error (bad, e1) from HM.out.symm)
  have HE := Lib.hid hx0
  have z1 : ((e1 : Int) == 0) = false := by rw [beq_eq_false_iff_ne]; omega
  clear HM hq hx0
  have hwj : IntKind.i64.wrap ((j : Int) + 1) = (j : Int) + 1 := IntWalk.i64_in _ (by omega)
  have HX := Lib.hid (HI2.out.to ((j) + 1))
  go_wp2_with fail
  exact HX.out.rctt (P := 2) (T := 3) (S := 4) rfl (by rfl) (by rfl) (by rfl) (fun w' hb => by rw [HR.out]; exact ⟨(j) + 1, e1, bad, _, _, rfl, hb, ⟨rfl, by first | decide | exact HE.out, rfl⟩, by omega⟩)
 | ok vj =>
  obtain ⟨v, j'⟩ := vj
  rw [hq] at hr HM
  obtain ⟨⟨rfl, rfl, rfl⟩, rfl, hv, hj⟩ := hr
  clear hq
  have hw1 : IntKind.i64.wrap ((j : Int) + 1) = (j : Int) + 1 := IntWalk.i64_in _ (by omega)
  go_wp2_with fail
  have HP44 := Lib.hid (pk_eq (l := l) (i := j) (c := 44) (by decide) (by decide))
  have HP125 := Lib.hid (pk_eq (l := l) (i := j) (c := 125) (by decide) (by decide))
  have hc8 := pk_lt l j
  refine (HPK.out j _).mono ?_
  rintro e w3 ⟨rfl, hb⟩
  have HI3 := Lib.hid (HI2.out.go hb)
  clear hb
  clear c0 c1 c2 c3 f0 f1 f2 f3 r0 r1 r2 r3 g0 g1 g2 g3 HI2
  obtain ⟨⟨c0, c1, c2, c3⟩, f0, f1, f2, f3⟩ := HI3.out.cs
  obtain ⟨⟨ra, rb, rc, rd, r0, r1, r2, r3⟩, g0, g1, g2, g3⟩ := HI3.out.rs
  obtain ⟨c, hc⟩ : ∃ c, pk l j = c := ⟨_, rfl⟩
  rw [hc] at HP44 HP125 hc8 ⊢
  have HPC := Lib.hid hc
  clear hc
  by_cases h44 : c = 44
  ·subst h44
   have hat := HP44.out.1 rfl
   have hlt : j < l.length := pk_lt_len hat (by decide)
   simp only [if_pos hat] at HM
   have HI4 : Hid (RI w l (j + 1) 0 0 (w3.setCell ⟨w.heap.size, 1, none⟩ (.int .i64 ((j : Int) + 1)))) := Lib.hid (HI3.out.to (j + 1))
   have HQ125 := Lib.hid (pk_eq (l := l) (i := j + 1) (c := 125) (by decide) (by decide))
   have hd8 := pk_lt l (j + 1)
   have HPK1 := Lib.hid fun W => HPK.out (j + 1) W
   rw [show ((j + 1 : Nat) : Int) = (j : Int) + 1 from rfl] at HPK1
   clear hat
   go_wp2_with fail
   refine (HPK1.out _).mono ?_
   rintro e w5 ⟨rfl, hb⟩
   have HI5 := Lib.hid (HI4.out.go hb)
   clear hb
   clear c0 c1 c2 c3 f0 f1 f2 f3 r0 r1 r2 r3 g0 g1 g2 g3 HI3 HI4
   obtain ⟨⟨c0, c1, c2, c3⟩, f0, f1, f2, f3⟩ := HI5.out.cs
   obtain ⟨⟨ra, rb, rc, rd, r0, r1, r2, r3⟩, g0, g1, g2, g3⟩ := HI5.out.rs
   obtain ⟨d, hd⟩ : ∃ d, pk l (j + 1) = d := ⟨_, rfl⟩
   rw [hd] at HQ125 hd8 ⊢
   have HPD := Lib.hid hd
   clear hd
   by_cases h125 : d = 125
   ·subst h125
    have hat := HQ125.out.1 rfl
    have hlt2 : j + 1 < l.length := pk_lt_len hat (by decide)
    rw [if_pos hat] at HM
    have HR := Lib.hid HM.out.symm
    clear hat HM
    go_wp2_with fail
    refine (HPK1.out _).mono ?_
    rintro e w6 ⟨rfl, hb⟩
    have HI6 := Lib.hid (HI5.out.go hb)
    clear hb
    rw [HPD.out]
    clear c0 c1 c2 c3 f0 f1 f2 f3 r0 r1 r2 r3 g0 g1 g2 g3 HI5
    obtain ⟨⟨c0, c1, c2, c3⟩, f0, f1, f2, f3⟩ := HI6.out.cs
    obtain ⟨⟨ra, rb, rc, rd, r0, r1, r2, r3⟩, g0, g1, g2, g3⟩ := HI6.out.rs
    have hwj : IntKind.i64.wrap ((j : Int) + 1 + 1) = (j : Int) + 1 + 1 := IntWalk.i64_in _ (by omega)
    have HX := Lib.hid (HI6.out.to ((j + 1) + 1))
    go_wp2_with fail
    exact HX.out.rctt (P := 2) (T := 3) (S := 4) rfl (by rfl) (by rfl) (by rfl) (fun w' hb => by rw [HR.out]; exact ⟨(j + 1) + 1, 0, 0, _, _, rfl, hb, ⟨rfl, rfl, rfl⟩, rfl, rfl, by have := hlt2; omega⟩)
   ·have z1 : ((d : Int) == 125) = false := by rw [beq_eq_false_iff_ne]; omega
    have z1' : ((d : Int) != 125) = true := by simp; omega
    have hat : Asc.at_ l (j + 1) ≠ 125 := fun h => h125 (HQ125.out.2 h)
    rw [if_neg hat] at HM
    have HB2 := Lib.hid fun W => HBD.out (j + 1) (by omega) W
    rw [show ((j + 1 : Nat) : Int) = (j : Int) + 1 from rfl] at HB2
    clear h125 hat
    go_wp2_with fail
    refine (HB2.out _).mono ?_
    rintro e w6 ⟨k, e2, bad2, n2, rfl, hb, hr⟩
    have HI6 := Lib.hid (HI5.out.go hb)
    have HI7 := Lib.hid (HI6.out.put k e2 bad2)
    clear hb c0 c1 c2 c3 f0 f1 f2 f3 r0 r1 r2 r3 g0 g1 g2 g3 HI5
    obtain ⟨⟨c0, c1, c2, c3⟩, f0, f1, f2, f3⟩ := HI6.out.cs
    obtain ⟨⟨ra, rb, rc, rd, r0, r1, r2, r3⟩, g0, g1, g2, g3⟩ := HI6.out.rs
    go_upto_region 8 with fail
    obtain ⟨w7, hw0⟩ : ∃ w7, ((((w6.setCell ⟨w.heap.size, 0, none⟩ (.string ⟨l.toArray⟩)).setCell ⟨w.heap.size, 1, none⟩ (.int .i64 (k : Int))).setCell ⟨w.heap.size, 2, none⟩ (.int .i64 (e2 : Int))).setCell ⟨w.heap.size, 3, none⟩ (.int .i64 (bad2 : Int))) = w7 := ⟨_, rfl⟩
    have HI7 : Hid (RI w l k e2 bad2 w7) := Lib.hid (by rw [← hw0]; exact HI7.out)
    rw [hw0]
    clear hw0 c0 c1 c2 c3 f0 f1 f2 f3 r0 r1 r2 r3 g0 g1 g2 g3 HI6
    obtain ⟨⟨c0, c1, c2, c3⟩, f0, f1, f2, f3⟩ := HI7.out.cs
    obtain ⟨⟨ra, rb, rc, rd, r0, r1, r2, r3⟩, g0, g1, g2, g3⟩ := HI7.out.rs
    cases hq : boundM l (j + 1) with
    | error kx =>
     obtain ⟨k', x⟩ := kx
     rw [hq] at hr HM
     obtain ⟨⟨rfl, hx0, rfl⟩, hk, hn0, hn1⟩ := hr
     have HR := Lib.hid (show M = .error (bad2, e2) from HM.out.symm)
     have HE := Lib.hid hx0
     have z2 : ((e2 : Int) == 0) = false := by rw [beq_eq_false_iff_ne]; omega
     clear HM hq hx0
     have hwj : IntKind.i64.wrap ((k : Int) + 1) = (k : Int) + 1 := IntWalk.i64_in _ (by omega)
     have HX := Lib.hid (HI7.out.to ((k) + 1))
     go_wp2_with fail
     exact HX.out.rctt (P := 2) (T := 3) (S := 4) rfl (by rfl) (by rfl) (by rfl) (fun w' hb => by rw [HR.out]; exact ⟨(k) + 1, e2, bad2, _, _, rfl, hb, ⟨rfl, by first | decide | exact HE.out, rfl⟩, by omega⟩)
    | ok vk =>
     obtain ⟨v2, k'⟩ := vk
     rw [hq] at hr HM
     obtain ⟨⟨rfl, rfl, rfl⟩, rfl, hv2, hk⟩ := hr
     clear hq
     have hwk : IntKind.i64.wrap ((k : Int) + 1) = (k : Int) + 1 := IntWalk.i64_in _ (by omega)
     by_cases hlo : v2 < v
     ·have z2 : decide ((v2 : Int) < (v : Int)) = true := decide_eq_true (by omega)
      have y2 : decide (v2 < v) = true := decide_eq_true hlo
      simp only [if_pos hlo] at HM
      have HR := Lib.hid HM.out.symm
      clear HM
      go_wp2_with fail
      refine (HF.out k 2 _).mono ?_
      rintro e w8 ⟨rfl, hb⟩
      have HI8 := Lib.hid (HI7.out.go hb)
      have HI9 := Lib.hid (HI8.out.put k 2 k)
      clear hb c0 c1 c2 c3 f0 f1 f2 f3 r0 r1 r2 r3 g0 g1 g2 g3 HI7
      obtain ⟨⟨c0, c1, c2, c3⟩, f0, f1, f2, f3⟩ := HI8.out.cs
      obtain ⟨⟨ra, rb, rc, rd, r0, r1, r2, r3⟩, g0, g1, g2, g3⟩ := HI8.out.rs
      go_upto_region 10 with fail
      obtain ⟨w9, hw0⟩ : ∃ w9, ((((w8.setCell ⟨w.heap.size, 0, none⟩ (.string ⟨l.toArray⟩)).setCell ⟨w.heap.size, 1, none⟩ (.int .i64 (k : Int))).setCell ⟨w.heap.size, 2, none⟩ (.int .i64 2)).setCell ⟨w.heap.size, 3, none⟩ (.int .i64 (k : Int))) = w9 := ⟨_, rfl⟩
      have HI9 : Hid (RI w l k 2 k w9) := Lib.hid (by rw [← hw0]; exact HI9.out)
      rw [hw0]
      clear hw0 c0 c1 c2 c3 f0 f1 f2 f3 r0 r1 r2 r3 g0 g1 g2 g3 HI8
      obtain ⟨⟨c0, c1, c2, c3⟩, f0, f1, f2, f3⟩ := HI9.out.cs
      obtain ⟨⟨ra, rb, rc, rd, r0, r1, r2, r3⟩, g0, g1, g2, g3⟩ := HI9.out.rs
      have hwj' : IntKind.i64.wrap ((k : Int) + 1) = (k : Int) + 1 := IntWalk.i64_in _ (by omega)
      have HX := Lib.hid (HI9.out.to ((k) + 1))
      go_wp2_with fail
      exact HX.out.rctt (P := 2) (T := 3) (S := 4) rfl (by rfl) (by rfl) (by rfl) (fun w' hb => by rw [HR.out]; exact ⟨(k) + 1, 2, k, _, _, rfl, hb, ⟨rfl, by first | decide | exact HE.out, rfl⟩, by omega⟩)
     ·have z2 : decide ((v2 : Int) < (v : Int)) = false := decide_eq_false (by omega)
      have y2 : decide (v2 < v) = false := decide_eq_false hlo
      simp only [if_neg hlo] at HM
      have HP2 := Lib.hid (pk_eq (l := l) (i := k) (c := 125) (by decide) (by decide))
      have hg8 := pk_lt l k
      go_wp2_with fail
      refine (HPK.out k _).mono ?_
      rintro e w8 ⟨rfl, hb⟩
      have HI8 := Lib.hid (HI7.out.go hb)
      clear hb
      clear c0 c1 c2 c3 f0 f1 f2 f3 r0 r1 r2 r3 g0 g1 g2 g3 HI7
      obtain ⟨⟨c0, c1, c2, c3⟩, f0, f1, f2, f3⟩ := HI8.out.cs
      obtain ⟨⟨ra, rb, rc, rd, r0, r1, r2, r3⟩, g0, g1, g2, g3⟩ := HI8.out.rs
      obtain ⟨g, hg⟩ : ∃ g, pk l k = g := ⟨_, rfl⟩
      rw [hg] at HP2 hg8 ⊢
      clear hg
      by_cases h7 : g = 125
      ·subst h7
       have hat := HP2.out.1 rfl
       have hlt2 : k < l.length := pk_lt_len hat (by decide)
       rw [if_pos hat] at HM
       have HR := Lib.hid HM.out.symm
       clear hat HM
       have hwj : IntKind.i64.wrap ((k : Int) + 1) = (k : Int) + 1 := IntWalk.i64_in _ (by omega)
       have HX := Lib.hid (HI8.out.to ((k) + 1))
       go_wp2_with fail
       exact HX.out.rctt (P := 2) (T := 3) (S := 4) rfl (by rfl) (by rfl) (by rfl) (fun w' hb => by rw [HR.out]; exact ⟨(k) + 1, 0, 0, _, _, rfl, hb, ⟨rfl, rfl, rfl⟩, rfl, rfl, by have := hlt2; omega⟩)
      ·have z3 : ((g : Int) == 125) = false := by rw [beq_eq_false_iff_ne]; omega
       have z3' : ((g : Int) != 125) = true := by simp; omega
       rw [if_neg (fun h => h7 (HP2.out.2 h))] at HM
       have HR := Lib.hid HM.out.symm
       clear HM
       go_wp2_with fail
       refine (HF.out k 1 _).mono ?_
       rintro e w9 ⟨rfl, hb⟩
       have HI9 := Lib.hid (HI8.out.go hb)
       have HI10 := Lib.hid (HI9.out.put k 1 k)
       clear hb c0 c1 c2 c3 f0 f1 f2 f3 r0 r1 r2 r3 g0 g1 g2 g3 HI8
       obtain ⟨⟨c0, c1, c2, c3⟩, f0, f1, f2, f3⟩ := HI9.out.cs
       obtain ⟨⟨ra, rb, rc, rd, r0, r1, r2, r3⟩, g0, g1, g2, g3⟩ := HI9.out.rs
       go_upto_region 12 with fail
       obtain ⟨w10, hw0⟩ : ∃ w10, ((((w9.setCell ⟨w.heap.size, 0, none⟩ (.string ⟨l.toArray⟩)).setCell ⟨w.heap.size, 1, none⟩ (.int .i64 (k : Int))).setCell ⟨w.heap.size, 2, none⟩ (.int .i64 1)).setCell ⟨w.heap.size, 3, none⟩ (.int .i64 (k : Int))) = w10 := ⟨_, rfl⟩
       have HI10 : Hid (RI w l k 1 k w10) := Lib.hid (by rw [← hw0]; exact HI10.out)
       rw [hw0]
       clear hw0 c0 c1 c2 c3 f0 f1 f2 f3 r0 r1 r2 r3 g0 g1 g2 g3 HI9
       obtain ⟨⟨c0, c1, c2, c3⟩, f0, f1, f2, f3⟩ := HI10.out.cs
       obtain ⟨⟨ra, rb, rc, rd, r0, r1, r2, r3⟩, g0, g1, g2, g3⟩ := HI10.out.rs
       have hwj : IntKind.i64.wrap ((k : Int) + 1) = (k : Int) + 1 := IntWalk.i64_in _ (by omega)
       have HX := Lib.hid (HI10.out.to ((k) + 1))
       go_wp2_with fail
       exact HX.out.rctt (P := 2) (T := 3) (S := 4) rfl (by rfl) (by rfl) (by rfl) (fun w' hb => by rw [HR.out]; exact ⟨(k) + 1, 1, k, _, _, rfl, hb, ⟨rfl, by first | decide | exact HE.out, rfl⟩, by omega⟩)
  ·have z1 : ((c : Int) == 44) = false := by rw [beq_eq_false_iff_ne]; omega
   simp only [if_neg (fun h => h44 (HP44.out.2 h))] at HM
   clear h44
   go_wp2_with fail
   refine (HPK.out j _).mono ?_
   rintro e w4 ⟨rfl, hb⟩
   have HI4 := Lib.hid (HI3.out.go hb)
   clear hb
   rw [HPC.out]
   clear c0 c1 c2 c3 f0 f1 f2 f3 r0 r1 r2 r3 g0 g1 g2 g3 HI3
   obtain ⟨⟨c0, c1, c2, c3⟩, f0, f1, f2, f3⟩ := HI4.out.cs
   obtain ⟨⟨ra, rb, rc, rd, r0, r1, r2, r3⟩, g0, g1, g2, g3⟩ := HI4.out.rs
   by_cases h125 : c = 125
   ·subst h125
    have hat := HP125.out.1 rfl
    have hlt : j < l.length := pk_lt_len hat (by decide)
    rw [if_pos hat] at HM
    have HR := Lib.hid HM.out.symm
    clear hat HM
    have hwj : IntKind.i64.wrap ((j : Int) + 1) = (j : Int) + 1 := IntWalk.i64_in _ (by omega)
    have HX := Lib.hid (HI4.out.to ((j) + 1))
    go_wp2_with fail
    exact HX.out.rctt (P := 2) (T := 3) (S := 4) rfl (by rfl) (by rfl) (by rfl) (fun w' hb => by rw [HR.out]; exact ⟨(j) + 1, 0, 0, _, _, rfl, hb, ⟨rfl, rfl, rfl⟩, rfl, rfl, by have := hlt; omega⟩)
   ·have z2 : ((c : Int) == 125) = false := by rw [beq_eq_false_iff_ne]; omega
    have z2' : ((c : Int) != 125) = true := by simp; omega
    rw [if_neg (fun h => h125 (HP125.out.2 h))] at HM
    have HR := Lib.hid HM.out.symm
    clear HM
    go_wp2_with fail
    refine (HF.out j 1 _).mono ?_
    rintro e w5 ⟨rfl, hb⟩
    have HI5 := Lib.hid (HI4.out.go hb)
    have HI6 := Lib.hid (HI5.out.put j 1 j)
    clear hb c0 c1 c2 c3 f0 f1 f2 f3 r0 r1 r2 r3 g0 g1 g2 g3 HI4
    obtain ⟨⟨c0, c1, c2, c3⟩, f0, f1, f2, f3⟩ := HI5.out.cs
    obtain ⟨⟨ra, rb, rc, rd, r0, r1, r2, r3⟩, g0, g1, g2, g3⟩ := HI5.out.rs
    go_upto_region 12 with fail
    obtain ⟨w6, hw0⟩ : ∃ w6, ((((w5.setCell ⟨w.heap.size, 0, none⟩ (.string ⟨l.toArray⟩)).setCell ⟨w.heap.size, 1, none⟩ (.int .i64 (j : Int))).setCell ⟨w.heap.size, 2, none⟩ (.int .i64 1)).setCell ⟨w.heap.size, 3, none⟩ (.int .i64 (j : Int))) = w6 := ⟨_, rfl⟩
    have HI6 : Hid (RI w l j 1 j w6) := Lib.hid (by rw [← hw0]; exact HI6.out)
    rw [hw0]
    clear hw0 c0 c1 c2 c3 f0 f1 f2 f3 r0 r1 r2 r3 g0 g1 g2 g3 HI5
    obtain ⟨⟨c0, c1, c2, c3⟩, f0, f1, f2, f3⟩ := HI6.out.cs
    obtain ⟨⟨ra, rb, rc, rd, r0, r1, r2, r3⟩, g0, g1, g2, g3⟩ := HI6.out.rs
    have hwj : IntKind.i64.wrap ((j : Int) + 1) = (j : Int) + 1 := IntWalk.i64_in _ (by omega)
    have HX := Lib.hid (HI6.out.to ((j) + 1))
    go_wp2_with fail
    exact HX.out.rctt (P := 2) (T := 3) (S := 4) rfl (by rfl) (by rfl) (by rfl) (fun w' hb => by rw [HR.out]; exact ⟨(j) + 1, 1, j, _, _, rfl, hb, ⟨rfl, by first | decide | exact HE.out, rfl⟩, by omega⟩)
end Go.Proofs.YtgcpinnnfoanjaaGreatDoor
namespace Go.Proofs.YtgcpinnnfoanjaaGreatDoor
open Go.RowKit
structure RBj (w : World) (l : List UInt8) (i e bad q : Nat) (f : Nat → Bool) (W : World) : Prop where
 rn : RN w l i e bad W
 sb : SbQ q f W
 hq : w.heap.size + 1 + 1 < q
section
variable {i e bad q : Nat} {f : Nat → Bool} {l : List UInt8} {w W W' : World}
theorem RBj.on (h : RBj w l i e bad q f W) {B : Nat} (k : Below B W W') (hB : q < B) : RBj w l i e bad q f W' := ⟨h.rn.on k (Nat.lt_trans h.hq hB), h.sb.on k hB, h.hq⟩
theorem RBj.go (h : RBj w l i e bad q f W) (k : Below W.heap.size W W') : RBj w l i e bad q f W' := h.on k h.sb.lt
theorem RBj.to (h : RBj w l i e bad q f W) (j : Nat) : RBj w l j e bad q f (W.setCell ⟨w.heap.size, 1, none⟩ (.int .i64 (j : Int))) := ⟨h.rn.to j, h.sb.other 1 _ (by have := h.hq; omega), h.hq⟩
theorem SbQ.nest {q s : Nat} {f : Nat → Bool} {W : World} {x y z u : Value} (h : SbQ s f W) (hs : s ≠ q) : SbQ s f ((((W.setCell ⟨q, 0, none⟩ x).setCell ⟨q, 1, none⟩ y).setCell ⟨q, 2, none⟩ z).setCell ⟨q, 3, none⟩ u) := (((h.other 0 x hs).other 1 y hs).other 2 z hs).other 3 u hs
theorem RBj.put (h : RBj w l i e bad q f W) (i' e' bad' : Nat) : RBj w l i' e' bad' q f ((((W.setCell ⟨w.heap.size, 0, none⟩ (.string ⟨l.toArray⟩)).setCell ⟨w.heap.size, 1, none⟩ (.int .i64 (i' : Int))).setCell ⟨w.heap.size, 2, none⟩ (.int .i64 (e' : Int))).setCell ⟨w.heap.size, 3, none⟩ (.int .i64 (bad' : Int))) :=
 ⟨h.rn.put i' e' bad', h.sb.nest (by have := h.hq; omega), h.hq⟩
theorem RBj.st (h : RBj w l i e bad q f W) (g : Nat → Bool) : ∃ W', (storeCells ⟨q, 0, none⟩ (setA g).toList).run Tryz.prog W = .ok () W' ∧ RBj w l i e bad q g W' := by
 obtain ⟨W', e, h5, h6, _⟩ := put_set2 h.sb g
 exact ⟨W', e, h.rn.on h6 h.hq, h5, h.hq⟩
theorem RBj.set (h : RBj w l i e bad q f W) (k : Nat) (x : Bool) : RBj w l i e bad q (fun j => if j = k then x else f j) (W.setCell ⟨q, k, none⟩ (.bool x)) := ⟨h.rn.on ((Below.refl q W).setCell (p := ⟨q, k, none⟩) (Nat.le_refl _) (.bool x)) h.hq, h.sb.set k x, h.hq⟩
theorem RBj.eq {g : Nat → Bool} (h : RBj w l i e bad q f W) (he : setA f = setA g) : RBj w l i e bad q g W := ⟨h.rn, h.sb.eq he, h.hq⟩
end
theorem itemM_le {l : List UInt8} {s : Bool} {i : Nat} {x : (Nat → Bool) × Nat × Bool} {j : Nat} (h : itemM l s i = .ok (x, j)) : j ≤ l.length := by
 unfold itemM at h
 split at h
 ·split at h
  ·cases h
  ·have hj := escM_lt h
   have hlt : i + 1 < l.length := by
    rcases Nat.lt_or_ge (i + 1) l.length with h2 | h2
    ·exact h2
    ·have h9 : Asc.at_ l (i + 1) = 999 := by unfold Asc.at_; rw [List.getElem?_eq_none h2]
     rw [escM_end h9] at h
     cases h
   omega
 ·split at h
  ·next h3 =>
   injection h with h
   injection h with _ h
   have hlt : i < l.length := by
    rcases Nat.lt_or_ge i l.length with h2 | h2
    ·exact h2
    ·have h9 : Asc.at_ l i = 999 := by unfold Asc.at_; rw [List.getElem?_eq_none h2]
     rw [h9] at h3
     exact absurd h3 (by decide)
   omega
  ·cases h
theorem dws_nmG (c : Nat) : dws c = nmG c := rfl
theorem item_single (l : List UInt8) (m : Nat) : (∀ x, itemM l false m = .error x → itemM l true m = .error x) ∧ (∀ s c k, itemM l false m = .ok ((s, c, true), k) → itemM l true m = .ok ((s, c, true), k)) ∧ (∀ s c k, itemM l false m = .ok ((s, c, false), k) → itemM l true m = .error (m, 1) ∧ k = m + 2) := by
 by_cases h92 : Asc.at_ l m = 92
 ·have ef : itemM l false m = escM l (m + 1) := itemM_esc h92
  have et : itemM l true m = if dws (Asc.at_ l (m + 1)) = true then .error (m, 1) else escM l (m + 1) := by
   unfold itemM
   rw [if_pos h92]
   cases dws (Asc.at_ l (m + 1)) <;> rfl
  obtain ⟨d, hd⟩ : ∃ d, Asc.at_ l (m + 1) = d := ⟨_, rfl⟩
  rw [ef, et, hd, dws_nmG]
  cases hg : nmG d with
  | true =>
   rw [escM_named hd hg, if_pos rfl]
   refine ⟨fun x h => (by cases h), fun s c k h => ?_, fun s c k h => ?_⟩
   ·injection h with h
    injection h with h _
    injection h with _ h
    injection h with _ h
    cases h
   ·injection h with h
    injection h with _ h
    exact ⟨rfl, by omega⟩
  | false =>
   rw [if_neg (by decide)]
   refine ⟨fun x h => h, fun s c k h => h, fun s c k h => ?_⟩
   cases hs : sgB d with
   | true =>
    rw [escM_single hd hg hs] at h
    injection h with h
    injection h with h _
    injection h with _ h
    injection h with _ h
    cases h
   | false =>
    rw [escM_bad hd hg hs] at h
    cases h
 ·have e : itemM l true m = itemM l false m := by unfold itemM; rw [if_neg h92, if_neg h92]
  rw [e]
  refine ⟨fun x h => h, fun s c k h => h, fun s c k h => ?_⟩
  unfold itemM at h
  rw [if_neg h92] at h
  split at h
  ·injection h with h
   injection h with h _
   injection h with _ h
   injection h with _ h
   cases h
  ·cases h
theorem RBj.left {i e bad q : Nat} {f : Nat → Bool} {l : List UInt8} {w W : World} (h : RBj w l i e bad q f W) : (intOf ((W.cell? ⟨w.heap.size, 1, none⟩).getD undef)).toNat = i := by
 rw [h.rn.ri.pb.c1]
 simp [intOf]
theorem RBj.lts {i e bad q : Nat} {f : Nat → Bool} {l : List UInt8} {w W : World} (h : RBj w l i e bad q f W) : w.heap.size < W.heap.size ∧ w.heap.size + 1 < W.heap.size ∧ w.heap.size + 1 + 1 < W.heap.size := by
 have := h.rn.sz
 omega
theorem RBj.item {i e bad q : Nat} {f : Nat → Bool} {l : List UInt8} {w W w3 : World} (h : RBj w l i e bad q f W) (hb : Below (W.alloc (.cells (setA (fun _ => false)) 167)).heap.size (W.alloc (.cells (setA (fun _ => false)) 167)) w3) : RBj w l i e bad q f w3 ∧ SbQ W.heap.size (fun _ => false) w3 ∧ q < W.heap.size :=
 ⟨(h.go (al_below W _)).go hb, (SbQ.new W _).on hb (by simp), h.sb.lt⟩
theorem RBj.item2 {i e bad q s : Nat} {f : Nat → Bool} {l : List UInt8} {w W : World} (h : RBj w l i e bad q f W) (hs : SbQ s (fun _ => false) W) (hq : q < s) (i' e' bad' : Nat) (g : Nat → Bool) : ∃ W', (storeCells ⟨s, 0, none⟩ (setA g).toList).run Tryz.prog ((((W.setCell ⟨w.heap.size, 0, none⟩ (.string ⟨l.toArray⟩)).setCell ⟨w.heap.size, 1, none⟩ (.int .i64 (i' : Int))).setCell ⟨w.heap.size, 2, none⟩ (.int .i64 (e' : Int))).setCell ⟨w.heap.size, 3, none⟩ (.int .i64 (bad' : Int))) = .ok () W' ∧ RBj w l i' e' bad' q f W' ∧ SbQ s g W' := by
 have hn : s ≠ w.heap.size := by have := h.hq; omega
 obtain ⟨W', e, h5, h6, _⟩ := put_set2 (hs.nest (q := w.heap.size) hn (x := .string ⟨l.toArray⟩) (y := .int .i64 (i' : Int)) (z := .int .i64 (e' : Int)) (u := .int .i64 (bad' : Int))) g
 exact ⟨W', e, (h.put i' e' bad').on h6 hq, h5⟩
def RbI (l : List UInt8) (R : Out (Nat → Bool)) (first : Bool) (k : Nat) (f : Nat → Bool) : Prop := ∃ n, l.length < k + n ∧ braL l n first k f = R
def Go93 (l : List UInt8) (first : Bool) (k : Nat) : Prop := ¬ (first = false ∧ Asc.at_ l k = 93)
theorem RbI.stop {l : List UInt8} {R : Out (Nat → Bool)} {k : Nat} {f : Nat → Bool} (h : RbI l R false k f) (hk : k ≤ l.length) (h93 : Asc.at_ l k = 93) : R = .ok (f, k) := by
 obtain ⟨n, hn, hr⟩ := h
 cases n with
 | zero => omega
 | succ n => rw [← hr, braL, if_pos ⟨rfl, h93⟩]
theorem RbI.bad {l : List UInt8} {R : Out (Nat → Bool)} {first : Bool} {k : Nat} {f : Nat → Bool} (h : RbI l R first k f) (hk : k ≤ l.length) (h93 : Go93 l first k) {x : Nat × Nat} (hm : itemM l false k = .error x) : R = .error x := by
 obtain ⟨n, hn, hr⟩ := h
 cases n with
 | zero => omega
 | succ n => rw [← hr, braL, if_neg (show ¬ (first = false ∧ Asc.at_ l k = 93) from h93), hm]
theorem RbI.one {l : List UInt8} {R : Out (Nat → Bool)} {first : Bool} {k : Nat} {f : Nat → Bool} (h : RbI l R first k f) (hk : k ≤ l.length) (h93 : Go93 l first k) {s : Nat → Bool} {c j : Nat} {one : Bool} (hm : itemM l false k = .ok ((s, c, one), j)) (h45 : ¬ (one = true ∧ Asc.at_ l j = 45)) : RbI l R false j (fun c => f c || s c) := by
 have := itemM_lt hm
 obtain ⟨n, hn, hr⟩ := h
 cases n with
 | zero => omega
 | succ n =>
  rw [braL, if_neg (show ¬ (first = false ∧ Asc.at_ l k = 93) from h93), hm] at hr
  simp only at hr
  rw [if_neg h45] at hr
  exact ⟨n, by omega, hr⟩
theorem RbI.two {l : List UInt8} {R : Out (Nat → Bool)} {first : Bool} {k : Nat} {f : Nat → Bool} (h : RbI l R first k f) (hk : k ≤ l.length) (h93 : Go93 l first k) {s : Nat → Bool} {c j : Nat} (hm : itemM l false k = .ok ((s, c, true), j)) (h45 : Asc.at_ l j = 45) :
  (∀ x, itemM l true (j + 1) = .error x → R = .error x) ∧ (∀ s2 hi k2 o, itemM l true (j + 1) = .ok ((s2, hi, o), k2) → (hi < c → R = .error (k2, 2)) ∧ (¬ hi < c → RbI l R false k2 (fun d => f d || spanF c (hi + 1) d))) := by
 have hkj := itemM_lt hm
 obtain ⟨n, hn, hr⟩ := h
 cases n with
 | zero => omega
 | succ n =>
  rw [braL, if_neg (show ¬ (first = false ∧ Asc.at_ l k = 93) from h93), hm] at hr
  simp only at hr
  rw [if_pos ⟨trivial, h45⟩] at hr
  refine ⟨fun x hx => ?_, fun s2 hi k2 o hx => ⟨fun hlt => ?_, fun hlt => ?_⟩⟩
  ·rw [hx] at hr
   exact hr.symm
  ·rw [hx] at hr
   simp only at hr
   rw [if_pos hlt] at hr
   exact hr.symm
  ·rw [hx] at hr
   simp only at hr
   rw [if_neg hlt] at hr
   have := itemM_lt hx
   exact ⟨n, by omega, hr⟩
set_option maxHeartbeats 16000000 in
set_option maxRecDepth 1000000 in
theorem rbracket_any (l : List UInt8) (i : Nat) (hl : l.length ≤ 1000) (hi : i ≤ l.length) (w : World) : Calls Tryz.prog 135 #[.agg #[.string ⟨l.toArray⟩, .int .i64 (i : Int), .int .i64 0, .int .i64 0]] w (RfP l (braM l i) w) := by
 have hv := (zero_of_info infoQ).1
 simp only [← setA_false] at hv
 obtain ⟨M, hM⟩ : ∃ M, braM l i = M := ⟨_, rfl⟩
 rw [hM]
 unfold braM at hM
 have HP94 := Lib.hid (pk_eq (l := l) (i := i) (c := 94) (by decide) (by decide))
 obtain ⟨i0, hi0⟩ : ∃ i0, (if Asc.at_ l i = 94 then i + 1 else i) = i0 := ⟨_, rfl⟩
 rw [hi0] at hM
 obtain ⟨R, hR⟩ : ∃ R, braL l (l.length + 1) true i0 (fun _ => false) = R := ⟨_, rfl⟩
 rw [hR] at hM
 have HM := Lib.hid hM
 have hi0l : i0 ≤ l.length := by
  rw [← hi0]
  split
  ·next h => exact Asc.at_lt (by omega)
  ·exact hi
 have HI0 : Hid (RbI l R true i0 (fun _ => false)) := Lib.hid ⟨l.length + 1, by omega, hR⟩
 have HII := Lib.hid hi0
 clear hM hR hi0
 have HN0 : Hid (RN w l i 0 0 (((w.alloc (.cells #[.string ⟨l.toArray⟩, .int .i64 (i : Int), .int .i64 0, .int .i64 0] 111)).alloc (.cells #[.string ⟨#[]⟩, .int .i64 0, .int .i64 0, .int .i64 0] 111)).alloc (.cells #[.int .i64 0, .slice none 0 0, .string ⟨#[]⟩, .slice none 0 0, .int .i64 0, .int .i64 0] 38))) := Lib.hid (RN.start w l i 0 0)
 have HPK0 := Lib.hid fun W => rpeek0 l i W
 have hw1 : IntKind.i64.wrap ((i : Int) + 1) = (i : Int) + 1 := IntWalk.i64_in _ (by omega)
 go_enter Tryz.func135, Tryz.ntmps135
 go_wp2_with fail
 refine (HPK0.out _).mono ?_
 rintro e w1 ⟨rfl, hb⟩
 have HN1 := Lib.hid (HN0.out.go hb)
 clear hb HN0 HPK0
 obtain ⟨⟨c0, c1, c2, c3⟩, f0, f1, f2, f3⟩ := HN1.out.ri.cs
 obtain ⟨⟨ra, rb, rc, rd, r0, r1, r2, r3⟩, g0, g1, g2, g3⟩ := HN1.out.ri.rs
 obtain ⟨⟨na, nb, nc, nd, ne, nf, n0, n1, n2, n3, n4, n5⟩, m0, m1, m2, m3, m4, m5⟩ := HN1.out.ns
 have hc8 := pk_lt l i
 obtain ⟨c, hc⟩ : ∃ c, pk l i = c := ⟨_, rfl⟩
 rw [hc] at hc8 HP94 ⊢
 clear hc
 obtain ⟨neg, hneg⟩ : ∃ b, ((c : Int) == 94) = b := ⟨_, rfl⟩
 have HNB := Lib.hid (show (neg = true → Asc.at_ l i = 94) ∧ (neg = false → Asc.at_ l i ≠ 94) from ⟨fun h => HP94.out.1 (by rw [← hneg, beq_iff_eq] at h; omega), fun h h2 => by rw [← hneg, beq_eq_false_iff_ne] at h; have := HP94.out.2 h2; omega⟩)
 go_upto_if 14 with fail
 clear hneg
 go_cut [] (fun wx => RN w l i0 0 0 wx)
 case first =>
  cases neg with
  | true =>
   have h94 := HNB.out.1 rfl
   have HII2 := HII.out
   rw [if_pos h94] at HII2
   subst HII2
   have HX := Lib.hid (HN1.out.to (i + 1))
   go_wp2_with fail
   go_meet
   exact HX.out
  | false =>
   have h94 := HNB.out.2 rfl
   have HII2 := HII.out
   rw [if_neg h94] at HII2
   subst HII2
   go_wp2_with fail
   go_meet
   exact HN1.out
 case rest =>
  have HN2 := Lib.hid hcut
  have HR2 : Hid (RBj w l i0 0 0 wc.heap.size (fun _ => false) (wc.alloc (.cells (setA (fun _ => false)) 167))) := Lib.hid ⟨hcut.go (al_below wc _), SbQ.new wc _, hcut.sz⟩
  clear hcut HN1 c0 c1 c2 c3 f0 f1 f2 f3 r0 r1 r2 r3 g0 g1 g2 g3 n0 n1 n2 n3 n4 n5 m0 m1 m2 m3 m4 m5 HP94 HII hw1 hc8
  have HIT := Lib.hid fun m (hm : m ≤ l.length) W => ritem_any l m hl hm W
  have HPK := Lib.hid fun m W => rpeek_any l m 0 0 W
  go_wp2_with fail
  obtain ⟨q, hq⟩ : ∃ q, wc.heap.size = q := ⟨_, rfl⟩
  rw [hq] at HR2 ⊢
  clear HN2
  go_loopw [6] (fun v wr => ∃ (first : Bool) (k : Nat) (f : Nat → Bool), v = .bool first ∧ k ≤ l.length ∧ Hid (RbI l R first k f) ∧ Hid (RBj w l k 0 0 q f wr)) (fun _ wr => l.length - (intOf ((wr.cell? ⟨w.heap.size, 1, none⟩).getD undef)).toNat)
  case atStart => exact ⟨true, i0, _, rfl, hi0l, HI0, HR2⟩
  case round =>
   obtain ⟨first, k, f, rfl, hkl, HI, HRB⟩ := hrel
   clear HR2 HI0 hq
   have HLF := Lib.hid HRB.out.left
   have hcase : ((first = true ∨ (first = false ∧ pk l k ≠ 93))) ∨ (first = false ∧ pk l k = 93) := by
    cases first with
    | true => exact .inl (.inl rfl)
    | false =>
     by_cases h : pk l k = 93
     ·exact .inr ⟨rfl, h⟩
     ·exact .inl (.inr ⟨rfl, h⟩)
   rcases hcase with hc | ⟨rfl, h93⟩
   ·have HGO : Hid (Go93 l first k) := Lib.hid (by
     rintro ⟨hf, ha⟩
     rcases hc with h | ⟨_, h⟩
     ·rw [h] at hf
      cases hf
     ·exact h ((pk_eq (by decide) (by decide)).2 ha))
    have HBD : Hid (∀ x, itemM l false k = .error x → M = .error x) := Lib.hid (fun x hx => by rw [← HM.out, HI.out.bad hkl HGO.out hx])
    rcases hc with rfl | ⟨rfl, hn93⟩
    all_goals
     obtain ⟨⟨c0, c1, c2, c3⟩, f0, f1, f2, f3⟩ := HRB.out.rn.ri.cs
     obtain ⟨⟨ra, rb, rc, rd, r0, r1, r2, r3⟩, g0, g1, g2, g3⟩ := HRB.out.rn.ri.rs
     obtain ⟨⟨na, nb, nc, nd, ne, nf, n0, n1, n2, n3, n4, n5⟩, m0, m1, m2, m3, m4, m5⟩ := HRB.out.rn.ns
     (try (have z93 : ((pk l k : Int) == 93) = false := by rw [beq_eq_false_iff_ne]; omega))
     (try (have z93' : ((pk l k : Int) != 93) = true := by simp; omega))
     have HR0 := HRB
     go_upto_region 8 with (go_at_call 79; refine (HPK.out k _).mono ?_; rintro e w2 ⟨rfl, hb⟩; have HR1 := Lib.hid (HRB.out.go hb); clear hb HR0; have HR0 := HR1; clear HR1)
     (try clear z93 z93')
     clear c0 c1 c2 c3 f0 f1 f2 f3 r0 r1 r2 r3 g0 g1 g2 g3 n0 n1 n2 n3 n4 n5 m0 m1 m2 m3 m4 m5 HRB
     obtain ⟨⟨c0, c1, c2, c3⟩, f0, f1, f2, f3⟩ := HR0.out.rn.ri.cs
     obtain ⟨⟨ra, rb, rc, rd, r0, r1, r2, r3⟩, g0, g1, g2, g3⟩ := HR0.out.rn.ri.rs
     obtain ⟨⟨na, nb, nc, nd, ne, nf, n0, n1, n2, n3, n4, n5⟩, m0, m1, m2, m3, m4, m5⟩ := HR0.out.rn.ns
     obtain ⟨l1, l2, l3⟩ := HR0.out.lts
     go_wp2_with fail
     clear c0 c1 c2 c3 f0 f1 f2 f3 r0 r1 r2 r3 g0 g1 g2 g3 n0 n1 n2 n3 n4 n5 m0 m1 m2 m3 m4 m5
     refine (HIT.out k hkl _).mono ?_
     rintro e w3 ⟨j, e1, bad, n, g, rfl, hb, hr⟩
     obtain ⟨hr3, hs3, hqs⟩ := HR0.out.item hb
     obtain ⟨w4, e4, hr4, hs4⟩ := hr3.item2 hs3 hqs j e1 bad g
     have HR3 := Lib.hid hr3
     have HR4 := Lib.hid hr4
     have HS4 := Lib.hid hs4
     clear hb hr3 hs3 hr4 hs4 hqs HR0 l1 l2 l3
     obtain ⟨⟨c0, c1, c2, c3⟩, f0, f1, f2, f3⟩ := HR3.out.rn.ri.cs
     obtain ⟨⟨ra, rb, rc, rd, r0, r1, r2, r3⟩, g0, g1, g2, g3⟩ := HR3.out.rn.ri.rs
     obtain ⟨⟨na, nb, nc, nd, ne, nf, n0, n1, n2, n3, n4, n5⟩, m0, m1, m2, m3, m4, m5⟩ := HR3.out.rn.ns
     go_upto_region 11 with fail
     clear e4 c0 c1 c2 c3 f0 f1 f2 f3 r0 r1 r2 r3 g0 g1 g2 g3 n0 n1 n2 n3 n4 n5 m0 m1 m2 m3 m4 m5 HR3
     obtain ⟨⟨c0, c1, c2, c3⟩, f0, f1, f2, f3⟩ := HR4.out.rn.ri.cs
     obtain ⟨⟨ra, rb, rc, rd, r0, r1, r2, r3⟩, g0, g1, g2, g3⟩ := HR4.out.rn.ri.rs
     obtain ⟨⟨na, nb, nc, nd, ne, nf, n0, n1, n2, n3, n4, n5⟩, m0, m1, m2, m3, m4, m5⟩ := HR4.out.rn.ns
     cases hq : itemM l false k with
     | error kx =>
      obtain ⟨k', x⟩ := kx
      rw [hq] at hr
      obtain ⟨⟨rfl, hx0, rfl⟩, hj⟩ := hr
      have HE := Lib.hid hx0
      have HR := Lib.hid (HBD.out _ hq)
      have z1 : ((e1 : Int) == 0) = false := by rw [beq_eq_false_iff_ne]; omega
      have z2 : ((e1 : Int) != 0) = true := by simp; omega
      clear hq hx0
      go_wp2_with fail
      exact HR4.out.rn.ret0 (P := 2) (N := 3) rfl (by rfl) (by rfl) HR.out HE.out (j := j) hj
     | ok scj =>
      obtain ⟨⟨s, c, one⟩, j'⟩ := scj
      rw [hq] at hr
      obtain ⟨⟨rfl, rfl, rfl⟩, hc8, ht, hf⟩ := hr
      have hkj := itemM_lt hq
      have hjl := itemM_le hq
      have HQ := Lib.hid hq
      clear hq
      cases one with
      | false =>
       obtain ⟨rfl, rfl⟩ := hf rfl
       have HI2 := Lib.hid (HI.out.one hkl HGO.out HQ.out (fun h => by cases h.1))
       clear ht hf
       go_wp2_with (first | (refine wpl_load_setQ rfl _ rfl _ rfl _ HR4.out.sb ?_) | (refine wpl_load_setQ rfl _ rfl _ rfl _ HS4.out ?_))
       refine (runion_any f g _).mono ?_
       rintro e w5 ⟨rfl, hb⟩
       obtain ⟨w6, e6, hr6⟩ := (HR4.out.go hb).st (fun c => f c || g c)
       have HR6 := Lib.hid hr6
       clear hb hr6 HR4 HS4 c0 c1 c2 c3 f0 f1 f2 f3 r0 r1 r2 r3 g0 g1 g2 g3 n0 n1 n2 n3 n4 n5 m0 m1 m2 m3 m4 m5
       go_wp2_with fail
       refine ⟨⟨false, j, _, rfl, hjl, HI2, HR6⟩, ?_⟩
       rw [HR6.out.left, HLF.out]
       omega
      | true =>
       obtain ⟨rfl, hs⟩ := ht rfl
       have HSE := Lib.hid hs
       clear ht hf hs HS4
       have zc : decide ((c : Int) < 0) = false := decide_eq_false (by omega)
       have hP45 := pk_eq (l := l) (i := j) (c := 45) (by decide) (by decide)
       have hp8 := pk_lt l j
       have hwj : IntKind.i64.wrap ((j : Int) + 1) = (j : Int) + 1 := IntWalk.i64_in _ (by omega)
       go_wp2_with fail
       refine (HPK.out j _).mono ?_
       rintro e w5 ⟨rfl, hb⟩
       have HR5 := Lib.hid (HR4.out.go hb)
       clear hb HR4 c0 c1 c2 c3 f0 f1 f2 f3 r0 r1 r2 r3 g0 g1 g2 g3 n0 n1 n2 n3 n4 n5 m0 m1 m2 m3 m4 m5
       obtain ⟨⟨c0, c1, c2, c3⟩, f0, f1, f2, f3⟩ := HR5.out.rn.ri.cs
       obtain ⟨⟨ra, rb, rc, rd, r0, r1, r2, r3⟩, g0, g1, g2, g3⟩ := HR5.out.rn.ri.rs
       obtain ⟨⟨na, nb, nc, nd, ne, nf, n0, n1, n2, n3, n4, n5⟩, m0, m1, m2, m3, m4, m5⟩ := HR5.out.rn.ns
       obtain ⟨d, hd⟩ : ∃ d, pk l j = d := ⟨_, rfl⟩
       rw [hd] at hP45 hp8 ⊢
       have HP45 := Lib.hid hP45
       clear hd hP45
       by_cases h45 : d = 45
       ·subst h45
        have hat := HP45.out.1 rfl
        have hjlt : j < l.length := Asc.at_lt (by omega)
        obtain ⟨t1, t2⟩ := HI.out.two hkl HGO.out HQ.out hat
        have HT1 := Lib.hid t1
        have HT2 := Lib.hid t2
        obtain ⟨u1, u2, u3⟩ := item_single l (j + 1)
        have HU1 := Lib.hid u1
        have HU2 := Lib.hid u2
        have HU3 := Lib.hid u3
        have HI2T := Lib.hid fun W => HIT.out (j + 1) (by omega) W
        rw [show ((j + 1 : Nat) : Int) = (j : Int) + 1 from rfl] at HI2T
        have HR6 : Hid (RBj w l (j + 1) 0 0 q f (w5.setCell ⟨w.heap.size, 1, none⟩ (.int .i64 ((j : Int) + 1)))) := Lib.hid (HR5.out.to (j + 1))
        clear t1 t2 u1 u2 u3 hat
        go_wp2_with fail
        refine (HI2T.out _).mono ?_
        rintro e w7 ⟨m, e2, bad2, nx, gx, rfl, hb, hr⟩
        have HR7 := Lib.hid (HR6.out.go hb)
        clear hb HR6 HR5 c0 c1 c2 c3 f0 f1 f2 f3 r0 r1 r2 r3 g0 g1 g2 g3 n0 n1 n2 n3 n4 n5 m0 m1 m2 m3 m4 m5
        obtain ⟨⟨c0, c1, c2, c3⟩, f0, f1, f2, f3⟩ := HR7.out.rn.ri.cs
        obtain ⟨⟨ra, rb, rc, rd, r0, r1, r2, r3⟩, g0, g1, g2, g3⟩ := HR7.out.rn.ri.rs
        obtain ⟨⟨na, nb, nc, nd, ne, nf, n0, n1, n2, n3, n4, n5⟩, m0, m1, m2, m3, m4, m5⟩ := HR7.out.rn.ns
        have HP9 := Lib.hid (HR7.out.put (m) (e2) (bad2))
        go_upto_region 18 with fail
        obtain ⟨w8, hw0⟩ : ∃ w8, ((((w7.setCell ⟨w.heap.size, 0, none⟩ (.string ⟨l.toArray⟩)).setCell ⟨w.heap.size, 1, none⟩ (.int .i64 (m : Int))).setCell ⟨w.heap.size, 2, none⟩ (.int .i64 (e2 : Int))).setCell ⟨w.heap.size, 3, none⟩ (.int .i64 (bad2 : Int))) = w8 := ⟨_, rfl⟩
        have HR8 : Hid (RBj w l (m) (e2) (bad2) q f w8) := Lib.hid (by rw [← hw0]; exact HP9.out)
        rw [hw0]
        clear hw0 HP9 c0 c1 c2 c3 f0 f1 f2 f3 r0 r1 r2 r3 g0 g1 g2 g3 n0 n1 n2 n3 n4 n5 m0 m1 m2 m3 m4 m5 HR7
        obtain ⟨⟨c0, c1, c2, c3⟩, f0, f1, f2, f3⟩ := HR8.out.rn.ri.cs
        obtain ⟨⟨ra, rb, rc, rd, r0, r1, r2, r3⟩, g0, g1, g2, g3⟩ := HR8.out.rn.ri.rs
        obtain ⟨⟨na, nb, nc, nd, ne, nf, n0, n1, n2, n3, n4, n5⟩, m0, m1, m2, m3, m4, m5⟩ := HR8.out.rn.ns
        cases hq2 : itemM l false (j + 1) with
        | error kx =>
         obtain ⟨k', x⟩ := kx
         rw [hq2] at hr
         obtain ⟨⟨rfl, hx0, rfl⟩, hj⟩ := hr
         have HE := Lib.hid hx0
         have HR := Lib.hid (show M = .error (bad2, e2) by rw [← HM.out, HT1.out _ (HU1.out _ hq2)])
         have z1 : ((e2 : Int) == 0) = false := by rw [beq_eq_false_iff_ne]; omega
         have z2 : ((e2 : Int) != 0) = true := by simp; omega
         clear hq2 hx0
         go_wp2_with fail
         exact HR8.out.rn.ret0 (P := 2) (N := 3) rfl (by rfl) (by rfl) HR.out HE.out (j := m) hj
        | ok scj =>
         obtain ⟨⟨s2, cx, one2⟩, m'⟩ := scj
         rw [hq2] at hr
         obtain ⟨⟨rfl, rfl, rfl⟩, hd8, ht, hf⟩ := hr
         have hml := itemM_le hq2
         have hjm := itemM_lt hq2
         cases one2 with
         | false =>
          obtain ⟨rfl, rfl⟩ := hf rfl
          obtain ⟨hx1, hx2⟩ := HU3.out _ _ _ hq2
          have HR := Lib.hid (show M = .error (j + 1, 1) by rw [← HM.out, HT1.out _ hx1])
          have hwm : IntKind.i64.wrap ((m : Int) - 2) = ((j + 1 : Nat) : Int) := by rw [show (m : Int) - 2 = ((j + 1 : Nat) : Int) by omega]; exact IntWalk.i64_in _ (by omega)
          have hwm2 : IntKind.i64.wrap ((m : Int) - 2) = (j : Int) + 1 := hwm
          have HF := Lib.hid fun W => rfail_any l m 0 1 (j + 1) W
          rw [show ((j + 1 : Nat) : Int) = (j : Int) + 1 from rfl] at HF
          clear ht hf hq2 hx1 hwm hx2
          go_wp2_with fail
          refine (HF.out _).mono ?_
          rintro e w9 ⟨rfl, hb⟩
          have HR9 := Lib.hid (HR8.out.go hb)
          clear hb HR8 c0 c1 c2 c3 f0 f1 f2 f3 r0 r1 r2 r3 g0 g1 g2 g3 n0 n1 n2 n3 n4 n5 m0 m1 m2 m3 m4 m5
          obtain ⟨⟨c0, c1, c2, c3⟩, f0, f1, f2, f3⟩ := HR9.out.rn.ri.cs
          obtain ⟨⟨ra, rb, rc, rd, r0, r1, r2, r3⟩, g0, g1, g2, g3⟩ := HR9.out.rn.ri.rs
          obtain ⟨⟨na, nb, nc, nd, ne, nf, n0, n1, n2, n3, n4, n5⟩, m0, m1, m2, m3, m4, m5⟩ := HR9.out.rn.ns
          have HP9 := Lib.hid (HR9.out.put (m) (1) (j + 1))
          go_upto_region 20 with fail
          obtain ⟨w10, hw0⟩ : ∃ w10, ((((w9.setCell ⟨w.heap.size, 0, none⟩ (.string ⟨l.toArray⟩)).setCell ⟨w.heap.size, 1, none⟩ (.int .i64 (m : Int))).setCell ⟨w.heap.size, 2, none⟩ (.int .i64 1)).setCell ⟨w.heap.size, 3, none⟩ (.int .i64 ((j : Int) + 1))) = w10 := ⟨_, rfl⟩
          have HR10 : Hid (RBj w l (m) (1) (j + 1) q f w10) := Lib.hid (by rw [← hw0]; exact HP9.out)
          rw [hw0]
          clear hw0 HP9 c0 c1 c2 c3 f0 f1 f2 f3 r0 r1 r2 r3 g0 g1 g2 g3 n0 n1 n2 n3 n4 n5 m0 m1 m2 m3 m4 m5 HR9
          obtain ⟨⟨c0, c1, c2, c3⟩, f0, f1, f2, f3⟩ := HR10.out.rn.ri.cs
          obtain ⟨⟨ra, rb, rc, rd, r0, r1, r2, r3⟩, g0, g1, g2, g3⟩ := HR10.out.rn.ri.rs
          obtain ⟨⟨na, nb, nc, nd, ne, nf, n0, n1, n2, n3, n4, n5⟩, m0, m1, m2, m3, m4, m5⟩ := HR10.out.rn.ns
          go_wp2_with fail
          exact HR10.out.rn.ret0 (P := 2) (N := 3) rfl (by rfl) (by rfl) HR.out (by decide) (j := m) (by omega)
         | true =>
          obtain ⟨rfl, hs2⟩ := ht rfl
          obtain ⟨v1, v2⟩ := HT2.out _ _ _ _ (HU2.out _ _ _ hq2)
          have V1 := Lib.hid v1
          have V2 := Lib.hid v2
          have zc2 : decide ((cx : Int) < 0) = false := decide_eq_false (by omega)
          clear ht hf hq2 hs2 v1 v2
          by_cases hlo : cx < c
          ·have z2 : decide ((cx : Int) < (c : Int)) = true := decide_eq_true (by omega)
           have y2 : decide (cx < c) = true := decide_eq_true hlo
           have HR := Lib.hid (show M = .error (m, 2) by rw [← HM.out, V1.out hlo])
           have HF := Lib.hid fun W => rfail_any l m 0 2 m W
           clear hlo
           go_wp2_with fail
           refine (HF.out _).mono ?_
           rintro e w9 ⟨rfl, hb⟩
           have HR9 := Lib.hid (HR8.out.go hb)
           clear hb HR8 c0 c1 c2 c3 f0 f1 f2 f3 r0 r1 r2 r3 g0 g1 g2 g3 n0 n1 n2 n3 n4 n5 m0 m1 m2 m3 m4 m5
           obtain ⟨⟨c0, c1, c2, c3⟩, f0, f1, f2, f3⟩ := HR9.out.rn.ri.cs
           obtain ⟨⟨ra, rb, rc, rd, r0, r1, r2, r3⟩, g0, g1, g2, g3⟩ := HR9.out.rn.ri.rs
           obtain ⟨⟨na, nb, nc, nd, ne, nf, n0, n1, n2, n3, n4, n5⟩, m0, m1, m2, m3, m4, m5⟩ := HR9.out.rn.ns
           have HP9 := Lib.hid (HR9.out.put (m) (2) (m))
           go_upto_region 22 with fail
           obtain ⟨w10, hw0⟩ : ∃ w10, ((((w9.setCell ⟨w.heap.size, 0, none⟩ (.string ⟨l.toArray⟩)).setCell ⟨w.heap.size, 1, none⟩ (.int .i64 (m : Int))).setCell ⟨w.heap.size, 2, none⟩ (.int .i64 2)).setCell ⟨w.heap.size, 3, none⟩ (.int .i64 (m : Int))) = w10 := ⟨_, rfl⟩
           have HR10 : Hid (RBj w l (m) (2) (m) q f w10) := Lib.hid (by rw [← hw0]; exact HP9.out)
           rw [hw0]
           clear hw0 HP9 c0 c1 c2 c3 f0 f1 f2 f3 r0 r1 r2 r3 g0 g1 g2 g3 n0 n1 n2 n3 n4 n5 m0 m1 m2 m3 m4 m5 HR9
           obtain ⟨⟨c0, c1, c2, c3⟩, f0, f1, f2, f3⟩ := HR10.out.rn.ri.cs
           obtain ⟨⟨ra, rb, rc, rd, r0, r1, r2, r3⟩, g0, g1, g2, g3⟩ := HR10.out.rn.ri.rs
           obtain ⟨⟨na, nb, nc, nd, ne, nf, n0, n1, n2, n3, n4, n5⟩, m0, m1, m2, m3, m4, m5⟩ := HR10.out.rn.ns
           go_wp2_with fail
           exact HR10.out.rn.ret0 (P := 2) (N := 3) rfl (by rfl) (by rfl) HR.out (by decide) (j := m) (by omega)
          ·have z2 : decide ((cx : Int) < (c : Int)) = false := decide_eq_false (by omega)
           have y2 : decide (cx < c) = false := decide_eq_false hlo
           have HI2 := Lib.hid (V2.out hlo)
           clear hlo
           go_wp2_with (refine wpl_load_setQ rfl _ rfl _ rfl _ HR8.out.sb ?_)
           refine (rwith_any f c cx hc8 hd8 _).mono ?_
           rintro e w9 ⟨rfl, hb⟩
           obtain ⟨w10, e10, hr10⟩ := (HR8.out.go hb).st (fun d => f d || spanF c (cx + 1) d)
           have HR10 := Lib.hid hr10
           clear hb hr10 HR8 c0 c1 c2 c3 f0 f1 f2 f3 r0 r1 r2 r3 g0 g1 g2 g3 n0 n1 n2 n3 n4 n5 m0 m1 m2 m3 m4 m5
           go_wp2_with fail
           refine ⟨⟨false, m, _, rfl, hml, HI2, HR10⟩, ?_⟩
           rw [HR10.out.left, HLF.out]
           omega
       ·have z45 : ((d : Int) == 45) = false := by rw [beq_eq_false_iff_ne]; omega
        have HI2 := Lib.hid (HI.out.one hkl HGO.out HQ.out (fun h => h45 (HP45.out.2 h.2)))
        rw [HSE.out] at HI2
        clear h45
        go_wp2_with (refine wpl_load_setQ rfl _ rfl _ rfl _ HR5.out.sb ?_)
        refine (rwith_any f c c hc8 hc8 _).mono ?_
        rintro e w9 ⟨rfl, hb⟩
        obtain ⟨w10, e10, hr10⟩ := (HR5.out.go hb).st (fun d => f d || spanF c (c + 1) d)
        have HR10 := Lib.hid hr10
        clear hb hr10 HR5 c0 c1 c2 c3 f0 f1 f2 f3 r0 r1 r2 r3 g0 g1 g2 g3 n0 n1 n2 n3 n4 n5 m0 m1 m2 m3 m4 m5
        go_wp2_with fail
        refine ⟨⟨false, j, _, rfl, hjl, HI2, HR10⟩, ?_⟩
        rw [HR10.out.left, HLF.out]
        omega
   ·have HRF := Lib.hid (HI.out.stop hkl ((pk_eq (by decide) (by decide)).1 h93))
    have hklt : k < l.length := Asc.at_lt (by rw [(pk_eq (by decide) (by decide)).1 h93]; decide)
    have HLE : Hid (k + 1 ≤ l.length) := Lib.hid hklt
    have hwk : IntKind.i64.wrap ((k : Int) + 1) = (k : Int) + 1 := IntWalk.i64_in _ (by omega)
    have HQL : Hid (q ≠ w.heap.size + 1 + 1 ∧ q ≠ w.heap.size + 1) := Lib.hid (by have := HRB.out.hq; omega)
    obtain ⟨⟨c0, c1, c2, c3⟩, f0, f1, f2, f3⟩ := HRB.out.rn.ri.cs
    obtain ⟨⟨ra, rb, rc, rd, r0, r1, r2, r3⟩, g0, g1, g2, g3⟩ := HRB.out.rn.ri.rs
    obtain ⟨⟨na, nb, nc, nd, ne, nf, n0, n1, n2, n3, n4, n5⟩, m0, m1, m2, m3, m4, m5⟩ := HRB.out.rn.ns
    go_wp2_with fail
    refine (HPK.out k _).mono ?_
    rintro e w2 ⟨rfl, hb⟩
    have HR2 := Lib.hid (HRB.out.go hb)
    clear hb HRB c0 c1 c2 c3 f0 f1 f2 f3 r0 r1 r2 r3 g0 g1 g2 g3 n0 n1 n2 n3 n4 n5 m0 m1 m2 m3 m4 m5
    rw [h93]
    have HR3 : Hid (RBj w l (k + 1) 0 0 q f (w2.setCell ⟨w.heap.size, 1, none⟩ (.int .i64 ((k : Int) + 1)))) := Lib.hid (HR2.out.to (k + 1))
    obtain ⟨⟨c0, c1, c2, c3⟩, f0, f1, f2, f3⟩ := HR2.out.rn.ri.cs
    obtain ⟨⟨ra, rb, rc, rd, r0, r1, r2, r3⟩, g0, g1, g2, g3⟩ := HR2.out.rn.ri.rs
    obtain ⟨⟨na, nb, nc, nd, ne, nf, n0, n1, n2, n3, n4, n5⟩, m0, m1, m2, m3, m4, m5⟩ := HR2.out.rn.ns
    go_upto_if 98 with fail
    obtain ⟨w3, hw3⟩ : ∃ w3, w2.setCell ⟨w.heap.size, 1, none⟩ (.int .i64 ((k : Int) + 1)) = w3 := ⟨_, rfl⟩
    rw [hw3] at HR3 ⊢
    clear hw3 HR2 c0 c1 c2 c3 f0 f1 f2 f3 r0 r1 r2 r3 g0 g1 g2 g3 n0 n1 n2 n3 n4 n5 m0 m1 m2 m3 m4 m5
    cases neg with
    | false =>
     have HN7 := Lib.hid HR3.out.rn
     have HQ7 := Lib.hid HR3.out.sb
     have HR := Lib.hid (show M = .ok (clsT f, k + 1) by rw [← HM.out, HRF.out]; simp only [if_neg (HNB.out.2 rfl)])
     go_wp2_with fail
     refine wp_region_slotsB (by rfl) (by kernel_rfl) (by kernel_rfl) 112 [] [(1, .pointer (some ⟨w.heap.size, 0, none⟩)), (2, .pointer (some ⟨w.heap.size + 1, 0, none⟩)), (3, .pointer (some ⟨w.heap.size + 1 + 1, 0, none⟩)), (5, .pointer (some ⟨q, 0, none⟩))] (by kernel_rfl) (fun W => RN w l (k + 1) 0 0 W ∧ SbQ q (f) W) (RvN w l (k + 1) (clsT f)) (GvN w l (k + 1) (.agg (setA f)) (clsT f)) (GvN.keep w l (k + 1) (.agg (setA f)) (clsT f)) ?_ ?_ ⟨rfl, rfl, fun s v hs => ?_, HN7.out.go (Below.refl _ _).drew, HQ7.out.on (Below.refl _ _).drew HQ7.out.lt⟩
     case refine_1 =>
      intro k o ho ac W hB hd K hK
      have hk5 : k < 5 := (Array.getElem?_eq_some_iff.1 ho).1
      have hs1 : ac.tmps.getD 1 undef = .pointer (some ⟨w.heap.size, 0, none⟩) := hB.fixed 1 _ (by simp)
      have hs2 : ac.tmps.getD 2 undef = .pointer (some ⟨w.heap.size + 1, 0, none⟩) := hB.fixed 2 _ (by simp)
      have hs3 : ac.tmps.getD 3 undef = .pointer (some ⟨w.heap.size + 1 + 1, 0, none⟩) := hB.fixed 3 _ (by simp)
      have hs5 : ac.tmps.getD 5 undef = .pointer (some ⟨q, 0, none⟩) := hB.fixed 5 _ (by simp)
      obtain ⟨hi, hq⟩ := hB.inv
      have HIW := Lib.hid hi
      have HQW := Lib.hid hq
      have HKK := Lib.hid hK
      obtain ⟨⟨c0, c1, c2, c3⟩, f0, f1, f2, f3⟩ := HIW.out.ri.cs
      obtain ⟨⟨ra, rb, rc, rd, r0, r1, r2, r3⟩, g0, g1, g2, g3⟩ := HIW.out.ri.rs
      obtain ⟨⟨na, nb, nc, nd, ne, nf, n0, n1, n2, n3, n4, n5⟩, m0, m1, m2, m3, m4, m5⟩ := HIW.out.ns
      clear hK hB hi hq
      rcases (show k = 0 ∨ k = 1 ∨ k = 2 ∨ k = 3 ∨ k = 4 by omega) with rfl | rfl | rfl | rfl | rfl
      ·obtain rfl := Option.some.inj ho
       go_simp
       exact HKK.out _ _ (RvN.refl _ _ _ _ _) ⟨HIW.out, HQW.out⟩ rfl
      ·obtain rfl := Option.some.inj ho
       refine wp_load_setQ _ rfl q ((show ac.eval (Operand.tmp 5) = ac.tmps.getD 5 undef from rfl).trans hs5) _ _ HQW.out ?_
       exact HKK.out _ _ (RvN.refl _ _ _ _ _) ⟨HIW.out, HQW.out⟩ rfl
      ·obtain rfl := Option.some.inj ho
       have hd1 : ac.tmps.getD 110 undef = .agg (setA f) := hd ⟨1, .data⟩ (by simp) rfl
       go_simp
       refine (rclass_any _ W).mono ?_
       rintro e W3 ⟨v3, rfl, hT3, hb3⟩
       have S1 := Lib.hid (HIW.out.go hb3)
       have S2 := Lib.hid (HQW.out.on hb3 HQW.out.lt)
       have hz3 := HIW.out.sz
       have S3 := Lib.hid (RvN.on (t := clsT f) HIW.out hb3)
       have S4 := Lib.hid (NG.go (F' := fun k => w.heap.size + 1 + 1 < k) (w' := W3) ⟨Nat.le_refl _, fun k hk _ => ⟨Nat.lt_of_lt_of_le hz3 hk, rfl⟩⟩ _ _ hT3)
       obtain ⟨op3, rs3, nm3, kk3, mn3, mx3, ra3, rc3, a3, cc3, ht3, rfl, _⟩ := hT3.open
       exact HKK.out _ _ S3.out ⟨S1.out, S2.out⟩ ⟨⟨_, _, _, _, _, _, _, _, _, _, rfl⟩, S4.out⟩
      ·obtain rfl := Option.some.inj ho
       have hd0 : ac.tmps.getD 109 undef = .agg #[.string ⟨l.toArray⟩, .int .i64 ((k + 1 : Nat) : Int), .int .i64 0, .int .i64 0] := hd ⟨0, .data⟩ (by simp) rfl
       obtain ⟨s1, s2, s3⟩ := HIW.out.stp (t := clsT f)
       have S1 := Lib.hid s1
       have S2 := Lib.hid s2
       have S3 := Lib.hid s3
       have S4 := Lib.hid ((stR_keep w W (.string ⟨l.toArray⟩) (.int .i64 ((k + 1 : Nat) : Int)) (.int .i64 0) (.int .i64 0) (k := q) HQL.out.2).trans HQW.out)
       clear s1 s2 s3
       go_simp
       exact HKK.out undef _ S2.out ⟨S1.out, S4.out⟩ S3.out
      ·obtain rfl := Option.some.inj ho
       obtain ⟨⟨op4, ra4, rn4, rc4, nm4, a4, nn4, cc4, mn4, mx4, hd2⟩, hT3⟩ : NdV w (clsT f) W (ac.tmps.getD 111 undef) := hd ⟨2, .data⟩ (by simp) rfl
       rw [hd2] at hT3
       obtain ⟨s1, s2, s3⟩ := HIW.out.stn hT3
       have S1 := Lib.hid s1
       have S2 := Lib.hid s2
       have S3 := Lib.hid s3
       have S4 := Lib.hid ((stN_keep w W (.int .i64 op4) (.slice ra4 rn4 rc4) (.string ⟨nm4.toArray⟩) (.slice a4 nn4 cc4) (.int .i64 mn4) (.int .i64 mx4) (k := q) HQL.out.1).trans HQW.out)
       clear s1 s2 s3 hT3
       go_simp
       exact HKK.out undef _ S2.out ⟨S1.out, S4.out⟩ S3.out
     case refine_2 =>
      intro ac W hB hG
      have h2 : PAt w l (k + 1) 0 0 W := hG 3 (by decide)
      have h4 : NdA w (clsT f) W := hG 4 (by decide)
      have hs2 : ac.tmps.getD 2 undef = .pointer (some ⟨w.heap.size + 1, 0, none⟩) := hB.fixed 2 _ (by simp)
      have hs3 : ac.tmps.getD 3 undef = .pointer (some ⟨w.heap.size + 1 + 1, 0, none⟩) := hB.fixed 3 _ (by simp)
      have hbw := hB.inv.1.ri.bl
      have hdf := hB.defers
      obtain ⟨tm, df⟩ := ac
      obtain rfl : df = [] := hdf
      have HR := Lib.hid (RN.end h2 h4 hbw (HLE.out) (fn := Tryz.f135) (tmps := tm) rfl hs2 hs3 (HR.out))
      clear hB hG h2 h4 hs2 hs3
      go_wp2_with fail
      exact HR.out
     case refine_3 =>
      simp only [List.mem_cons, Prod.mk.injEq, List.not_mem_nil, or_false] at hs
      rcases hs with ⟨rfl, rfl⟩ | ⟨rfl, rfl⟩ | ⟨rfl, rfl⟩ | ⟨rfl, rfl⟩ <;> rfl
    | true =>
     have HR := Lib.hid (show M = .ok (clsT (fun c => !f c), k + 1) by rw [← HM.out, HRF.out]; simp only [if_pos (HNB.out.1 rfl)])
     have HR4 : Hid (RBj w l (k + 1) 0 0 q (mixF (fun c => !f c) f 0) w3) := Lib.hid (HR3.out.eq (mixF_none _ _).symm)
     clear HR3
     go_wp2_with fail
     go_loopw [10] (fun v wx => ∃ m : Nat, v = .int .i64 m ∧ m ≤ 256 ∧ Hid (RBj w l (k + 1) 0 0 q (mixF (fun c => !f c) f m) wx)) (fun v _ => 256 - (intOf v).toNat)
     case atStart => exact ⟨0, rfl, by omega, HR4⟩
     case round =>
      clear HR4
      obtain ⟨m, rfl, hm2, HX⟩ := hrel
      by_cases hgo : m < 256
      ·have x1 : decide ((m : Int) < 256) = true := decide_eq_true (by omega)
       have y1 : decide (m < 256) = true := decide_eq_true hgo
       have x2 : (m : Int) < 256 := by omega
       have x3 : (0 : Int) ≤ (m : Int) := by omega
       have hw2 : IntKind.i64.wrap ((m : Int) + 1) = (m : Int) + 1 := IntWalk.i64_in _ (by omega)
       have hcc : wr.cell? ⟨q, m, none⟩ = some (.bool (f m)) := by
        rw [HX.out.sb.cell hgo]
        simp [mixF]
       have hff := HX.out.sb.fz m
       have HX2 := Lib.hid ((HX.out.set m (!f m)).eq (mixF_succ (fun c => !f c) f m))
       go_wp2_with fail
       refine ⟨⟨m + 1, by go_num, by omega, HX2⟩, by simp [intOf]; omega⟩
      ·have x1 : decide ((m : Int) < 256) = false := decide_eq_false (by omega)
       have y1 : decide (m < 256) = false := decide_eq_false hgo
       obtain rfl : m = 256 := by omega
       have HX2 := Lib.hid (HX.out.eq (mixF_all (fun c => !f c) f))
       have HN7 := Lib.hid HX2.out.rn
       have HQ7 := Lib.hid HX2.out.sb
       clear HX
       go_wp2_with fail
       refine wp_region_slotsB (by rfl) (by kernel_rfl) (by kernel_rfl) 112 [] [(1, .pointer (some ⟨w.heap.size, 0, none⟩)), (2, .pointer (some ⟨w.heap.size + 1, 0, none⟩)), (3, .pointer (some ⟨w.heap.size + 1 + 1, 0, none⟩)), (5, .pointer (some ⟨q, 0, none⟩))] (by kernel_rfl) (fun W => RN w l (k + 1) 0 0 W ∧ SbQ q (fun c => !f c) W) (RvN w l (k + 1) (clsT (fun c => !f c))) (GvN w l (k + 1) (.agg (setA (fun c => !f c))) (clsT (fun c => !f c))) (GvN.keep w l (k + 1) (.agg (setA (fun c => !f c))) (clsT (fun c => !f c))) ?_ ?_ ⟨rfl, rfl, fun s v hs => ?_, HN7.out.go (Below.refl _ _).drew, HQ7.out.on (Below.refl _ _).drew HQ7.out.lt⟩
       case refine_1 =>
        intro k o ho ac W hB hd K hK
        have hk5 : k < 5 := (Array.getElem?_eq_some_iff.1 ho).1
        have hs1 : ac.tmps.getD 1 undef = .pointer (some ⟨w.heap.size, 0, none⟩) := hB.fixed 1 _ (by simp)
        have hs2 : ac.tmps.getD 2 undef = .pointer (some ⟨w.heap.size + 1, 0, none⟩) := hB.fixed 2 _ (by simp)
        have hs3 : ac.tmps.getD 3 undef = .pointer (some ⟨w.heap.size + 1 + 1, 0, none⟩) := hB.fixed 3 _ (by simp)
        have hs5 : ac.tmps.getD 5 undef = .pointer (some ⟨q, 0, none⟩) := hB.fixed 5 _ (by simp)
        obtain ⟨hi, hq⟩ := hB.inv
        have HIW := Lib.hid hi
        have HQW := Lib.hid hq
        have HKK := Lib.hid hK
        obtain ⟨⟨c0, c1, c2, c3⟩, f0, f1, f2, f3⟩ := HIW.out.ri.cs
        obtain ⟨⟨ra, rb, rc, rd, r0, r1, r2, r3⟩, g0, g1, g2, g3⟩ := HIW.out.ri.rs
        obtain ⟨⟨na, nb, nc, nd, ne, nf, n0, n1, n2, n3, n4, n5⟩, m0, m1, m2, m3, m4, m5⟩ := HIW.out.ns
        clear hK hB hi hq
        rcases (show k = 0 ∨ k = 1 ∨ k = 2 ∨ k = 3 ∨ k = 4 by omega) with rfl | rfl | rfl | rfl | rfl
        ·obtain rfl := Option.some.inj ho
         go_simp
         exact HKK.out _ _ (RvN.refl _ _ _ _ _) ⟨HIW.out, HQW.out⟩ rfl
        ·obtain rfl := Option.some.inj ho
         refine wp_load_setQ _ rfl q ((show ac.eval (Operand.tmp 5) = ac.tmps.getD 5 undef from rfl).trans hs5) _ _ HQW.out ?_
         exact HKK.out _ _ (RvN.refl _ _ _ _ _) ⟨HIW.out, HQW.out⟩ rfl
        ·obtain rfl := Option.some.inj ho
         have hd1 : ac.tmps.getD 110 undef = .agg (setA (fun c => !f c)) := hd ⟨1, .data⟩ (by simp) rfl
         go_simp
         refine (rclass_any _ W).mono ?_
         rintro e W3 ⟨v3, rfl, hT3, hb3⟩
         have S1 := Lib.hid (HIW.out.go hb3)
         have S2 := Lib.hid (HQW.out.on hb3 HQW.out.lt)
         have hz3 := HIW.out.sz
         have S3 := Lib.hid (RvN.on (t := clsT (fun c => !f c)) HIW.out hb3)
         have S4 := Lib.hid (NG.go (F' := fun k => w.heap.size + 1 + 1 < k) (w' := W3) ⟨Nat.le_refl _, fun k hk _ => ⟨Nat.lt_of_lt_of_le hz3 hk, rfl⟩⟩ _ _ hT3)
         obtain ⟨op3, rs3, nm3, kk3, mn3, mx3, ra3, rc3, a3, cc3, ht3, rfl, _⟩ := hT3.open
         exact HKK.out _ _ S3.out ⟨S1.out, S2.out⟩ ⟨⟨_, _, _, _, _, _, _, _, _, _, rfl⟩, S4.out⟩
        ·obtain rfl := Option.some.inj ho
         have hd0 : ac.tmps.getD 109 undef = .agg #[.string ⟨l.toArray⟩, .int .i64 ((k + 1 : Nat) : Int), .int .i64 0, .int .i64 0] := hd ⟨0, .data⟩ (by simp) rfl
         obtain ⟨s1, s2, s3⟩ := HIW.out.stp (t := clsT (fun c => !f c))
         have S1 := Lib.hid s1
         have S2 := Lib.hid s2
         have S3 := Lib.hid s3
         have S4 := Lib.hid ((stR_keep w W (.string ⟨l.toArray⟩) (.int .i64 ((k + 1 : Nat) : Int)) (.int .i64 0) (.int .i64 0) (k := q) HQL.out.2).trans HQW.out)
         clear s1 s2 s3
         go_simp
         exact HKK.out undef _ S2.out ⟨S1.out, S4.out⟩ S3.out
        ·obtain rfl := Option.some.inj ho
         obtain ⟨⟨op4, ra4, rn4, rc4, nm4, a4, nn4, cc4, mn4, mx4, hd2⟩, hT3⟩ : NdV w (clsT (fun c => !f c)) W (ac.tmps.getD 111 undef) := hd ⟨2, .data⟩ (by simp) rfl
         rw [hd2] at hT3
         obtain ⟨s1, s2, s3⟩ := HIW.out.stn hT3
         have S1 := Lib.hid s1
         have S2 := Lib.hid s2
         have S3 := Lib.hid s3
         have S4 := Lib.hid ((stN_keep w W (.int .i64 op4) (.slice ra4 rn4 rc4) (.string ⟨nm4.toArray⟩) (.slice a4 nn4 cc4) (.int .i64 mn4) (.int .i64 mx4) (k := q) HQL.out.1).trans HQW.out)
         clear s1 s2 s3 hT3
         go_simp
         exact HKK.out undef _ S2.out ⟨S1.out, S4.out⟩ S3.out
       case refine_2 =>
        intro ac W hB hG
        have h2 : PAt w l (k + 1) 0 0 W := hG 3 (by decide)
        have h4 : NdA w (clsT (fun c => !f c)) W := hG 4 (by decide)
        have hs2 : ac.tmps.getD 2 undef = .pointer (some ⟨w.heap.size + 1, 0, none⟩) := hB.fixed 2 _ (by simp)
        have hs3 : ac.tmps.getD 3 undef = .pointer (some ⟨w.heap.size + 1 + 1, 0, none⟩) := hB.fixed 3 _ (by simp)
        have hbw := hB.inv.1.ri.bl
        have hdf := hB.defers
        obtain ⟨tm, df⟩ := ac
        obtain rfl : df = [] := hdf
        have HR := Lib.hid (RN.end h2 h4 hbw (HLE.out) (fn := Tryz.f135) (tmps := tm) rfl hs2 hs3 (HR.out))
        clear hB hG h2 h4 hs2 hs3
        go_wp2_with fail
        exact HR.out
       case refine_3 =>
        simp only [List.mem_cons, Prod.mk.injEq, List.not_mem_nil, or_false] at hs
        rcases hs with ⟨rfl, rfl⟩ | ⟨rfl, rfl⟩ | ⟨rfl, rfl⟩ | ⟨rfl, rfl⟩ <;> rfl
end Go.Proofs.YtgcpinnnfoanjaaGreatDoor

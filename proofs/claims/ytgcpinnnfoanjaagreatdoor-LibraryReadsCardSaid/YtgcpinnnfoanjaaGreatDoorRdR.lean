/-
 Joined: RpK, RpKb, RpL, RpM.
-/
import Derived.Test.YtgcpinnnfoanjaaGreatDoorRdQ
import Derived.Test.YtgcpinnnfoanjaaGreatDoorRdK
namespace Go.Proofs.YtgcpinnnfoanjaaGreatDoor
open Go.RowKit
def RdR (fn : Nat) (l : List UInt8) (k : Nat) (r : Out NT) : Prop := ∀ W, Calls Tryz.prog fn #[.agg #[.string ⟨l.toArray⟩, .int .i64 (k : Int), .int .i64 0, .int .i64 0]] W (RfP l r W)
theorem atomM_end {ch : Nat → Out NT} {l : List UInt8} {i : Nat} (h : l.length ≤ i) : atomM ch l i = .error (i, 1) := by
 unfold atomM
 rw [show Asc.at_ l i = 999 by unfold Asc.at_; rw [List.getElem?_eq_none h]]
 rfl
theorem NG.third {w W W' : World} {t : NT} {v : Value} (h : NG (fun k => W.heap.size ≤ k) W' t v) (hz : w.heap.size + 1 + 1 < W.heap.size) : NG (fun k => w.heap.size + 1 + 1 < k) W' t v := NG.go ⟨Nat.le_refl _, fun _ hk _ => ⟨Nat.lt_of_lt_of_le hz hk, rfl⟩⟩ _ _ h
set_option maxHeartbeats 16000000 in
set_option maxRecDepth 1000000 in
theorem ratom_end (l : List UInt8) (ch : Nat → Out NT) (i : Nat) (hl : l.length ≤ 1000) (hi : i ≤ l.length) (hend : l.length ≤ i) (w : World) : Calls Tryz.prog 114 #[.agg #[.string ⟨l.toArray⟩, .int .i64 (i : Int), .int .i64 0, .int .i64 0]] w (RfP l (atomM ch l i) w) := by
 obtain ⟨M, hM⟩ : ∃ M, atomM ch l i = M := ⟨_, rfl⟩
 have HR := Lib.hid (show M = .error (i, 1) from hM.symm.trans (atomM_end hend))
 rw [hM]
 clear hM
 have HN0 : Hid (RN w l i 0 0 (((w.alloc (.cells #[.string ⟨l.toArray⟩, .int .i64 (i : Int), .int .i64 0, .int .i64 0] 111)).alloc (.cells #[.string ⟨#[]⟩, .int .i64 0, .int .i64 0, .int .i64 0] 111)).alloc (.cells #[.int .i64 0, .slice none 0 0, .string ⟨#[]⟩, .slice none 0 0, .int .i64 0, .int .i64 0] 38))) := Lib.hid (RN.start w l i 0 0)
 have HPK := Lib.hid fun W => rpeek0 l i W
 have HF := Lib.hid fun W => rfail0 l i W
 have zz1 : decide ((l.length : Int) ≤ (i : Int)) = true := decide_eq_true (by omega)
 have yy1 : decide (l.length ≤ i) = true := decide_eq_true hend
 go_enter Tryz.func114, Tryz.ntmps114
 go_wp2_with fail
 refine (HPK.out _).mono ?_
 rintro e w1 ⟨rfl, hb⟩
 have HN1 := Lib.hid (HN0.out.go hb)
 clear hb HN0 HPK
 obtain ⟨⟨c0, c1, c2, c3⟩, f0, f1, f2, f3⟩ := HN1.out.ri.cs
 obtain ⟨⟨ra, rb, rc, rd, r0, r1, r2, r3⟩, g0, g1, g2, g3⟩ := HN1.out.ri.rs
 obtain ⟨⟨na, nb, nc, nd, ne, nf, n0, n1, n2, n3, n4, n5⟩, m0, m1, m2, m3, m4, m5⟩ := HN1.out.ns
 go_wp2_with fail
 refine (HF.out _).mono ?_
 rintro e w2 ⟨rfl, hb⟩
 have HN2 := Lib.hid (HN1.out.go hb)
 clear hb HN1 c0 c1 c2 c3 f0 f1 f2 f3 r0 r1 r2 r3 g0 g1 g2 g3 n0 n1 n2 n3 n4 n5 m0 m1 m2 m3 m4 m5
 obtain ⟨⟨c0, c1, c2, c3⟩, f0, f1, f2, f3⟩ := HN2.out.ri.cs
 obtain ⟨⟨ra, rb, rc, rd, r0, r1, r2, r3⟩, g0, g1, g2, g3⟩ := HN2.out.ri.rs
 obtain ⟨⟨na, nb, nc, nd, ne, nf, n0, n1, n2, n3, n4, n5⟩, m0, m1, m2, m3, m4, m5⟩ := HN2.out.ns
 go_wp2_with fail
 exact HN2.out.ret0 (P := 2) (N := 3) rfl (by rfl) (by rfl) HR.out (by decide) (j := i) (by omega)
set_option maxHeartbeats 16000000 in
set_option maxRecDepth 1000000 in
theorem ratom_bra (l : List UInt8) (ch : Nat → Out NT) (i : Nat) (hl : l.length ≤ 1000) (hi : i < l.length) (w : World) (hc : pk l i = 91) : Calls Tryz.prog 114 #[.agg #[.string ⟨l.toArray⟩, .int .i64 (i : Int), .int .i64 0, .int .i64 0]] w (RfP l (atomM ch l i) w) := by
 have hv := (zero_of_info infoQ).1
 simp only [← setA_false] at hv
 obtain ⟨M, hM⟩ : ∃ M, atomM ch l i = M := ⟨_, rfl⟩
 have HM := Lib.hid hM
 rw [hM]
 clear hM
 have HN0 : Hid (RN w l i 0 0 (((w.alloc (.cells #[.string ⟨l.toArray⟩, .int .i64 (i : Int), .int .i64 0, .int .i64 0] 111)).alloc (.cells #[.string ⟨#[]⟩, .int .i64 0, .int .i64 0, .int .i64 0] 111)).alloc (.cells #[.int .i64 0, .slice none 0 0, .string ⟨#[]⟩, .slice none 0 0, .int .i64 0, .int .i64 0] 38))) := Lib.hid (RN.start w l i 0 0)
 have HPK := Lib.hid fun W => rpeek0 l i W
 have hw1 : IntKind.i64.wrap ((i : Int) + 1) = (i : Int) + 1 := IntWalk.i64_in _ (by omega)
 have zz1 : decide ((l.length : Int) ≤ (i : Int)) = false := decide_eq_false (by omega)
 have yy1 : decide (l.length ≤ i) = false := decide_eq_false (by omega)
 have HAT := Lib.hid (pk_in hi).symm
 have HLE : Hid (i + 1 ≤ l.length) := Lib.hid hi
 rw [hc] at HAT HPK
 clear hc
 go_enter Tryz.func114, Tryz.ntmps114
 go_wp2_with fail
 refine (HPK.out _).mono ?_
 rintro e w1 ⟨rfl, hb⟩
 have HN1 := Lib.hid (HN0.out.go hb)
 clear hb HN0 HPK
 obtain ⟨⟨c0, c1, c2, c3⟩, f0, f1, f2, f3⟩ := HN1.out.ri.cs
 obtain ⟨⟨ra, rb, rc, rd, r0, r1, r2, r3⟩, g0, g1, g2, g3⟩ := HN1.out.ri.rs
 obtain ⟨⟨na, nb, nc, nd, ne, nf, n0, n1, n2, n3, n4, n5⟩, m0, m1, m2, m3, m4, m5⟩ := HN1.out.ns
 have HR := Lib.hid (show M = braM l (i + 1) by rw [← HM.out]; unfold atomM; rw [HAT.out]; rfl)
 have HN2 : Hid (RN w l (i + 1) 0 0 (w1.setCell ⟨w.heap.size, 1, none⟩ (.int .i64 ((i : Int) + 1)))) := Lib.hid (HN1.out.to (i + 1))
 have HB := Lib.hid fun W => rbracket_any l (i + 1) hl HLE.out W
 rw [show ((i + 1 : Nat) : Int) = (i : Int) + 1 from rfl] at HB
 clear HM
 go_wp2_with fail
 refine (HB.out _).mono ?_
 rintro e w3 ⟨j, e1, bad, t, v, rfl, hT, hb, hr⟩
 have HN3 := Lib.hid (HN2.out.go hb)
 have HT3 := Lib.hid (hT.third HN2.out.sz)
 have HRR := Lib.hid hr
 obtain ⟨op3, rs3, nm3, kk3, mn3, mx3, ra3, rc3, a3, cc3, ht3, rfl, _⟩ := hT.open
 clear hb hT hr ht3 HN1 HN2 c0 c1 c2 c3 f0 f1 f2 f3 r0 r1 r2 r3 g0 g1 g2 g3 n0 n1 n2 n3 n4 n5 m0 m1 m2 m3 m4 m5
 obtain ⟨⟨c0, c1, c2, c3⟩, f0, f1, f2, f3⟩ := HN3.out.ri.cs
 obtain ⟨⟨ra, rb, rc, rd, r0, r1, r2, r3⟩, g0, g1, g2, g3⟩ := HN3.out.ri.rs
 obtain ⟨⟨na, nb, nc, nd, ne, nf, n0, n1, n2, n3, n4, n5⟩, m0, m1, m2, m3, m4, m5⟩ := HN3.out.ns
 go_wp2_with fail
 rw [HR.out]
 exact HN3.out.ret (P := 2) (N := 3) rfl (by rfl) (by rfl) HT3.out HRR.out
set_option maxHeartbeats 16000000 in
set_option maxRecDepth 1000000 in
theorem ratom_esc (l : List UInt8) (ch : Nat → Out NT) (i : Nat) (hl : l.length ≤ 1000) (hi : i < l.length) (w : World) (hc : pk l i = 92) : Calls Tryz.prog 114 #[.agg #[.string ⟨l.toArray⟩, .int .i64 (i : Int), .int .i64 0, .int .i64 0]] w (RfP l (atomM ch l i) w) := by
 have hv := (zero_of_info infoQ).1
 simp only [← setA_false] at hv
 obtain ⟨M, hM⟩ : ∃ M, atomM ch l i = M := ⟨_, rfl⟩
 have HM := Lib.hid hM
 rw [hM]
 clear hM
 have HN0 : Hid (RN w l i 0 0 (((w.alloc (.cells #[.string ⟨l.toArray⟩, .int .i64 (i : Int), .int .i64 0, .int .i64 0] 111)).alloc (.cells #[.string ⟨#[]⟩, .int .i64 0, .int .i64 0, .int .i64 0] 111)).alloc (.cells #[.int .i64 0, .slice none 0 0, .string ⟨#[]⟩, .slice none 0 0, .int .i64 0, .int .i64 0] 38))) := Lib.hid (RN.start w l i 0 0)
 have HPK := Lib.hid fun W => rpeek0 l i W
 have hw1 : IntKind.i64.wrap ((i : Int) + 1) = (i : Int) + 1 := IntWalk.i64_in _ (by omega)
 have zz1 : decide ((l.length : Int) ≤ (i : Int)) = false := decide_eq_false (by omega)
 have yy1 : decide (l.length ≤ i) = false := decide_eq_false (by omega)
 have HAT := Lib.hid (pk_in hi).symm
 have HLE : Hid (i + 1 ≤ l.length) := Lib.hid hi
 rw [hc] at HAT HPK
 clear hc
 go_enter Tryz.func114, Tryz.ntmps114
 go_wp2_with fail
 refine (HPK.out _).mono ?_
 rintro e w1 ⟨rfl, hb⟩
 have HN1 := Lib.hid (HN0.out.go hb)
 clear hb HN0 HPK
 obtain ⟨⟨c0, c1, c2, c3⟩, f0, f1, f2, f3⟩ := HN1.out.ri.cs
 obtain ⟨⟨ra, rb, rc, rd, r0, r1, r2, r3⟩, g0, g1, g2, g3⟩ := HN1.out.ri.rs
 obtain ⟨⟨na, nb, nc, nd, ne, nf, n0, n1, n2, n3, n4, n5⟩, m0, m1, m2, m3, m4, m5⟩ := HN1.out.ns
 have HR := Lib.hid (show M = escN l (i + 1) by rw [← HM.out]; unfold atomM; rw [HAT.out]; rfl)
 have HN2 : Hid (RN w l (i + 1) 0 0 (w1.setCell ⟨w.heap.size, 1, none⟩ (.int .i64 ((i : Int) + 1)))) := Lib.hid (HN1.out.to (i + 1))
 have HB := Lib.hid fun W => rescape_any l (i + 1) hl HLE.out W
 rw [show ((i + 1 : Nat) : Int) = (i : Int) + 1 from rfl] at HB
 clear HM
 go_wp2_with fail
 refine (HB.out _).mono ?_
 rintro e w3 ⟨j, e1, bad, t, v, rfl, hT, hb, hr⟩
 have HN3 := Lib.hid (HN2.out.go hb)
 have HT3 := Lib.hid (hT.third HN2.out.sz)
 have HRR := Lib.hid hr
 obtain ⟨op3, rs3, nm3, kk3, mn3, mx3, ra3, rc3, a3, cc3, ht3, rfl, _⟩ := hT.open
 clear hb hT hr ht3 HN1 HN2 c0 c1 c2 c3 f0 f1 f2 f3 r0 r1 r2 r3 g0 g1 g2 g3 n0 n1 n2 n3 n4 n5 m0 m1 m2 m3 m4 m5
 obtain ⟨⟨c0, c1, c2, c3⟩, f0, f1, f2, f3⟩ := HN3.out.ri.cs
 obtain ⟨⟨ra, rb, rc, rd, r0, r1, r2, r3⟩, g0, g1, g2, g3⟩ := HN3.out.ri.rs
 obtain ⟨⟨na, nb, nc, nd, ne, nf, n0, n1, n2, n3, n4, n5⟩, m0, m1, m2, m3, m4, m5⟩ := HN3.out.ns
 go_wp2_with fail
 rw [HR.out]
 exact HN3.out.ret (P := 2) (N := 3) rfl (by rfl) (by rfl) HT3.out HRR.out
set_option maxHeartbeats 16000000 in
set_option maxRecDepth 1000000 in
theorem ratom_beg (l : List UInt8) (ch : Nat → Out NT) (i : Nat) (hl : l.length ≤ 1000) (hi : i < l.length) (w : World) (hc : pk l i = 94) : Calls Tryz.prog 114 #[.agg #[.string ⟨l.toArray⟩, .int .i64 (i : Int), .int .i64 0, .int .i64 0]] w (RfP l (atomM ch l i) w) := by
 have hv := (zero_of_info infoQ).1
 simp only [← setA_false] at hv
 obtain ⟨M, hM⟩ : ∃ M, atomM ch l i = M := ⟨_, rfl⟩
 have HM := Lib.hid hM
 rw [hM]
 clear hM
 have HN0 : Hid (RN w l i 0 0 (((w.alloc (.cells #[.string ⟨l.toArray⟩, .int .i64 (i : Int), .int .i64 0, .int .i64 0] 111)).alloc (.cells #[.string ⟨#[]⟩, .int .i64 0, .int .i64 0, .int .i64 0] 111)).alloc (.cells #[.int .i64 0, .slice none 0 0, .string ⟨#[]⟩, .slice none 0 0, .int .i64 0, .int .i64 0] 38))) := Lib.hid (RN.start w l i 0 0)
 have HPK := Lib.hid fun W => rpeek0 l i W
 have hw1 : IntKind.i64.wrap ((i : Int) + 1) = (i : Int) + 1 := IntWalk.i64_in _ (by omega)
 have zz1 : decide ((l.length : Int) ≤ (i : Int)) = false := decide_eq_false (by omega)
 have yy1 : decide (l.length ≤ i) = false := decide_eq_false (by omega)
 have HAT := Lib.hid (pk_in hi).symm
 have HLE : Hid (i + 1 ≤ l.length) := Lib.hid hi
 rw [hc] at HAT HPK
 clear hc
 go_enter Tryz.func114, Tryz.ntmps114
 go_wp2_with fail
 refine (HPK.out _).mono ?_
 rintro e w1 ⟨rfl, hb⟩
 have HN1 := Lib.hid (HN0.out.go hb)
 clear hb HN0 HPK
 obtain ⟨⟨c0, c1, c2, c3⟩, f0, f1, f2, f3⟩ := HN1.out.ri.cs
 obtain ⟨⟨ra, rb, rc, rd, r0, r1, r2, r3⟩, g0, g1, g2, g3⟩ := HN1.out.ri.rs
 obtain ⟨⟨na, nb, nc, nd, ne, nf, n0, n1, n2, n3, n4, n5⟩, m0, m1, m2, m3, m4, m5⟩ := HN1.out.ns
 have HR := Lib.hid (show M = .ok (.node 6 [] [] [] 0 0, i + 1) by rw [← HM.out]; unfold atomM; rw [HAT.out]; rfl)
 have HN2 : Hid (RN w l (i + 1) 0 0 (w1.setCell ⟨w.heap.size, 1, none⟩ (.int .i64 ((i : Int) + 1)))) := Lib.hid (HN1.out.to (i + 1))
 clear HM
 go_wp2_with fail
 rw [HR.out]
 exact HN2.out.ret (P := 2) (N := 3) rfl (by rfl) (by rfl) (NG.node (rs := []) (kids := []) RW.nil RW.nil 6 [] 0 0 (by simp)) ⟨⟨rfl, rfl, rfl⟩, rfl, HLE.out⟩
set_option maxHeartbeats 16000000 in
set_option maxRecDepth 1000000 in
theorem ratom_fin (l : List UInt8) (ch : Nat → Out NT) (i : Nat) (hl : l.length ≤ 1000) (hi : i < l.length) (w : World) (hc : pk l i = 36) : Calls Tryz.prog 114 #[.agg #[.string ⟨l.toArray⟩, .int .i64 (i : Int), .int .i64 0, .int .i64 0]] w (RfP l (atomM ch l i) w) := by
 have hv := (zero_of_info infoQ).1
 simp only [← setA_false] at hv
 obtain ⟨M, hM⟩ : ∃ M, atomM ch l i = M := ⟨_, rfl⟩
 have HM := Lib.hid hM
 rw [hM]
 clear hM
 have HN0 : Hid (RN w l i 0 0 (((w.alloc (.cells #[.string ⟨l.toArray⟩, .int .i64 (i : Int), .int .i64 0, .int .i64 0] 111)).alloc (.cells #[.string ⟨#[]⟩, .int .i64 0, .int .i64 0, .int .i64 0] 111)).alloc (.cells #[.int .i64 0, .slice none 0 0, .string ⟨#[]⟩, .slice none 0 0, .int .i64 0, .int .i64 0] 38))) := Lib.hid (RN.start w l i 0 0)
 have HPK := Lib.hid fun W => rpeek0 l i W
 have hw1 : IntKind.i64.wrap ((i : Int) + 1) = (i : Int) + 1 := IntWalk.i64_in _ (by omega)
 have zz1 : decide ((l.length : Int) ≤ (i : Int)) = false := decide_eq_false (by omega)
 have yy1 : decide (l.length ≤ i) = false := decide_eq_false (by omega)
 have HAT := Lib.hid (pk_in hi).symm
 have HLE : Hid (i + 1 ≤ l.length) := Lib.hid hi
 rw [hc] at HAT HPK
 clear hc
 go_enter Tryz.func114, Tryz.ntmps114
 go_wp2_with fail
 refine (HPK.out _).mono ?_
 rintro e w1 ⟨rfl, hb⟩
 have HN1 := Lib.hid (HN0.out.go hb)
 clear hb HN0 HPK
 obtain ⟨⟨c0, c1, c2, c3⟩, f0, f1, f2, f3⟩ := HN1.out.ri.cs
 obtain ⟨⟨ra, rb, rc, rd, r0, r1, r2, r3⟩, g0, g1, g2, g3⟩ := HN1.out.ri.rs
 obtain ⟨⟨na, nb, nc, nd, ne, nf, n0, n1, n2, n3, n4, n5⟩, m0, m1, m2, m3, m4, m5⟩ := HN1.out.ns
 have HR := Lib.hid (show M = .ok (.node 7 [] [] [] 0 0, i + 1) by rw [← HM.out]; unfold atomM; rw [HAT.out]; rfl)
 have HN2 : Hid (RN w l (i + 1) 0 0 (w1.setCell ⟨w.heap.size, 1, none⟩ (.int .i64 ((i : Int) + 1)))) := Lib.hid (HN1.out.to (i + 1))
 clear HM
 go_wp2_with fail
 rw [HR.out]
 exact HN2.out.ret (P := 2) (N := 3) rfl (by rfl) (by rfl) (NG.node (rs := []) (kids := []) RW.nil RW.nil 7 [] 0 0 (by simp)) ⟨⟨rfl, rfl, rfl⟩, rfl, HLE.out⟩
theorem dot_set : setA (fun j => if j = 10 then false else ((fun _ => false) j || spanF 0 (255 + 1) j)) = setA (fun c => !spanF 10 11 c) := setA_congr fun i h => by
 unfold spanF
 by_cases e : i = 10
 ·subst e
  rfl
 ·rw [if_neg e]
  rw [Bool.eq_iff_iff]
  simp
  omega
set_option maxHeartbeats 16000000 in
set_option maxRecDepth 1000000 in
theorem ratom_dot (l : List UInt8) (ch : Nat → Out NT) (i : Nat) (hl : l.length ≤ 1000) (hi : i < l.length) (w : World) (hc : pk l i = 46) : Calls Tryz.prog 114 #[.agg #[.string ⟨l.toArray⟩, .int .i64 (i : Int), .int .i64 0, .int .i64 0]] w (RfP l (atomM ch l i) w) := by
 have hv := (zero_of_info infoQ).1
 simp only [← setA_false] at hv
 obtain ⟨M, hM⟩ : ∃ M, atomM ch l i = M := ⟨_, rfl⟩
 have HM := Lib.hid hM
 rw [hM]
 clear hM
 have HN0 : Hid (RN w l i 0 0 (((w.alloc (.cells #[.string ⟨l.toArray⟩, .int .i64 (i : Int), .int .i64 0, .int .i64 0] 111)).alloc (.cells #[.string ⟨#[]⟩, .int .i64 0, .int .i64 0, .int .i64 0] 111)).alloc (.cells #[.int .i64 0, .slice none 0 0, .string ⟨#[]⟩, .slice none 0 0, .int .i64 0, .int .i64 0] 38))) := Lib.hid (RN.start w l i 0 0)
 have HPK := Lib.hid fun W => rpeek0 l i W
 have hw1 : IntKind.i64.wrap ((i : Int) + 1) = (i : Int) + 1 := IntWalk.i64_in _ (by omega)
 have zz1 : decide ((l.length : Int) ≤ (i : Int)) = false := decide_eq_false (by omega)
 have yy1 : decide (l.length ≤ i) = false := decide_eq_false (by omega)
 have HAT := Lib.hid (pk_in hi).symm
 have HLE : Hid (i + 1 ≤ l.length) := Lib.hid hi
 rw [hc] at HAT HPK
 clear hc
 go_enter Tryz.func114, Tryz.ntmps114
 go_wp2_with fail
 refine (HPK.out _).mono ?_
 rintro e w1 ⟨rfl, hb⟩
 have HN1 := Lib.hid (HN0.out.go hb)
 clear hb HN0 HPK
 obtain ⟨⟨c0, c1, c2, c3⟩, f0, f1, f2, f3⟩ := HN1.out.ri.cs
 obtain ⟨⟨ra, rb, rc, rd, r0, r1, r2, r3⟩, g0, g1, g2, g3⟩ := HN1.out.ri.rs
 obtain ⟨⟨na, nb, nc, nd, ne, nf, n0, n1, n2, n3, n4, n5⟩, m0, m1, m2, m3, m4, m5⟩ := HN1.out.ns
 have HR := Lib.hid (show M = .ok (clsT (fun c => !spanF 10 11 c), i + 1) by rw [← HM.out]; unfold atomM; rw [HAT.out]; rfl)
 have HN2 : Hid (RN w l (i + 1) 0 0 (w1.setCell ⟨w.heap.size, 1, none⟩ (.int .i64 ((i : Int) + 1)))) := Lib.hid (HN1.out.to (i + 1))
 have HWI := Lib.hid fun W => rwith_any (fun _ => false) 0 255 (by decide) (by decide) W
 have HDS := Lib.hid dot_set
 obtain ⟨G, hG⟩ : ∃ G : Nat → Bool, (fun c => (fun _ => false) c || spanF 0 (255 + 1) c) = G := ⟨_, rfl⟩
 rw [show (setA (fun j => if j = 10 then false else ((fun _ => false) j || spanF 0 (255 + 1) j))) = setA (fun j => if j = 10 then false else G j) by rw [← hG]] at HDS
 rw [hG] at HWI
 clear hG
 clear HM
 go_wp2_with fail
 refine (HWI.out _).mono ?_
 rintro e w3 ⟨rfl, hb⟩
 have HN3 := Lib.hid (HN2.out.go hb)
 clear hb HN1 HN2 HWI c0 c1 c2 c3 f0 f1 f2 f3 r0 r1 r2 r3 g0 g1 g2 g3 n0 n1 n2 n3 n4 n5 m0 m1 m2 m3 m4 m5
 have HQ0 := Lib.hid (SbQ.new w3 (fun _ => false))
 have HN4 := Lib.hid (HN3.out.go (al_below w3 (.cells (setA (fun _ => false)) 167)))
 have hqb := HN3.out.sz
 have HQL : Hid (w3.heap.size ≠ w.heap.size + 1 + 1 ∧ w3.heap.size ≠ w.heap.size + 1) := Lib.hid (by omega)
 obtain ⟨w5, e5, h5, hb5, e5'⟩ := put_set2 HQ0.out G
 have HN5 := Lib.hid (HN4.out.on hb5 hqb)
 have HQ5 : Hid (SbQ w3.heap.size G w5) := Lib.hid h5
 have q10 := HQ5.out.cell (i := 10) (by decide)
 have qf := HQ5.out.fz 10
 have HN7 := Lib.hid (HN5.out.on ((Below.refl w3.heap.size w5).setCell (p := ⟨w3.heap.size, 10, none⟩) (Nat.le_refl _) (.bool false)) hqb)
 have HQ7 := Lib.hid ((HQ5.out.set 10 false).eq HDS.out)
 clear h5 hb5 HN3 HN4 HQ0
 go_wp2_with fail
 clear e5 e5' HN5 HQ5 q10 qf
 obtain ⟨w7, hw7⟩ : ∃ w7, w5.setCell ⟨w3.heap.size, 10, none⟩ (.bool false) = w7 := ⟨_, rfl⟩
 rw [hw7] at HN7 HQ7 ⊢
 clear hw7
 refine wp_region_slotsB (by rfl) (by kernel_rfl) (by kernel_rfl) 150 [] [(1, .pointer (some ⟨w.heap.size, 0, none⟩)), (2, .pointer (some ⟨w.heap.size + 1, 0, none⟩)), (3, .pointer (some ⟨w.heap.size + 1 + 1, 0, none⟩)), (8, .pointer (some ⟨w3.heap.size, 0, none⟩))] (by kernel_rfl) (fun W => RN w l (i + 1) 0 0 W ∧ SbQ w3.heap.size (fun c => !spanF 10 11 c) W) (RvN w l (i + 1) (clsT (fun c => !spanF 10 11 c))) (GvN w l (i + 1) (.agg (setA (fun c => !spanF 10 11 c))) (clsT (fun c => !spanF 10 11 c))) (GvN.keep w l (i + 1) (.agg (setA (fun c => !spanF 10 11 c))) (clsT (fun c => !spanF 10 11 c))) ?_ ?_ ⟨rfl, rfl, fun s v hs => ?_, HN7.out.go (Below.refl _ _).drew, HQ7.out.on (Below.refl _ _).drew HQ7.out.lt⟩
 case refine_1 =>
  intro k o ho ac W hB hd K hK
  have hk5 : k < 5 := (Array.getElem?_eq_some_iff.1 ho).1
  have hs1 : ac.tmps.getD 1 undef = .pointer (some ⟨w.heap.size, 0, none⟩) := hB.fixed 1 _ (by simp)
  have hs2 : ac.tmps.getD 2 undef = .pointer (some ⟨w.heap.size + 1, 0, none⟩) := hB.fixed 2 _ (by simp)
  have hs3 : ac.tmps.getD 3 undef = .pointer (some ⟨w.heap.size + 1 + 1, 0, none⟩) := hB.fixed 3 _ (by simp)
  have hs5 : ac.tmps.getD 8 undef = .pointer (some ⟨w3.heap.size, 0, none⟩) := hB.fixed 8 _ (by simp)
  obtain ⟨hi, hq⟩ := hB.inv
  have HIW := Lib.hid hi
  have HQW := Lib.hid hq
  have HKK := Lib.hid hK
  obtain ⟨⟨c0, c1, c2, c3⟩, f0, f1, f2, f3⟩ := HIW.out.ri.cs
  obtain ⟨⟨ra, rb, rc, rd, r0, r1, r2, r3⟩, g0, g1, g2, g3⟩ := HIW.out.ri.rs
  obtain ⟨⟨na, nb, nc, nd, ne, nf, n0, n1, n2, n3, n4, n5⟩, m0, m1, m2, m3, m4, m5⟩ := HIW.out.ns
  clear hK hB hi hq
  rcases (show k = 0 ∨ k = 1 ∨ k = 2 ∨ k = 3 ∨ k = 4 by omega) with rfl | rfl | rfl | rfl | rfl
  ·obtain rfl := Option.some.inj ho
   go_simp
   exact HKK.out _ _ (RvN.refl _ _ _ _ _) ⟨HIW.out, HQW.out⟩ rfl
  ·obtain rfl := Option.some.inj ho
   refine wp_load_setQ _ rfl w3.heap.size ((show ac.eval (Operand.tmp 8) = ac.tmps.getD 8 undef from rfl).trans hs5) _ _ HQW.out ?_
   exact HKK.out _ _ (RvN.refl _ _ _ _ _) ⟨HIW.out, HQW.out⟩ rfl
  ·obtain rfl := Option.some.inj ho
   have hd1 : ac.tmps.getD 99 undef = .agg (setA (fun c => !spanF 10 11 c)) := hd ⟨1, .data⟩ (by simp) rfl
   go_simp
   refine (rclass_any _ W).mono ?_
   rintro e W3 ⟨v3, rfl, hT3, hb3⟩
   have S1 := Lib.hid (HIW.out.go hb3)
   have S2 := Lib.hid (HQW.out.on hb3 HQW.out.lt)
   have hz3 := HIW.out.sz
   have S3 := Lib.hid (RvN.on (t := clsT (fun c => !spanF 10 11 c)) HIW.out hb3)
   have S4 := Lib.hid (NG.go (F' := fun k => w.heap.size + 1 + 1 < k) (w' := W3) ⟨Nat.le_refl _, fun k hk _ => ⟨Nat.lt_of_lt_of_le hz3 hk, rfl⟩⟩ _ _ hT3)
   obtain ⟨op3, rs3, nm3, kk3, mn3, mx3, ra3, rc3, a3, cc3, ht3, rfl, _⟩ := hT3.open
   exact HKK.out _ _ S3.out ⟨S1.out, S2.out⟩ ⟨⟨_, _, _, _, _, _, _, _, _, _, rfl⟩, S4.out⟩
  ·obtain rfl := Option.some.inj ho
   have hd0 : ac.tmps.getD 98 undef = .agg #[.string ⟨l.toArray⟩, .int .i64 ((i + 1 : Nat) : Int), .int .i64 0, .int .i64 0] := hd ⟨0, .data⟩ (by simp) rfl
   obtain ⟨s1, s2, s3⟩ := HIW.out.stp (t := clsT (fun c => !spanF 10 11 c))
   have S1 := Lib.hid s1
   have S2 := Lib.hid s2
   have S3 := Lib.hid s3
   have S4 := Lib.hid ((stR_keep w W (.string ⟨l.toArray⟩) (.int .i64 ((i + 1 : Nat) : Int)) (.int .i64 0) (.int .i64 0) (k := w3.heap.size) HQL.out.2).trans HQW.out)
   clear s1 s2 s3
   go_simp
   exact HKK.out undef _ S2.out ⟨S1.out, S4.out⟩ S3.out
  ·obtain rfl := Option.some.inj ho
   obtain ⟨⟨op4, ra4, rn4, rc4, nm4, a4, nn4, cc4, mn4, mx4, hd2⟩, hT3⟩ : NdV w (clsT (fun c => !spanF 10 11 c)) W (ac.tmps.getD 100 undef) := hd ⟨2, .data⟩ (by simp) rfl
   rw [hd2] at hT3
   obtain ⟨s1, s2, s3⟩ := HIW.out.stn hT3
   have S1 := Lib.hid s1
   have S2 := Lib.hid s2
   have S3 := Lib.hid s3
   have S4 := Lib.hid ((stN_keep w W (.int .i64 op4) (.slice ra4 rn4 rc4) (.string ⟨nm4.toArray⟩) (.slice a4 nn4 cc4) (.int .i64 mn4) (.int .i64 mx4) (k := w3.heap.size) HQL.out.1).trans HQW.out)
   clear s1 s2 s3 hT3
   go_simp
   exact HKK.out undef _ S2.out ⟨S1.out, S4.out⟩ S3.out
 case refine_2 =>
  intro ac W hB hG
  have h2 : PAt w l (i + 1) 0 0 W := hG 3 (by decide)
  have h4 : NdA w (clsT (fun c => !spanF 10 11 c)) W := hG 4 (by decide)
  have hs2 : ac.tmps.getD 2 undef = .pointer (some ⟨w.heap.size + 1, 0, none⟩) := hB.fixed 2 _ (by simp)
  have hs3 : ac.tmps.getD 3 undef = .pointer (some ⟨w.heap.size + 1 + 1, 0, none⟩) := hB.fixed 3 _ (by simp)
  have hbw := hB.inv.1.ri.bl
  have hdf := hB.defers
  obtain ⟨tm, df⟩ := ac
  obtain rfl : df = [] := hdf
  have HR := Lib.hid (RN.end h2 h4 hbw (HLE.out) (fn := Tryz.f114) (tmps := tm) rfl hs2 hs3 (HR.out))
  clear hB hG h2 h4 hs2 hs3
  go_wp2_with fail
  exact HR.out
 case refine_3 =>
  simp only [List.mem_cons, Prod.mk.injEq, List.not_mem_nil, or_false] at hs
  rcases hs with ⟨rfl, rfl⟩ | ⟨rfl, rfl⟩ | ⟨rfl, rfl⟩ | ⟨rfl, rfl⟩ <;> rfl
end Go.Proofs.YtgcpinnnfoanjaaGreatDoor
namespace Go.Proofs.YtgcpinnnfoanjaaGreatDoor
open Go.RowKit
def GvM (w : World) (l : List UInt8) (j : Nat) (A A2 : Value) (t : NT) (k : Nat) (v : Value) (W : World) : Prop :=
 match k with
 | 0 => v = .agg #[.string ⟨l.toArray⟩, .int .i64 (j : Int), .int .i64 0, .int .i64 0]
 | 1 => v = A
 | 2 => v = A2
 | 3 => NdV w t W v
 | 4 => PAt w l j 0 0 W
 | 5 => NdA w t W
 | _ => True
theorem GvM.keep (w : World) (l : List UInt8) (j : Nat) (A A2 : Value) (t : NT) : ∀ k v W W', RvN w l j t W W' → GvM w l j A A2 t k v W → GvM w l j A A2 t k v W' := by
 intro k v W W' hr hg
 match k with
 | 0 => exact hg
 | 1 => exact hg
 | 2 => exact hg
 | 3 => exact hr.2.1 v hg
 | 4 => exact hr.1 hg
 | 5 => exact hr.2.2 hg
 | k + 6 => trivial
theorem atomM_oth {ch : Nat → Out NT} {l : List UInt8} {i c : Nat} (hc : Asc.at_ l i = c) (h0 : c ≠ 40) (h1 : c ≠ 91) (h2 : c ≠ 46) (h3 : c ≠ 94) (h4 : c ≠ 36) (h5 : c ≠ 92) : atomM ch l i = if selfA c = true then .ok (clsT (spanF c (c + 1)), i + 1) else .error (i, 1) := by
 unfold atomM
 rw [hc, if_neg h0, if_neg h1, if_neg h2, if_neg h3, if_neg h4, if_neg h5]
set_option maxHeartbeats 16000000 in
set_option maxRecDepth 1000000 in
theorem ratom_oth (l : List UInt8) (ch : Nat → Out NT) (i : Nat) (hl : l.length ≤ 1000) (hi : i < l.length) (w : World) (h40 : pk l i ≠ 40) (h91 : pk l i ≠ 91) (h46 : pk l i ≠ 46) (h94 : pk l i ≠ 94) (h36 : pk l i ≠ 36) (h92 : pk l i ≠ 92) : Calls Tryz.prog 114 #[.agg #[.string ⟨l.toArray⟩, .int .i64 (i : Int), .int .i64 0, .int .i64 0]] w (RfP l (atomM ch l i) w) := by
 have hv := (zero_of_info infoQ).1
 simp only [← setA_false] at hv
 obtain ⟨M, hM⟩ : ∃ M, atomM ch l i = M := ⟨_, rfl⟩
 have HM := Lib.hid hM
 rw [hM]
 clear hM
 have HN0 : Hid (RN w l i 0 0 (((w.alloc (.cells #[.string ⟨l.toArray⟩, .int .i64 (i : Int), .int .i64 0, .int .i64 0] 111)).alloc (.cells #[.string ⟨#[]⟩, .int .i64 0, .int .i64 0, .int .i64 0] 111)).alloc (.cells #[.int .i64 0, .slice none 0 0, .string ⟨#[]⟩, .slice none 0 0, .int .i64 0, .int .i64 0] 38))) := Lib.hid (RN.start w l i 0 0)
 have HPK := Lib.hid fun W => rpeek0 l i W
 have hw1 : IntKind.i64.wrap ((i : Int) + 1) = (i : Int) + 1 := IntWalk.i64_in _ (by omega)
 have zz1 : decide ((l.length : Int) ≤ (i : Int)) = false := decide_eq_false (by omega)
 have yy1 : decide (l.length ≤ i) = false := decide_eq_false (by omega)
 have HAT := Lib.hid (pk_in hi).symm
 have HLE : Hid (i + 1 ≤ l.length) := Lib.hid hi
 have hc8 := pk_lt l i
 have z40 : ((pk l i : Int) == 40) = false := by rw [beq_eq_false_iff_ne]; omega
 have z91 : ((pk l i : Int) == 91) = false := by rw [beq_eq_false_iff_ne]; omega
 have z46 : ((pk l i : Int) == 46) = false := by rw [beq_eq_false_iff_ne]; omega
 have z94 : ((pk l i : Int) == 94) = false := by rw [beq_eq_false_iff_ne]; omega
 have z36 : ((pk l i : Int) == 36) = false := by rw [beq_eq_false_iff_ne]; omega
 have z92 : ((pk l i : Int) == 92) = false := by rw [beq_eq_false_iff_ne]; omega
 have HAO := Lib.hid (atomM_oth (ch := ch) HAT.out h40 h91 h46 h94 h36 h92)
 have HSP := Lib.hid fun W => rspecial_any (pk l i) W
 have HF := Lib.hid fun W => rfail0 l i W
 clear h40 h91 h46 h94 h36 h92
 obtain ⟨c, hc⟩ : ∃ c, pk l i = c := ⟨_, rfl⟩
 rw [hc] at HPK hc8 z40 z91 z46 z94 z36 z92 HAO HSP
 obtain ⟨sp, hsp⟩ : ∃ b, (spec.map UInt8.toNat).contains c = b := ⟨_, rfl⟩
 have HSA := Lib.hid (show selfA c = (decide (32 ≤ c) && decide (c ≤ 126) && !sp) by rw [← hsp]; rfl)
 rw [hsp] at HSP
 clear hc hsp HAT
 go_enter Tryz.func114, Tryz.ntmps114
 go_wp2_with fail
 refine (HPK.out _).mono ?_
 rintro e w1 ⟨rfl, hb⟩
 have HN1 := Lib.hid (HN0.out.go hb)
 clear hb HN0 HPK
 obtain ⟨⟨c0, c1, c2, c3⟩, f0, f1, f2, f3⟩ := HN1.out.ri.cs
 obtain ⟨⟨ra, rb, rc, rd, r0, r1, r2, r3⟩, g0, g1, g2, g3⟩ := HN1.out.ri.rs
 obtain ⟨⟨na, nb, nc, nd, ne, nf, n0, n1, n2, n3, n4, n5⟩, m0, m1, m2, m3, m4, m5⟩ := HN1.out.ns
 go_wp2_with fail
 refine (HSP.out _).mono ?_
 rintro e wx ⟨rfl, rfl⟩
 by_cases hgood : sp = false ∧ 32 ≤ c ∧ c ≤ 126
 ·obtain ⟨rfl, g32, g126⟩ := hgood
  have y5 : decide ((c : Int) < 32) = false := decide_eq_false (by omega)
  have y5' : decide (c < 32) = false := decide_eq_false (by omega)
  have y6 : decide ((126 : Int) < (c : Int)) = false := decide_eq_false (by omega)
  have y6' : decide (126 < c) = false := decide_eq_false (by omega)
  have hw3 : IntKind.i64.wrap (c : Int) = (c : Int) := IntWalk.i64_in _ (by omega)
  have HR := Lib.hid (show M = .ok (clsT (spanF c (c + 1)), i + 1) by
   rw [← HM.out, HAO.out, if_pos]
   rw [HSA.out, decide_eq_true g32, decide_eq_true g126]
   rfl)
  have HN7 : Hid (RN w l (i + 1) 0 0 (w1.setCell ⟨w.heap.size, 1, none⟩ (.int .i64 ((i : Int) + 1)))) := Lib.hid (HN1.out.to (i + 1))
  clear HM HSA HAO g32 g126
  go_wp2_with fail
  clear c0 c1 c2 c3 f0 f1 f2 f3 r0 r1 r2 r3 g0 g1 g2 g3 n0 n1 n2 n3 n4 n5 m0 m1 m2 m3 m4 m5 HN1
  obtain ⟨w7, hw7⟩ : ∃ w7, w1.setCell ⟨w.heap.size, 1, none⟩ (.int .i64 ((i : Int) + 1)) = w7 := ⟨_, rfl⟩
  rw [hw7] at HN7 ⊢
  clear hw7
  refine wp_region_slotsB (by rfl) (by kernel_rfl) (by kernel_rfl) 150 [] [(1, .pointer (some ⟨w.heap.size, 0, none⟩)), (2, .pointer (some ⟨w.heap.size + 1, 0, none⟩)), (3, .pointer (some ⟨w.heap.size + 1 + 1, 0, none⟩)), (4, .int .u8 (c : Int))] (by kernel_rfl) (fun W => RN w l (i + 1) 0 0 W ∧ True) (RvN w l (i + 1) (clsT (spanF c (c + 1)))) (GvM w l (i + 1) (.int .u8 (c : Int)) (.int .i64 (c : Int)) (clsT (spanF c (c + 1)))) (GvM.keep w l (i + 1) (.int .u8 (c : Int)) (.int .i64 (c : Int)) (clsT (spanF c (c + 1)))) ?_ ?_ ⟨rfl, rfl, fun s v hs => ?_, HN7.out.go (Below.refl _ _).drew, trivial⟩
  case refine_1 =>
   intro k o ho ac W hB hd K hK
   have hk5 : k < 6 := (Array.getElem?_eq_some_iff.1 ho).1
   have hs1 : ac.tmps.getD 1 undef = .pointer (some ⟨w.heap.size, 0, none⟩) := hB.fixed 1 _ (by simp)
   have hs2 : ac.tmps.getD 2 undef = .pointer (some ⟨w.heap.size + 1, 0, none⟩) := hB.fixed 2 _ (by simp)
   have hs3 : ac.tmps.getD 3 undef = .pointer (some ⟨w.heap.size + 1 + 1, 0, none⟩) := hB.fixed 3 _ (by simp)
   have hs5 : ac.tmps.getD 4 undef = .int .u8 (c : Int) := hB.fixed 4 _ (by simp)
   obtain ⟨hi, hq⟩ := hB.inv
   have HIW := Lib.hid hi
   have HKK := Lib.hid hK
   obtain ⟨⟨c0, c1, c2, c3⟩, f0, f1, f2, f3⟩ := HIW.out.ri.cs
   obtain ⟨⟨ra, rb, rc, rd, r0, r1, r2, r3⟩, g0, g1, g2, g3⟩ := HIW.out.ri.rs
   obtain ⟨⟨na, nb, nc, nd, ne, nf, n0, n1, n2, n3, n4, n5⟩, m0, m1, m2, m3, m4, m5⟩ := HIW.out.ns
   clear hK hB hi hq
   rcases (show k = 0 ∨ k = 1 ∨ k = 2 ∨ k = 3 ∨ k = 4 ∨ k = 5 by omega) with rfl | rfl | rfl | rfl | rfl | rfl
   ·obtain rfl := Option.some.inj ho
    go_simp
    exact HKK.out _ _ (RvN.refl _ _ _ _ _) ⟨HIW.out, trivial⟩ rfl
   ·obtain rfl := Option.some.inj ho
    go_simp
    exact HKK.out _ _ (RvN.refl _ _ _ _ _) ⟨HIW.out, trivial⟩ rfl
   ·obtain rfl := Option.some.inj ho
    have hd1 : ac.tmps.getD 147 undef = .int .u8 (c : Int) := hd ⟨1, .data⟩ (by simp) rfl
    go_simp
    exact HKK.out _ _ (RvN.refl _ _ _ _ _) ⟨HIW.out, trivial⟩ rfl
   ·obtain rfl := Option.some.inj ho
    have hd1 : ac.tmps.getD 148 undef = .int .i64 (c : Int) := hd ⟨2, .data⟩ (by simp) rfl
    go_simp
    refine (rone_any _ hc8 W).mono ?_
    rintro e W3 ⟨v3, rfl, hT3, hb3⟩
    have S1 := Lib.hid (HIW.out.go hb3)
    have hz3 := HIW.out.sz
    have S3 := Lib.hid (RvN.on (t := clsT (spanF c (c + 1))) HIW.out hb3)
    have S4 := Lib.hid (NG.go (F' := fun k => w.heap.size + 1 + 1 < k) (w' := W3) ⟨Nat.le_refl _, fun k hk _ => ⟨Nat.lt_of_lt_of_le hz3 hk, rfl⟩⟩ _ _ hT3)
    obtain ⟨op3, rs3, nm3, kk3, mn3, mx3, ra3, rc3, a3, cc3, ht3, rfl, _⟩ := hT3.open
    exact HKK.out _ _ S3.out ⟨S1.out, trivial⟩ ⟨⟨_, _, _, _, _, _, _, _, _, _, rfl⟩, S4.out⟩
   ·obtain rfl := Option.some.inj ho
    have hd0 : ac.tmps.getD 146 undef = .agg #[.string ⟨l.toArray⟩, .int .i64 ((i + 1 : Nat) : Int), .int .i64 0, .int .i64 0] := hd ⟨0, .data⟩ (by simp) rfl
    obtain ⟨s1, s2, s3⟩ := HIW.out.stp (t := clsT (spanF c (c + 1)))
    have S1 := Lib.hid s1
    have S2 := Lib.hid s2
    have S3 := Lib.hid s3
    clear s1 s2 s3
    go_simp
    exact HKK.out undef _ S2.out ⟨S1.out, trivial⟩ S3.out
   ·obtain rfl := Option.some.inj ho
    obtain ⟨⟨op4, ra4, rn4, rc4, nm4, a4, nn4, cc4, mn4, mx4, hd2⟩, hT3⟩ : NdV w (clsT (spanF c (c + 1))) W (ac.tmps.getD 149 undef) := hd ⟨3, .data⟩ (by simp) rfl
    rw [hd2] at hT3
    obtain ⟨s1, s2, s3⟩ := HIW.out.stn hT3
    have S1 := Lib.hid s1
    have S2 := Lib.hid s2
    have S3 := Lib.hid s3
    clear s1 s2 s3 hT3
    go_simp
    exact HKK.out undef _ S2.out ⟨S1.out, trivial⟩ S3.out
  case refine_2 =>
   intro ac W hB hG
   have h2 : PAt w l (i + 1) 0 0 W := hG 4 (by decide)
   have h4 : NdA w (clsT (spanF c (c + 1))) W := hG 5 (by decide)
   have hs2 : ac.tmps.getD 2 undef = .pointer (some ⟨w.heap.size + 1, 0, none⟩) := hB.fixed 2 _ (by simp)
   have hs3 : ac.tmps.getD 3 undef = .pointer (some ⟨w.heap.size + 1 + 1, 0, none⟩) := hB.fixed 3 _ (by simp)
   have hbw := hB.inv.1.ri.bl
   have hdf := hB.defers
   obtain ⟨tm, df⟩ := ac
   obtain rfl : df = [] := hdf
   have HR := Lib.hid (RN.end h2 h4 hbw (HLE.out) (fn := Tryz.f114) (tmps := tm) rfl hs2 hs3 (HR.out))
   clear hB hG h2 h4 hs2 hs3
   go_wp2_with fail
   exact HR.out
  case refine_3 =>
   simp only [List.mem_cons, Prod.mk.injEq, List.not_mem_nil, or_false] at hs
   rcases hs with ⟨rfl, rfl⟩ | ⟨rfl, rfl⟩ | ⟨rfl, rfl⟩ | ⟨rfl, rfl⟩ <;> rfl
 ·have HR := Lib.hid (show M = .error (i, 1) by
   rw [← HM.out, HAO.out, if_neg]
   rw [HSA.out]
   intro h
   apply hgood
   simp only [Bool.and_eq_true, decide_eq_true_iff, Bool.not_eq_true'] at h
   exact ⟨h.2, h.1.1, h.1.2⟩)
  have hfork : (sp = true) ∨ (sp = false ∧ c < 32) ∨ (sp = false ∧ 32 ≤ c ∧ 126 < c) := by
   cases sp with
   | true => exact .inl rfl
   | false => exact .inr (by simp at hgood ⊢; omega)
  clear HM HSA HAO hgood
  rcases hfork with rfl | ⟨rfl, h⟩ | ⟨rfl, h, h'⟩
  ·go_wp2_with fail
   refine (HF.out _).mono ?_
   rintro e w3 ⟨rfl, hb⟩
   have HN3 := Lib.hid (HN1.out.go hb)
   clear hb HN1 c0 c1 c2 c3 f0 f1 f2 f3 r0 r1 r2 r3 g0 g1 g2 g3 n0 n1 n2 n3 n4 n5 m0 m1 m2 m3 m4 m5
   obtain ⟨⟨c0, c1, c2, c3⟩, f0, f1, f2, f3⟩ := HN3.out.ri.cs
   obtain ⟨⟨ra, rb, rc, rd, r0, r1, r2, r3⟩, g0, g1, g2, g3⟩ := HN3.out.ri.rs
   obtain ⟨⟨na, nb, nc, nd, ne, nf, n0, n1, n2, n3, n4, n5⟩, m0, m1, m2, m3, m4, m5⟩ := HN3.out.ns
   go_wp2_with fail
   exact HN3.out.ret0 (P := 2) (N := 3) rfl (by rfl) (by rfl) HR.out (by decide) (j := i) (by omega)
  ·have y5 : decide ((c : Int) < 32) = true := decide_eq_true (by omega)
   have y5' : decide (c < 32) = true := decide_eq_true (by omega)
   go_wp2_with fail
   refine (HF.out _).mono ?_
   rintro e w3 ⟨rfl, hb⟩
   have HN3 := Lib.hid (HN1.out.go hb)
   clear hb HN1 c0 c1 c2 c3 f0 f1 f2 f3 r0 r1 r2 r3 g0 g1 g2 g3 n0 n1 n2 n3 n4 n5 m0 m1 m2 m3 m4 m5
   obtain ⟨⟨c0, c1, c2, c3⟩, f0, f1, f2, f3⟩ := HN3.out.ri.cs
   obtain ⟨⟨ra, rb, rc, rd, r0, r1, r2, r3⟩, g0, g1, g2, g3⟩ := HN3.out.ri.rs
   obtain ⟨⟨na, nb, nc, nd, ne, nf, n0, n1, n2, n3, n4, n5⟩, m0, m1, m2, m3, m4, m5⟩ := HN3.out.ns
   go_wp2_with fail
   exact HN3.out.ret0 (P := 2) (N := 3) rfl (by rfl) (by rfl) HR.out (by decide) (j := i) (by omega)
  ·have y5 : decide ((c : Int) < 32) = false := decide_eq_false (by omega)
   have y5' : decide (c < 32) = false := decide_eq_false (by omega)
   have y6 : decide ((126 : Int) < (c : Int)) = true := decide_eq_true (by omega)
   have y6' : decide (126 < c) = true := decide_eq_true (by omega)
   go_wp2_with fail
   refine (HF.out _).mono ?_
   rintro e w3 ⟨rfl, hb⟩
   have HN3 := Lib.hid (HN1.out.go hb)
   clear hb HN1 c0 c1 c2 c3 f0 f1 f2 f3 r0 r1 r2 r3 g0 g1 g2 g3 n0 n1 n2 n3 n4 n5 m0 m1 m2 m3 m4 m5
   obtain ⟨⟨c0, c1, c2, c3⟩, f0, f1, f2, f3⟩ := HN3.out.ri.cs
   obtain ⟨⟨ra, rb, rc, rd, r0, r1, r2, r3⟩, g0, g1, g2, g3⟩ := HN3.out.ri.rs
   obtain ⟨⟨na, nb, nc, nd, ne, nf, n0, n1, n2, n3, n4, n5⟩, m0, m1, m2, m3, m4, m5⟩ := HN3.out.ns
   go_wp2_with fail
   exact HN3.out.ret0 (P := 2) (N := 3) rfl (by rfl) (by rfl) HR.out (by decide) (j := i) (by omega)
end Go.Proofs.YtgcpinnnfoanjaaGreatDoor
namespace Go.Proofs.YtgcpinnnfoanjaaGreatDoor
open Go.RowKit
def KbA (q : Nat) (W : World) (x y z u v t : Value) : Prop := W.heap[q]? = some (.cells #[x, y, z, u, v, t] 38 (0, 0))
theorem KbA.cs {q : Nat} {W : World} {x y z u v t : Value} (h : KbA q W x y z u v t) : (W.cell? ⟨q, 0, none⟩ = some x ∧ W.cell? ⟨q, 1, none⟩ = some y ∧ W.cell? ⟨q, 2, none⟩ = some z ∧ W.cell? ⟨q, 3, none⟩ = some u ∧ W.cell? ⟨q, 4, none⟩ = some v ∧ W.cell? ⟨q, 5, none⟩ = some t) ∧
  (W.frozen? ⟨q, 0, none⟩ = false ∧ W.frozen? ⟨q, 1, none⟩ = false ∧ W.frozen? ⟨q, 2, none⟩ = false ∧ W.frozen? ⟨q, 3, none⟩ = false ∧ W.frozen? ⟨q, 4, none⟩ = false ∧ W.frozen? ⟨q, 5, none⟩ = false) := by
 unfold KbA at h
 exact ⟨⟨Lib.cell_of_heap h 0, Lib.cell_of_heap h 1, Lib.cell_of_heap h 2, Lib.cell_of_heap h 3, Lib.cell_of_heap h 4, Lib.cell_of_heap h 5⟩, Lib.frozen_of_heap h 0, Lib.frozen_of_heap h 1, Lib.frozen_of_heap h 2, Lib.frozen_of_heap h 3, Lib.frozen_of_heap h 4, Lib.frozen_of_heap h 5⟩
theorem KbA.on {q B : Nat} {W W' : World} {x y z u v t : Value} (h : KbA q W x y z u v t) (k : Below B W W') (hq : q < B) : KbA q W' x y z u v t := (k.block q hq).trans h
theorem KbA.lt {q : Nat} {W : World} {x y z u v t : Value} (h : KbA q W x y z u v t) : q < W.heap.size := (Array.getElem?_eq_some_iff.1 h).1
theorem KbA.new (W : World) (x y z u v t : Value) : KbA W.heap.size (W.alloc (.cells #[x, y, z, u, v, t] 38)) x y z u v t := heap_alloc_new W _
def stK (q : Nat) (W : World) (x y z u v t : Value) : World := (((((W.setCell ⟨q, 0, none⟩ x).setCell ⟨q, 1, none⟩ y).setCell ⟨q, 2, none⟩ z).setCell ⟨q, 3, none⟩ u).setCell ⟨q, 4, none⟩ v).setCell ⟨q, 5, none⟩ t
theorem KbA.st {q : Nat} {W : World} {x y z u v t : Value} (h : KbA q W x y z u v t) (x' y' z' u' v' t' : Value) : KbA q (stK q W x' y' z' u' v' t') x' y' z' u' v' t' := st_six h
theorem stK_keep (q : Nat) (W : World) (x y z u v t : Value) {k : Nat} (hk : k ≠ q) : (stK q W x y z u v t).heap[k]? = W.heap[k]? := by
 unfold stK
 rw [heap_setCell_other _ _ _ _ (by simpa using hk), heap_setCell_other _ _ _ _ (by simpa using hk), heap_setCell_other _ _ _ _ (by simpa using hk), heap_setCell_other _ _ _ _ (by simpa using hk), heap_setCell_other _ _ _ _ (by simpa using hk), heap_setCell_other _ _ _ _ (by simpa using hk)]
theorem stK_size (q : Nat) (W : World) (x y z u v t : Value) : (stK q W x y z u v t).heap.size = W.heap.size := by unfold stK; simp
theorem stK_below {B q : Nat} (hn : B ≤ q) (W : World) (x y z u v t : Value) : Below B W (stK q W x y z u v t) := by
 unfold stK
 exact ((((((Below.refl _ W).setCell (p := ⟨q, 0, none⟩) hn _).setCell (p := ⟨q, 1, none⟩) hn _).setCell (p := ⟨q, 2, none⟩) hn _).setCell (p := ⟨q, 3, none⟩) hn _).setCell (p := ⟨q, 4, none⟩) hn _).setCell (p := ⟨q, 5, none⟩) hn _
theorem RN.stk {w : World} {l : List UInt8} {i e bad q : Nat} {W : World} (h : RN w l i e bad W) (hq : w.heap.size + 1 + 1 < q) (x y z u v t : Value) : RN w l i e bad (stK q W x y z u v t) := h.on (stK_below (Nat.le_refl q) W x y z u v t) hq
theorem KbA.nest {q b : Nat} {W : World} {x y z u v t a c d e : Value} (h : KbA q W x y z u v t) (hs : q ≠ b) : KbA q ((((W.setCell ⟨b, 0, none⟩ a).setCell ⟨b, 1, none⟩ c).setCell ⟨b, 2, none⟩ d).setCell ⟨b, 3, none⟩ e) x y z u v t := by
 unfold KbA
 rw [heap_setCell_other _ _ _ _ (by simpa using hs), heap_setCell_other _ _ _ _ (by simpa using hs), heap_setCell_other _ _ _ _ (by simpa using hs), heap_setCell_other _ _ _ _ (by simpa using hs)]
 exact h
theorem Stay.drew {F : Nat → Prop} (W : World) : Stay F F W W.drew := ⟨Nat.le_refl _, fun _ hk _ => ⟨hk, rfl⟩⟩
def RkN (w : World) (l : List UInt8) (j e bad : Nat) (T : NT) (W W' : World) : Prop := Stay (fun k => w.heap.size + 1 + 1 < k) (fun k => w.heap.size + 1 + 1 < k) W W' ∧ (PAt w l j e bad W → PAt w l j e bad W') ∧ (NdA w T W → NdA w T W')
theorem RkN.refl (w : World) (l : List UInt8) (j e bad : Nat) (T : NT) (W : World) : RkN w l j e bad T W W := ⟨⟨Nat.le_refl _, fun _ hk _ => ⟨hk, rfl⟩⟩, id, id⟩
theorem NdV.go {w : World} {t : NT} {W W' : World} {v : Value} (hs : Stay (fun k => w.heap.size + 1 + 1 < k) (fun k => w.heap.size + 1 + 1 < k) W W') (h : NdV w t W v) : NdV w t W' v := ⟨h.1, NG.go hs _ _ h.2⟩
def GvK (w : World) (l : List UInt8) (j e bad : Nat) (t : NT) (k : Nat) (v : Value) (W : World) : Prop :=
 match k with
 | 0 => v = .agg #[.string ⟨l.toArray⟩, .int .i64 (j : Int), .int .i64 (e : Int), .int .i64 (bad : Int)]
 | 1 => NdV w t W v
 | 2 => PAt w l j e bad W
 | 3 => NdA w t W
 | _ => True
theorem GvK.keep (w : World) (l : List UInt8) (j e bad : Nat) (t : NT) : ∀ k v W W', RkN w l j e bad t W W' → GvK w l j e bad t k v W → GvK w l j e bad t k v W' := by
 intro k v W W' hr hg
 match k with
 | 0 => exact hg
 | 1 => exact NdV.go hr.1 hg
 | 2 => exact hr.2.1 hg
 | 3 => exact hr.2.2 hg
 | k + 4 => trivial
def GvC (w : World) (l : List UInt8) (j : Nat) (nm : List UInt8) (t T : NT) (k : Nat) (v : Value) (W : World) : Prop :=
 match k with
 | 0 => v = .agg #[.string ⟨l.toArray⟩, .int .i64 (j : Int), .int .i64 0, .int .i64 0]
 | 1 => v = .string ⟨nm.toArray⟩
 | 2 => NdV w t W v
 | 3 => ∃ q, v = .slice (some ⟨q, 0, none⟩) 1 1 ∧ RW (fun k => w.heap.size + 1 + 1 < k) 6 (KR (fun k => w.heap.size + 1 + 1 < k) W) W [t] v
 | 4 => NdV w T W v
 | 5 => PAt w l j 0 0 W
 | 6 => NdA w T W
 | _ => True
theorem GvC.keep (w : World) (l : List UInt8) (j : Nat) (nm : List UInt8) (t T : NT) : ∀ k v W W', RkN w l j 0 0 T W W' → GvC w l j nm t T k v W → GvC w l j nm t T k v W' := by
 intro k v W W' hr hg
 match k with
 | 0 => exact hg
 | 1 => exact hg
 | 2 => exact NdV.go hr.1 hg
 | 3 =>
  obtain ⟨q, e, h⟩ := hg
  exact ⟨q, e, h.go hr.1 (fun _ _ => KR.go hr.1 _ _)⟩
 | 4 => exact NdV.go hr.1 hg
 | 5 => exact hr.2.1 hg
 | 6 => exact hr.2.2 hg
 | k + 7 => trivial
section
variable {w : World} {l : List UInt8} {j e bad : Nat} {t : NT} {W W' : World}
theorem RN.stpK (h : RN w l j e bad W) (T : NT) : RN w l j e bad (stR w W (.string ⟨l.toArray⟩) (.int .i64 (j : Int)) (.int .i64 (e : Int)) (.int .i64 (bad : Int))) ∧ RkN w l j e bad T W (stR w W (.string ⟨l.toArray⟩) (.int .i64 (j : Int)) (.int .i64 (e : Int)) (.int .i64 (bad : Int))) ∧ PAt w l j e bad (stR w W (.string ⟨l.toArray⟩) (.int .i64 (j : Int)) (.int .i64 (e : Int)) (.int .i64 (bad : Int))) ∧ (∀ k, k ≠ w.heap.size + 1 → (stR w W (.string ⟨l.toArray⟩) (.int .i64 (j : Int)) (.int .i64 (e : Int)) (.int .i64 (bad : Int))).heap[k]? = W.heap[k]?) := by
 obtain ⟨a, b, c, d, hrb⟩ := h.ri.rb
 obtain ⟨x, y, z, u, v, s, hnb⟩ := h.nb
 have h1 : PAt w l j e bad (stR w W (.string ⟨l.toArray⟩) (.int .i64 (j : Int)) (.int .i64 (e : Int)) (.int .i64 (bad : Int))) := st_four hrb
 have hs : Stay (fun k => w.heap.size + 1 + 1 < k) (fun k => w.heap.size + 1 + 1 < k) W (stR w W (.string ⟨l.toArray⟩) (.int .i64 (j : Int)) (.int .i64 (e : Int)) (.int .i64 (bad : Int))) := ⟨by rw [stR_size]; exact Nat.le_refl _, fun k hk _ => ⟨hk, stR_keep _ _ _ _ _ _ (by omega)⟩⟩
 refine ⟨⟨⟨(stR_keep _ _ _ _ _ _ (by omega)).trans h.ri.pb, ⟨_, _, _, _, h1⟩, h.ri.bl.trans (stR_below w W _ _ _ _)⟩, x, y, z, u, v, s, (stR_keep _ _ _ _ _ _ (by omega)).trans hnb⟩, ⟨hs, fun _ => h1, fun ⟨v0, v1, v2, v3, v4, v5, k1, k2⟩ => ⟨v0, v1, v2, v3, v4, v5, (stR_keep _ _ _ _ _ _ (by omega)).trans k1, NG.go hs _ _ k2⟩⟩, h1, fun k hk => stR_keep _ _ _ _ _ _ hk⟩
theorem RN.stnK (h : RN w l j e bad W) {v0 v1 v2 v3 v4 v5 : Value} (hT : NG (fun k => w.heap.size + 1 + 1 < k) W t (.agg #[v0, v1, v2, v3, v4, v5])) : RN w l j e bad (stN w W v0 v1 v2 v3 v4 v5) ∧ RkN w l j e bad t W (stN w W v0 v1 v2 v3 v4 v5) ∧ NdA w t (stN w W v0 v1 v2 v3 v4 v5) ∧ (∀ k, k ≠ w.heap.size + 1 + 1 → (stN w W v0 v1 v2 v3 v4 v5).heap[k]? = W.heap[k]?) := by
 obtain ⟨a, b, c, d, hrb⟩ := h.ri.rb
 obtain ⟨x, y, z, u, v, s, hnb⟩ := h.nb
 have h1 : NbA w (stN w W v0 v1 v2 v3 v4 v5) v0 v1 v2 v3 v4 v5 := st_six hnb
 have hs : Stay (fun k => w.heap.size + 1 + 1 < k) (fun k => w.heap.size + 1 + 1 < k) W (stN w W v0 v1 v2 v3 v4 v5) := ⟨by rw [stN_size]; exact Nat.le_refl _, fun k hk _ => ⟨hk, stN_keep _ _ _ _ _ _ _ _ (by omega)⟩⟩
 have hN : NdA w t (stN w W v0 v1 v2 v3 v4 v5) := ⟨v0, v1, v2, v3, v4, v5, h1, NG.go hs _ _ hT⟩
 exact ⟨⟨⟨(stN_keep _ _ _ _ _ _ _ _ (by omega)).trans h.ri.pb, ⟨a, b, c, d, (stN_keep _ _ _ _ _ _ _ _ (by omega)).trans hrb⟩, h.ri.bl.trans (stN_below w W _ _ _ _ _ _)⟩, v0, v1, v2, v3, v4, v5, h1⟩, ⟨hs, fun k => (stN_keep _ _ _ _ _ _ _ _ (by omega)).trans k, fun _ => hN⟩, hN, fun k hk => stN_keep _ _ _ _ _ _ _ _ hk⟩
theorem RkN.on (h : RN w l j e bad W) (hb : Below W.heap.size W W') (T : NT) : RkN w l j e bad T W W' := by
 have hz := h.sz
 have hs : Stay (fun k => w.heap.size + 1 + 1 < k) (fun k => w.heap.size + 1 + 1 < k) W W' := ⟨hb.size, fun k hk hl => ⟨hk, hb.block k hl⟩⟩
 exact ⟨hs, fun k => (hb.block _ (by omega)).trans k, fun ⟨v0, v1, v2, v3, v4, v5, h1, h2⟩ => ⟨v0, v1, v2, v3, v4, v5, (hb.block _ hz).trans h1, NG.go hs _ _ h2⟩⟩
theorem RN.endK (hP : PAt w l j e bad W) (hN : NdA w t W) (hb : Below w.heap.size w W) {fn : Func} {P N : Tmp} (hfn : fn.results = #[.cell P 111, .cell N 38]) {tmps : Array Value} (hp : tmps.getD P undef = .pointer (some ⟨w.heap.size + 1, 0, none⟩)) (hn : tmps.getD N undef = .pointer (some ⟨w.heap.size + 1 + 1, 0, none⟩)) {r : Out NT} (hr : match r with | .ok (t', j') => (j = j' ∧ e = 0 ∧ bad = 0) ∧ t = t' ∧ j ≤ l.length | .error (k, x) => (e = x ∧ x ≠ 0 ∧ bad = k) ∧ j ≤ 2000) :
  bodyPost Tryz.prog fn (RfP l r w) Exit.ret { tmps := tmps, defers := [] } W := by
 obtain ⟨v0, v1, v2, v3, v4, v5, h1, h2⟩ := hN
 exact ret_cc hfn hp hn (lv_rp hP) (lv_nd h1) ⟨j, e, bad, t, _, rfl, NG.go ⟨Nat.le_refl _, fun k hk _ => ⟨by omega, rfl⟩⟩ _ _ h2, hb, hr⟩
theorem RN.kid (h : RN w l j e bad W) {x y z u v s : Value} (hT : NG (fun k => w.heap.size + 1 + 1 < k) W t (.agg #[x, y, z, u, v, s])) (j' e' bad' : Nat) : RN w l j' e' bad' (((((W.setCell ⟨w.heap.size, 0, none⟩ (.string ⟨l.toArray⟩)).setCell ⟨w.heap.size, 1, none⟩ (.int .i64 (j' : Int))).setCell ⟨w.heap.size, 2, none⟩ (.int .i64 (e' : Int))).setCell ⟨w.heap.size, 3, none⟩ (.int .i64 (bad' : Int))).alloc (.cells #[x, y, z, u, v, s] 38)) ∧
  KbA W.heap.size (((((W.setCell ⟨w.heap.size, 0, none⟩ (.string ⟨l.toArray⟩)).setCell ⟨w.heap.size, 1, none⟩ (.int .i64 (j' : Int))).setCell ⟨w.heap.size, 2, none⟩ (.int .i64 (e' : Int))).setCell ⟨w.heap.size, 3, none⟩ (.int .i64 (bad' : Int))).alloc (.cells #[x, y, z, u, v, s] 38)) x y z u v s ∧
  NG (fun k => w.heap.size + 1 + 1 < k) (((((W.setCell ⟨w.heap.size, 0, none⟩ (.string ⟨l.toArray⟩)).setCell ⟨w.heap.size, 1, none⟩ (.int .i64 (j' : Int))).setCell ⟨w.heap.size, 2, none⟩ (.int .i64 (e' : Int))).setCell ⟨w.heap.size, 3, none⟩ (.int .i64 (bad' : Int))).alloc (.cells #[x, y, z, u, v, s] 38)) t (.agg #[x, y, z, u, v, s]) := by
 have hp := h.put j' e' bad'
 obtain ⟨P, hP⟩ : ∃ P, ((((W.setCell ⟨w.heap.size, 0, none⟩ (.string ⟨l.toArray⟩)).setCell ⟨w.heap.size, 1, none⟩ (.int .i64 (j' : Int))).setCell ⟨w.heap.size, 2, none⟩ (.int .i64 (e' : Int))).setCell ⟨w.heap.size, 3, none⟩ (.int .i64 (bad' : Int))) = P := ⟨_, rfl⟩
 have hsz : P.heap.size = W.heap.size := by rw [← hP]; simp
 have hk : ∀ k, k ≠ w.heap.size → P.heap[k]? = W.heap[k]? := fun k hk => by
  rw [← hP, heap_setCell_other _ _ _ _ (by simpa using hk), heap_setCell_other _ _ _ _ (by simpa using hk), heap_setCell_other _ _ _ _ (by simpa using hk), heap_setCell_other _ _ _ _ (by simpa using hk)]
 rw [hP] at hp ⊢
 refine ⟨hp.go (al_below P _), ?_, NG.go ⟨by simp [hsz], fun k h1 h2 => ⟨h1, ((al_below P _).block k (by omega)).trans (hk k (by omega))⟩⟩ _ _ hT⟩
 have := KbA.new P x y z u v s
 rwa [hsz] at this
end
end Go.Proofs.YtgcpinnnfoanjaaGreatDoor
namespace Go.Proofs.YtgcpinnnfoanjaaGreatDoor
open Go.RowKit
theorem row_one {Fb : Nat → Prop} {W : World} {q : Nat} {t : NT} {x y z u v s : Value} (h : KbA q W x y z u v s) (hF : Fb q) (hT : NG Fb W t (.agg #[x, y, z, u, v, s])) : RW Fb 6 (KR Fb W) W [t] (.slice (some ⟨q, 0, none⟩) 1 1) := by
 obtain ⟨⟨k0, k1, k2, k3, k4, k5⟩, _⟩ := h.cs
 refine ⟨_, 1, rfl, ⟨by simp, fun h => by cases h⟩, fun _ => ⟨q, 0, rfl, h.lt, hF, fun i hi => ?_⟩⟩
 obtain rfl : i = 0 := by simp at hi; omega
 refine ⟨[x, y, z, u, v, s], rfl, fun j hj => ?_, hT⟩
 match j, hj with
 | 0, _ => exact k0
 | 1, _ => exact k1
 | 2, _ => exact k2
 | 3, _ => exact k3
 | 4, _ => exact k4
 | 5, _ => exact k5
def FX (w : World) (q : Nat) : Nat → Prop := fun k => w.heap.size + 1 + 1 < k ∧ k ≠ q
theorem RN.rep {w : World} {l : List UInt8} {j e bad qk : Nat} {t : NT} {W w3 : World} {x y z u v s : Value} (h : RN w l j e bad W) (hk : KbA qk W x y z u v s) (hT : NG (fun k => w.heap.size + 1 + 1 < k) W t (.agg #[x, y, z, u, v, s]))
  (hb : Below ((W.alloc (.cells #[x, y, z, u, v, s] 38)).alloc (.cells #[.int .i64 4, .slice none 0 0, .string ⟨#[]⟩, .slice (some ⟨W.heap.size, 0, none⟩) 1 1, .int .i64 0, .int .i64 0] 38)).heap.size ((W.alloc (.cells #[x, y, z, u, v, s] 38)).alloc (.cells #[.int .i64 4, .slice none 0 0, .string ⟨#[]⟩, .slice (some ⟨W.heap.size, 0, none⟩) 1 1, .int .i64 0, .int .i64 0] 38)) w3) :
  RN w l j e bad w3 ∧ KbA qk w3 x y z u v s ∧ KbA (W.heap.size + 1) w3 (.int .i64 4) (.slice none 0 0) (.string ⟨#[]⟩) (.slice (some ⟨W.heap.size, 0, none⟩) 1 1) (.int .i64 0) (.int .i64 0) ∧ RW (FX w (W.heap.size + 1)) 6 (KR (FX w (W.heap.size + 1)) w3) w3 [t] (.slice (some ⟨W.heap.size, 0, none⟩) 1 1) ∧ NG (fun k => w.heap.size + 1 + 1 < k) w3 t (.agg #[x, y, z, u, v, s]) := by
 have hz := h.sz
 have b1 := al_below W (.cells #[x, y, z, u, v, s] 38)
 have b2 := al_below (W.alloc (.cells #[x, y, z, u, v, s] 38)) (.cells #[.int .i64 4, .slice none 0 0, .string ⟨#[]⟩, .slice (some ⟨W.heap.size, 0, none⟩) 1 1, .int .i64 0, .int .i64 0] 38)
 have hB : Below W.heap.size W w3 := b1.trans ((b2.trans (hb.mono b2.size)).mono b1.size)
 have hT3 : NG (FX w (W.heap.size + 1)) w3 t (.agg #[x, y, z, u, v, s]) := NG.go ⟨hB.size, fun k h1 h2 => ⟨⟨h1, by omega⟩, hB.block k h2⟩⟩ _ _ hT
 have hT4 : NG (fun k => w.heap.size + 1 + 1 < k) w3 t (.agg #[x, y, z, u, v, s]) := NG.go ⟨hB.size, fun k h1 h2 => ⟨h1, hB.block k h2⟩⟩ _ _ hT
 have hrow : KbA W.heap.size w3 x y z u v s := ((KbA.new W x y z u v s).on b2 (by simp)).on hb (by simp; omega)
 refine ⟨h.go hB, hk.on hB hk.lt, ?_, row_one hrow ⟨hz, by omega⟩ hT3, hT4⟩
 have := (KbA.new (W.alloc (.cells #[x, y, z, u, v, s] 38)) (.int .i64 4) (.slice none 0 0) (.string ⟨#[]⟩) (.slice (some ⟨W.heap.size, 0, none⟩) 1 1) (.int .i64 0) (.int .i64 0)).on hb (by simp)
 rwa [show (W.alloc (.cells #[x, y, z, u, v, s] 38)).heap.size = W.heap.size + 1 by simp] at this
theorem FX.set {w : World} (W : World) (q i : Nat) (a : Value) : Stay (FX w q) (FX w q) W (W.setCell ⟨q, i, none⟩ a) := ⟨by simp, fun k hk _ => ⟨hk, heap_setCell_other W ⟨q, i, none⟩ k a hk.2⟩⟩
theorem FX.low {w : World} (W : World) (q b i : Nat) (a : Value) (hb : b ≤ w.heap.size) : Stay (FX w q) (FX w q) W (W.setCell ⟨b, i, none⟩ a) := ⟨by simp, fun k hk _ => ⟨hk, heap_setCell_other W ⟨b, i, none⟩ k a (Nat.ne_of_gt (Nat.lt_of_le_of_lt hb (by have h2 : w.heap.size + 1 + 1 < k := hk.1; omega)))⟩⟩
theorem FX.on {w : World} {W W' : World} (q : Nat) (h : Below W.heap.size W W') : Stay (FX w q) (FX w q) W W' := ⟨h.size, fun k hk hl => ⟨hk, h.block k hl⟩⟩
theorem RW.mv {w : World} {q : Nat} {W W' : World} {ts : List NT} {v : Value} (h : RW (FX w q) 6 (KR (FX w q) W) W ts v) (hs : Stay (FX w q) (FX w q) W W') : RW (FX w q) 6 (KR (FX w q) W') W' ts v := h.go hs (fun _ _ => KR.go hs _ _)
theorem NG.rep {w : World} {q r : Nat} {W : World} {t : NT} (h : RW (FX w q) 6 (KR (FX w q) W) W [t] (.slice (some ⟨r, 0, none⟩) 1 1)) (mn mx : Int) : NG (fun k => w.heap.size + 1 + 1 < k) W (.node 4 [] [] [t] mn mx) (.agg #[.int .i64 4, .slice none 0 0, .string ⟨#[]⟩, .slice (some ⟨r, 0, none⟩) 1 1, .int .i64 mn, .int .i64 mx]) := by
 have hs : Stay (FX w q) (fun k => w.heap.size + 1 + 1 < k) W W := ⟨Nat.le_refl _, fun k hk _ => ⟨hk.1, rfl⟩⟩
 exact NG.node (rs := []) RW.nil (h.go hs (fun _ _ => KR.go hs _ _)) 4 [] mn mx (by simp)
theorem KbA.s4 {q : Nat} {W : World} {x y z u v t : Value} (h : KbA q W x y z u v t) (v' : Value) : KbA q (W.setCell ⟨q, 4, none⟩ v') x y z u v' t := heap_setCell_same W q 4 _ _ _ h
theorem KbA.s5 {q : Nat} {W : World} {x y z u v t : Value} (h : KbA q W x y z u v t) (t' : Value) : KbA q (W.setCell ⟨q, 5, none⟩ t') x y z u v t' := heap_setCell_same W q 5 _ _ _ h
theorem KbA.oth {q b : Nat} {W : World} {x y z u v t : Value} (h : KbA q W x y z u v t) (hn : q ≠ b) (i : Nat) (a : Value) : KbA q (W.setCell ⟨b, i, none⟩ a) x y z u v t := (heap_setCell_other W ⟨b, i, none⟩ q a hn).trans h
theorem RN.oth {w : World} {l : List UInt8} {j e bad q : Nat} {W : World} (h : RN w l j e bad W) (hq : w.heap.size + 1 + 1 < q) (i : Nat) (a : Value) : RN w l j e bad (W.setCell ⟨q, i, none⟩ a) := h.on ((Below.refl q W).setCell (p := ⟨q, i, none⟩) (Nat.le_refl _) a) hq
set_option maxHeartbeats 16000000 in
set_option maxRecDepth 1000000 in
theorem rrep_any (l : List UInt8) (ch : Nat → Out NT) (i : Nat) (hl : l.length ≤ 1000) (ha : RdR 114 l i (atomM ch l i)) : RdR 93 l i (repM ch l i) := by
 intro w
 have HA := Lib.hid ha
 obtain ⟨M, hM⟩ : ∃ M, repM ch l i = M := ⟨_, rfl⟩
 rw [hM]
 rw [repM_eq] at hM
 have HM := Lib.hid hM
 clear hM ha
 have HN0 : Hid (RN w l i 0 0 (((w.alloc (.cells #[.string ⟨l.toArray⟩, .int .i64 (i : Int), .int .i64 0, .int .i64 0] 111)).alloc (.cells #[.string ⟨#[]⟩, .int .i64 0, .int .i64 0, .int .i64 0] 111)).alloc (.cells #[.int .i64 0, .slice none 0 0, .string ⟨#[]⟩, .slice none 0 0, .int .i64 0, .int .i64 0] 38))) := Lib.hid (RN.start w l i 0 0)
 go_enter Tryz.func93, Tryz.ntmps93
 go_wp2_with fail
 refine (HA.out _).mono ?_
 rintro e w1 ⟨j, e1, bad, t, v, rfl, hT, hb, hr⟩
 have HN1 := Lib.hid (HN0.out.go hb)
 have HT1 := Lib.hid (hT.third HN0.out.sz)
 obtain ⟨op1, rs1, nm1, kk1, mn1, mx1, ra1, rc1, ka1, kc1, ht1, rfl, _⟩ := hT.open
 clear hb hT ht1 HN0
 obtain ⟨rn1, hrn⟩ : ∃ n, rs1.length = n := ⟨_, rfl⟩
 obtain ⟨kn1, hkn⟩ : ∃ n, kk1.length = n := ⟨_, rfl⟩
 rw [hrn, hkn] at HT1 ⊢
 clear hrn hkn
 obtain ⟨⟨c0, c1, c2, c3⟩, f0, f1, f2, f3⟩ := HN1.out.ri.cs
 obtain ⟨⟨ra, rb, rc, rd, r0, r1, r2, r3⟩, g0, g1, g2, g3⟩ := HN1.out.ri.rs
 obtain ⟨⟨na, nb, nc, nd, ne, nf, n0, n1, n2, n3, n4, n5⟩, m0, m1, m2, m3, m4, m5⟩ := HN1.out.ns
 have l1 : w.heap.size < w1.heap.size := by have := HN1.out.sz; omega
 go_upto_region 2 with fail
 obtain ⟨hk1, hk2, hk3⟩ := HN1.out.kid HT1.out j e1 bad
 obtain ⟨w2, hw2⟩ : ∃ w2, (((((w1.setCell ⟨w.heap.size, 0, none⟩ (.string ⟨l.toArray⟩)).setCell ⟨w.heap.size, 1, none⟩ (.int .i64 (j : Int))).setCell ⟨w.heap.size, 2, none⟩ (.int .i64 (e1 : Int))).setCell ⟨w.heap.size, 3, none⟩ (.int .i64 (bad : Int))).alloc (.cells #[.int .i64 op1, .slice ra1 rn1 rc1, .string ⟨nm1.toArray⟩, .slice ka1 kn1 kc1, .int .i64 mn1, .int .i64 mx1] 38)) = w2 := ⟨_, rfl⟩
 have hqk := HN1.out.sz
 obtain ⟨qk, hqk'⟩ : ∃ qk, w1.heap.size = qk := ⟨_, rfl⟩
 have HN2 : Hid (RN w l j e1 bad w2) := Lib.hid (by rw [← hw2]; exact hk1)
 have HK2 : Hid (KbA qk w2 (.int .i64 op1) (.slice ra1 rn1 rc1) (.string ⟨nm1.toArray⟩) (.slice ka1 kn1 kc1) (.int .i64 mn1) (.int .i64 mx1)) := Lib.hid (by rw [← hw2, ← hqk']; exact hk2)
 have HT2 : Hid (NG (fun k => w.heap.size + 1 + 1 < k) w2 t (.agg #[.int .i64 op1, .slice ra1 rn1 rc1, .string ⟨nm1.toArray⟩, .slice ka1 kn1 kc1, .int .i64 mn1, .int .i64 mx1])) := Lib.hid (by rw [← hw2]; exact hk3)
 rw [hw2, hqk']
 rw [hqk'] at hqk
 have HQK : Hid (qk ≠ w.heap.size + 1 + 1 ∧ qk ≠ w.heap.size + 1) := Lib.hid (by omega)
 clear hk1 hk2 hk3 hw2 hqk' HN1 HT1 l1 c0 c1 c2 c3 f0 f1 f2 f3 r0 r1 r2 r3 g0 g1 g2 g3 n0 n1 n2 n3 n4 n5 m0 m1 m2 m3 m4 m5
 obtain ⟨⟨c0, c1, c2, c3⟩, f0, f1, f2, f3⟩ := HN2.out.ri.cs
 obtain ⟨⟨ra, rb, rc, rd, r0, r1, r2, r3⟩, g0, g1, g2, g3⟩ := HN2.out.ri.rs
 obtain ⟨⟨na, nb, nc, nd, ne, nf, n0, n1, n2, n3, n4, n5⟩, m0, m1, m2, m3, m4, m5⟩ := HN2.out.ns
 obtain ⟨⟨k0, k1, k2, k3, k4, k5⟩, h0, h1, h2, h3, h4, h5⟩ := HK2.out.cs
 cases hq : atomM ch l i with
 | error kx =>
  obtain ⟨k, x⟩ := kx
  rw [hq] at hr HM
  obtain ⟨⟨rfl, hx0, rfl⟩, hj⟩ := hr
  have HR := Lib.hid (show M = .error (bad, e1) from HM.out.symm)
  have HE := Lib.hid hx0
  have z1 : ((e1 : Int) == 0) = false := by rw [beq_eq_false_iff_ne]; omega
  have z2 : ((e1 : Int) != 0) = true := by simp; omega
  clear HM hq hx0
  go_wp2_with fail
  exact HN2.out.ret0 (P := 2) (N := 3) rfl (by rfl) (by rfl) HR.out HE.out (j := j) hj
 | ok tj =>
  obtain ⟨t', j'⟩ := tj
  rw [hq] at hr HM
  obtain ⟨⟨rfl, rfl, rfl⟩, rfl, hjl⟩ := hr
  have HMK : Hid (repK l t j = M) := Lib.hid HM.out
  have hl0 : w.heap.size < w2.heap.size := by have := HN2.out.sz; omega
  have hl1 : w.heap.size + 1 < w2.heap.size := by have := HN2.out.sz; omega
  have hlk : qk < w2.heap.size := HK2.out.lt
  have HPK := Lib.hid fun W => rpeek_any l j 0 0 W
  have hc8 := pk_lt l j
  clear hq HM
  go_wp2_with fail
  refine (HPK.out _).mono ?_
  rintro e w3 ⟨rfl, hb⟩
  obtain ⟨hr1, hr2, hr3, hr4, hr5⟩ := HN2.out.rep HK2.out HT2.out hb
  have hq3 : w.heap.size + 1 + 1 < w2.heap.size + 1 := by omega
  obtain ⟨q2, hq2⟩ : ∃ q2, w2.heap.size = q2 := ⟨_, rfl⟩
  rw [hq2] at hr3 hr4 hq3 ⊢
  have HN3 := Lib.hid hr1
  have HK3 := Lib.hid hr2
  have HM3 := Lib.hid hr3
  have HW3 := Lib.hid hr4
  have HT3 := Lib.hid hr5
  have HQ3 : Hid (q2 + 1 ≠ w.heap.size + 1 + 1 ∧ q2 + 1 ≠ w.heap.size + 1) := Lib.hid (by omega)
  have HLB : Hid (w.heap.size + 1 + 1 < q2 + 1 ∧ q2 + 1 ≠ w.heap.size) := Lib.hid (by omega)
  clear hr1 hr2 hr3 hr4 hr5 hb HN2 HK2 HT2 hl0 hl1 hlk hq2 hq3 c0 c1 c2 c3 f0 f1 f2 f3 r0 r1 r2 r3 g0 g1 g2 g3 n0 n1 n2 n3 n4 n5 m0 m1 m2 m3 m4 m5 k0 k1 k2 k3 k4 k5 h0 h1 h2 h3 h4 h5
  have HP : Hid (∀ d, 0 < d → d < 256 → (pk l j = d ↔ Asc.at_ l j = d)) := Lib.hid (fun d h1 h2 => pk_eq h1 h2)
  obtain ⟨c, hc⟩ : ∃ c, pk l j = c := ⟨_, rfl⟩
  rw [hc] at HP hc8 ⊢
  clear hc
  have hwj : IntKind.i64.wrap ((j : Int) + 1) = (j : Int) + 1 := IntWalk.i64_in _ (by omega)
  obtain ⟨⟨c0, c1, c2, c3⟩, f0, f1, f2, f3⟩ := HN3.out.ri.cs
  obtain ⟨⟨ra, rb, rc, rd, r0, r1, r2, r3⟩, g0, g1, g2, g3⟩ := HN3.out.ri.rs
  obtain ⟨⟨na, nb, nc, nd, ne, nf, n0, n1, n2, n3, n4, n5⟩, m0, m1, m2, m3, m4, m5⟩ := HN3.out.ns
  obtain ⟨⟨k0, k1, k2, k3, k4, k5⟩, h0, h1, h2, h3, h4, h5⟩ := HK3.out.cs
  obtain ⟨⟨p0, p1, p2, p3, p4, p5⟩, o0, o1, o2, o3, o4, o5⟩ := HM3.out.cs
  by_cases h42 : c = 42
  ·subst h42
   have hat := (HP.out 42 (by decide) (by decide)).1 rfl
   have hjlt : j < l.length := Asc.at_lt (by omega)
   have HR := Lib.hid (show M = .ok (.node 4 [] [] [t] (0) (-1), j + 1) by rw [← HMK.out]; unfold repK; rw [hat]; rfl)
   have HLE : Hid (j + 1 ≤ l.length) := Lib.hid hjlt
   clear hat hjlt
   go_upto_region 18 with fail
   obtain ⟨w4, hw4⟩ : ∃ w4, ((w3.setCell ⟨q2 + 1, 5, none⟩ (.int .i64 (-1))).setCell ⟨w.heap.size, 1, none⟩ (.int .i64 ((j : Int) + 1))) = w4 := ⟨_, rfl⟩
   have HN4 : Hid (RN w l (j + 1) 0 0 w4) := Lib.hid (by rw [← hw4]; exact ((HN3.out.oth HLB.out.1 5 (.int .i64 (-1))).to (j + 1)))
   have HM4 : Hid (KbA (q2 + 1) w4 (.int .i64 4) (.slice none 0 0) (.string ⟨#[]⟩) (.slice (some ⟨q2, 0, none⟩) 1 1) (.int .i64 (0)) (.int .i64 (-1))) := Lib.hid (by rw [← hw4]; exact ((HM3.out.s5 (.int .i64 (-1))).oth HLB.out.2 1 (.int .i64 ((j : Int) + 1))))
   have HT4 : Hid (NG (fun k => w.heap.size + 1 + 1 < k) w4 (.node 4 [] [] [t] (0) (-1)) (.agg #[.int .i64 4, .slice none 0 0, .string ⟨#[]⟩, .slice (some ⟨q2, 0, none⟩) 1 1, .int .i64 (0), .int .i64 (-1)])) := Lib.hid (by rw [← hw4]; exact NG.rep ((HW3.out.mv (FX.set _ (q2 + 1) 5 (.int .i64 (-1)))).mv (FX.low _ (q2 + 1) w.heap.size 1 (.int .i64 ((j : Int) + 1)) (Nat.le_refl _))) (0) (-1))
   rw [hw4]
   clear hw4 HN3 HK3 HM3 HW3 HT3 c0 c1 c2 c3 f0 f1 f2 f3 r0 r1 r2 r3 g0 g1 g2 g3 n0 n1 n2 n3 n4 n5 m0 m1 m2 m3 m4 m5 k0 k1 k2 k3 k4 k5 h0 h1 h2 h3 h4 h5 p0 p1 p2 p3 p4 p5 o0 o1 o2 o3 o4 o5
   refine wp_region_slotsB (by rfl) (by kernel_rfl) (by kernel_rfl) 55 [] [(1, .pointer (some ⟨w.heap.size, 0, none⟩)), (2, .pointer (some ⟨w.heap.size + 1, 0, none⟩)), (3, .pointer (some ⟨w.heap.size + 1 + 1, 0, none⟩)), (5, .pointer (some ⟨q2 + 1, 0, none⟩))] (by kernel_rfl) (fun W => RN w l (j + 1) 0 0 W ∧ KbA (q2 + 1) W (.int .i64 4) (.slice none 0 0) (.string ⟨#[]⟩) (.slice (some ⟨q2, 0, none⟩) 1 1) (.int .i64 (0)) (.int .i64 (-1)) ∧ NG (fun k => w.heap.size + 1 + 1 < k) W (.node 4 [] [] [t] (0) (-1)) (.agg #[.int .i64 4, .slice none 0 0, .string ⟨#[]⟩, .slice (some ⟨q2, 0, none⟩) 1 1, .int .i64 (0), .int .i64 (-1)])) (RkN w l (j + 1) 0 0 (.node 4 [] [] [t] (0) (-1))) (GvK w l (j + 1) 0 0 (.node 4 [] [] [t] (0) (-1))) (GvK.keep w l (j + 1) 0 0 (.node 4 [] [] [t] (0) (-1))) ?_ ?_ ⟨rfl, rfl, fun s v hs => ?_, HN4.out.go (Below.refl _ _).drew, HM4.out, NG.go (Stay.drew _) _ _ HT4.out⟩
   case refine_1 =>
    intro k o ho ac W hB hd K hK
    have hk5 : k < 4 := (Array.getElem?_eq_some_iff.1 ho).1
    have hs1 : ac.tmps.getD 1 undef = .pointer (some ⟨w.heap.size, 0, none⟩) := hB.fixed 1 _ (by simp)
    have hs2 : ac.tmps.getD 2 undef = .pointer (some ⟨w.heap.size + 1, 0, none⟩) := hB.fixed 2 _ (by simp)
    have hs3 : ac.tmps.getD 3 undef = .pointer (some ⟨w.heap.size + 1 + 1, 0, none⟩) := hB.fixed 3 _ (by simp)
    have hs5 : ac.tmps.getD 5 undef = .pointer (some ⟨q2 + 1, 0, none⟩) := hB.fixed 5 _ (by simp)
    obtain ⟨hi, hkb, hng⟩ := hB.inv
    have HIW := Lib.hid hi
    have HKW := Lib.hid hkb
    have HTW := Lib.hid hng
    have HKK := Lib.hid hK
    obtain ⟨⟨c0, c1, c2, c3⟩, f0, f1, f2, f3⟩ := HIW.out.ri.cs
    obtain ⟨⟨ra, rb, rc, rd, r0, r1, r2, r3⟩, g0, g1, g2, g3⟩ := HIW.out.ri.rs
    obtain ⟨⟨na, nb, nc, nd, ne, nf, n0, n1, n2, n3, n4, n5⟩, m0, m1, m2, m3, m4, m5⟩ := HIW.out.ns
    obtain ⟨⟨k0, k1, k2, k3, k4, k5⟩, h0, h1, h2, h3, h4, h5⟩ := HKW.out.cs
    clear hK hB hi hkb hng
    rcases (show k = 0 ∨ k = 1 ∨ k = 2 ∨ k = 3 by omega) with rfl | rfl | rfl | rfl
    ·obtain rfl := Option.some.inj ho
     go_simp
     exact HKK.out _ _ (RkN.refl _ _ _ _ _ _ _) ⟨HIW.out, HKW.out, HTW.out⟩ rfl
    ·obtain rfl := Option.some.inj ho
     go_simp
     exact HKK.out _ _ (RkN.refl _ _ _ _ _ _ _) ⟨HIW.out, HKW.out, HTW.out⟩ ⟨⟨_, _, _, _, _, _, _, _, _, _, rfl⟩, HTW.out⟩
    ·obtain rfl := Option.some.inj ho
     have hd0 : ac.tmps.getD 53 undef = .agg #[.string ⟨l.toArray⟩, .int .i64 ((j + 1 : Nat) : Int), .int .i64 0, .int .i64 0] := hd ⟨0, .data⟩ (by simp) rfl
     obtain ⟨s1, s2, s3, s4⟩ := HIW.out.stpK (.node 4 [] [] [t] (0) (-1))
     have S1 := Lib.hid s1
     have S2 := Lib.hid s2
     have S3 := Lib.hid s3
     have S4 := Lib.hid (show KbA (q2 + 1) _ (.int .i64 4) (.slice none 0 0) (.string ⟨#[]⟩) (.slice (some ⟨q2, 0, none⟩) 1 1) (.int .i64 (0)) (.int .i64 (-1)) from (s4 _ HQ3.out.2).trans HKW.out)
     have S5 := Lib.hid (NG.go s2.1 _ _ HTW.out)
     clear s1 s2 s3 s4
     go_simp
     exact HKK.out undef _ S2.out ⟨S1.out, S4.out, S5.out⟩ S3.out
    ·obtain rfl := Option.some.inj ho
     obtain ⟨⟨opx, rax, rnx, rcx, nmx, kax, knx, kcx, mnx, mxx, hd2⟩, hT3⟩ : NdV w (.node 4 [] [] [t] (0) (-1)) W (ac.tmps.getD 54 undef) := hd ⟨1, .data⟩ (by simp) rfl
     rw [hd2] at hT3
     obtain ⟨s1, s2, s3, s4⟩ := HIW.out.stnK hT3
     have S1 := Lib.hid s1
     have S2 := Lib.hid s2
     have S3 := Lib.hid s3
     have S4 := Lib.hid (show KbA (q2 + 1) _ (.int .i64 4) (.slice none 0 0) (.string ⟨#[]⟩) (.slice (some ⟨q2, 0, none⟩) 1 1) (.int .i64 (0)) (.int .i64 (-1)) from (s4 _ HQ3.out.1).trans HKW.out)
     have S5 := Lib.hid (NG.go s2.1 _ _ HTW.out)
     clear s1 s2 s3 s4 hT3
     go_simp
     exact HKK.out undef _ S2.out ⟨S1.out, S4.out, S5.out⟩ S3.out
   case refine_2 =>
    intro ac W hB hG
    have h2 : PAt w l (j + 1) 0 0 W := hG 2 (by decide)
    have h4 : NdA w (.node 4 [] [] [t] (0) (-1)) W := hG 3 (by decide)
    have hs2 : ac.tmps.getD 2 undef = .pointer (some ⟨w.heap.size + 1, 0, none⟩) := hB.fixed 2 _ (by simp)
    have hs3 : ac.tmps.getD 3 undef = .pointer (some ⟨w.heap.size + 1 + 1, 0, none⟩) := hB.fixed 3 _ (by simp)
    have hbw := hB.inv.1.ri.bl
    have hdf := hB.defers
    obtain ⟨tm, df⟩ := ac
    obtain rfl : df = [] := hdf
    have HR9 := Lib.hid (RN.endK h2 h4 hbw (fn := Tryz.f93) (tmps := tm) rfl hs2 hs3 (r := M) (by rw [HR.out]; exact ⟨⟨rfl, rfl, rfl⟩, rfl, HLE.out⟩))
    clear hB hG h2 h4 hs2 hs3
    go_wp2_with fail
    exact HR9.out
   case refine_3 =>
    simp only [List.mem_cons, Prod.mk.injEq, List.not_mem_nil, or_false] at hs
    rcases hs with ⟨rfl, rfl⟩ | ⟨rfl, rfl⟩ | ⟨rfl, rfl⟩ | ⟨rfl, rfl⟩ <;> rfl
  by_cases h43 : c = 43
  ·subst h43
   have hat := (HP.out 43 (by decide) (by decide)).1 rfl
   have hjlt : j < l.length := Asc.at_lt (by omega)
   have HR := Lib.hid (show M = .ok (.node 4 [] [] [t] (1) (-1), j + 1) by rw [← HMK.out]; unfold repK; rw [hat]; rfl)
   have HLE : Hid (j + 1 ≤ l.length) := Lib.hid hjlt
   clear hat hjlt
   go_upto_region 18 with fail
   obtain ⟨w4, hw4⟩ : ∃ w4, (((w3.setCell ⟨q2 + 1, 4, none⟩ (.int .i64 (1))).setCell ⟨q2 + 1, 5, none⟩ (.int .i64 (-1))).setCell ⟨w.heap.size, 1, none⟩ (.int .i64 ((j : Int) + 1))) = w4 := ⟨_, rfl⟩
   have HN4 : Hid (RN w l (j + 1) 0 0 w4) := Lib.hid (by rw [← hw4]; exact (((HN3.out.oth HLB.out.1 4 (.int .i64 (1))).oth HLB.out.1 5 (.int .i64 (-1))).to (j + 1)))
   have HM4 : Hid (KbA (q2 + 1) w4 (.int .i64 4) (.slice none 0 0) (.string ⟨#[]⟩) (.slice (some ⟨q2, 0, none⟩) 1 1) (.int .i64 (1)) (.int .i64 (-1))) := Lib.hid (by rw [← hw4]; exact (((HM3.out.s4 (.int .i64 (1))).s5 (.int .i64 (-1))).oth HLB.out.2 1 (.int .i64 ((j : Int) + 1))))
   have HT4 : Hid (NG (fun k => w.heap.size + 1 + 1 < k) w4 (.node 4 [] [] [t] (1) (-1)) (.agg #[.int .i64 4, .slice none 0 0, .string ⟨#[]⟩, .slice (some ⟨q2, 0, none⟩) 1 1, .int .i64 (1), .int .i64 (-1)])) := Lib.hid (by rw [← hw4]; exact NG.rep (((HW3.out.mv (FX.set _ (q2 + 1) 4 (.int .i64 (1)))).mv (FX.set _ (q2 + 1) 5 (.int .i64 (-1)))).mv (FX.low _ (q2 + 1) w.heap.size 1 (.int .i64 ((j : Int) + 1)) (Nat.le_refl _))) (1) (-1))
   rw [hw4]
   clear hw4 HN3 HK3 HM3 HW3 HT3 c0 c1 c2 c3 f0 f1 f2 f3 r0 r1 r2 r3 g0 g1 g2 g3 n0 n1 n2 n3 n4 n5 m0 m1 m2 m3 m4 m5 k0 k1 k2 k3 k4 k5 h0 h1 h2 h3 h4 h5 p0 p1 p2 p3 p4 p5 o0 o1 o2 o3 o4 o5
   refine wp_region_slotsB (by rfl) (by kernel_rfl) (by kernel_rfl) 55 [] [(1, .pointer (some ⟨w.heap.size, 0, none⟩)), (2, .pointer (some ⟨w.heap.size + 1, 0, none⟩)), (3, .pointer (some ⟨w.heap.size + 1 + 1, 0, none⟩)), (5, .pointer (some ⟨q2 + 1, 0, none⟩))] (by kernel_rfl) (fun W => RN w l (j + 1) 0 0 W ∧ KbA (q2 + 1) W (.int .i64 4) (.slice none 0 0) (.string ⟨#[]⟩) (.slice (some ⟨q2, 0, none⟩) 1 1) (.int .i64 (1)) (.int .i64 (-1)) ∧ NG (fun k => w.heap.size + 1 + 1 < k) W (.node 4 [] [] [t] (1) (-1)) (.agg #[.int .i64 4, .slice none 0 0, .string ⟨#[]⟩, .slice (some ⟨q2, 0, none⟩) 1 1, .int .i64 (1), .int .i64 (-1)])) (RkN w l (j + 1) 0 0 (.node 4 [] [] [t] (1) (-1))) (GvK w l (j + 1) 0 0 (.node 4 [] [] [t] (1) (-1))) (GvK.keep w l (j + 1) 0 0 (.node 4 [] [] [t] (1) (-1))) ?_ ?_ ⟨rfl, rfl, fun s v hs => ?_, HN4.out.go (Below.refl _ _).drew, HM4.out, NG.go (Stay.drew _) _ _ HT4.out⟩
   case refine_1 =>
    intro k o ho ac W hB hd K hK
    have hk5 : k < 4 := (Array.getElem?_eq_some_iff.1 ho).1
    have hs1 : ac.tmps.getD 1 undef = .pointer (some ⟨w.heap.size, 0, none⟩) := hB.fixed 1 _ (by simp)
    have hs2 : ac.tmps.getD 2 undef = .pointer (some ⟨w.heap.size + 1, 0, none⟩) := hB.fixed 2 _ (by simp)
    have hs3 : ac.tmps.getD 3 undef = .pointer (some ⟨w.heap.size + 1 + 1, 0, none⟩) := hB.fixed 3 _ (by simp)
    have hs5 : ac.tmps.getD 5 undef = .pointer (some ⟨q2 + 1, 0, none⟩) := hB.fixed 5 _ (by simp)
    obtain ⟨hi, hkb, hng⟩ := hB.inv
    have HIW := Lib.hid hi
    have HKW := Lib.hid hkb
    have HTW := Lib.hid hng
    have HKK := Lib.hid hK
    obtain ⟨⟨c0, c1, c2, c3⟩, f0, f1, f2, f3⟩ := HIW.out.ri.cs
    obtain ⟨⟨ra, rb, rc, rd, r0, r1, r2, r3⟩, g0, g1, g2, g3⟩ := HIW.out.ri.rs
    obtain ⟨⟨na, nb, nc, nd, ne, nf, n0, n1, n2, n3, n4, n5⟩, m0, m1, m2, m3, m4, m5⟩ := HIW.out.ns
    obtain ⟨⟨k0, k1, k2, k3, k4, k5⟩, h0, h1, h2, h3, h4, h5⟩ := HKW.out.cs
    clear hK hB hi hkb hng
    rcases (show k = 0 ∨ k = 1 ∨ k = 2 ∨ k = 3 by omega) with rfl | rfl | rfl | rfl
    ·obtain rfl := Option.some.inj ho
     go_simp
     exact HKK.out _ _ (RkN.refl _ _ _ _ _ _ _) ⟨HIW.out, HKW.out, HTW.out⟩ rfl
    ·obtain rfl := Option.some.inj ho
     go_simp
     exact HKK.out _ _ (RkN.refl _ _ _ _ _ _ _) ⟨HIW.out, HKW.out, HTW.out⟩ ⟨⟨_, _, _, _, _, _, _, _, _, _, rfl⟩, HTW.out⟩
    ·obtain rfl := Option.some.inj ho
     have hd0 : ac.tmps.getD 53 undef = .agg #[.string ⟨l.toArray⟩, .int .i64 ((j + 1 : Nat) : Int), .int .i64 0, .int .i64 0] := hd ⟨0, .data⟩ (by simp) rfl
     obtain ⟨s1, s2, s3, s4⟩ := HIW.out.stpK (.node 4 [] [] [t] (1) (-1))
     have S1 := Lib.hid s1
     have S2 := Lib.hid s2
     have S3 := Lib.hid s3
     have S4 := Lib.hid (show KbA (q2 + 1) _ (.int .i64 4) (.slice none 0 0) (.string ⟨#[]⟩) (.slice (some ⟨q2, 0, none⟩) 1 1) (.int .i64 (1)) (.int .i64 (-1)) from (s4 _ HQ3.out.2).trans HKW.out)
     have S5 := Lib.hid (NG.go s2.1 _ _ HTW.out)
     clear s1 s2 s3 s4
     go_simp
     exact HKK.out undef _ S2.out ⟨S1.out, S4.out, S5.out⟩ S3.out
    ·obtain rfl := Option.some.inj ho
     obtain ⟨⟨opx, rax, rnx, rcx, nmx, kax, knx, kcx, mnx, mxx, hd2⟩, hT3⟩ : NdV w (.node 4 [] [] [t] (1) (-1)) W (ac.tmps.getD 54 undef) := hd ⟨1, .data⟩ (by simp) rfl
     rw [hd2] at hT3
     obtain ⟨s1, s2, s3, s4⟩ := HIW.out.stnK hT3
     have S1 := Lib.hid s1
     have S2 := Lib.hid s2
     have S3 := Lib.hid s3
     have S4 := Lib.hid (show KbA (q2 + 1) _ (.int .i64 4) (.slice none 0 0) (.string ⟨#[]⟩) (.slice (some ⟨q2, 0, none⟩) 1 1) (.int .i64 (1)) (.int .i64 (-1)) from (s4 _ HQ3.out.1).trans HKW.out)
     have S5 := Lib.hid (NG.go s2.1 _ _ HTW.out)
     clear s1 s2 s3 s4 hT3
     go_simp
     exact HKK.out undef _ S2.out ⟨S1.out, S4.out, S5.out⟩ S3.out
   case refine_2 =>
    intro ac W hB hG
    have h2 : PAt w l (j + 1) 0 0 W := hG 2 (by decide)
    have h4 : NdA w (.node 4 [] [] [t] (1) (-1)) W := hG 3 (by decide)
    have hs2 : ac.tmps.getD 2 undef = .pointer (some ⟨w.heap.size + 1, 0, none⟩) := hB.fixed 2 _ (by simp)
    have hs3 : ac.tmps.getD 3 undef = .pointer (some ⟨w.heap.size + 1 + 1, 0, none⟩) := hB.fixed 3 _ (by simp)
    have hbw := hB.inv.1.ri.bl
    have hdf := hB.defers
    obtain ⟨tm, df⟩ := ac
    obtain rfl : df = [] := hdf
    have HR9 := Lib.hid (RN.endK h2 h4 hbw (fn := Tryz.f93) (tmps := tm) rfl hs2 hs3 (r := M) (by rw [HR.out]; exact ⟨⟨rfl, rfl, rfl⟩, rfl, HLE.out⟩))
    clear hB hG h2 h4 hs2 hs3
    go_wp2_with fail
    exact HR9.out
   case refine_3 =>
    simp only [List.mem_cons, Prod.mk.injEq, List.not_mem_nil, or_false] at hs
    rcases hs with ⟨rfl, rfl⟩ | ⟨rfl, rfl⟩ | ⟨rfl, rfl⟩ | ⟨rfl, rfl⟩ <;> rfl
  by_cases h63 : c = 63
  ·subst h63
   have hat := (HP.out 63 (by decide) (by decide)).1 rfl
   have hjlt : j < l.length := Asc.at_lt (by omega)
   have HR := Lib.hid (show M = .ok (.node 4 [] [] [t] (0) (1), j + 1) by rw [← HMK.out]; unfold repK; rw [hat]; rfl)
   have HLE : Hid (j + 1 ≤ l.length) := Lib.hid hjlt
   clear hat hjlt
   go_upto_region 18 with fail
   obtain ⟨w4, hw4⟩ : ∃ w4, ((w3.setCell ⟨q2 + 1, 5, none⟩ (.int .i64 (1))).setCell ⟨w.heap.size, 1, none⟩ (.int .i64 ((j : Int) + 1))) = w4 := ⟨_, rfl⟩
   have HN4 : Hid (RN w l (j + 1) 0 0 w4) := Lib.hid (by rw [← hw4]; exact ((HN3.out.oth HLB.out.1 5 (.int .i64 (1))).to (j + 1)))
   have HM4 : Hid (KbA (q2 + 1) w4 (.int .i64 4) (.slice none 0 0) (.string ⟨#[]⟩) (.slice (some ⟨q2, 0, none⟩) 1 1) (.int .i64 (0)) (.int .i64 (1))) := Lib.hid (by rw [← hw4]; exact ((HM3.out.s5 (.int .i64 (1))).oth HLB.out.2 1 (.int .i64 ((j : Int) + 1))))
   have HT4 : Hid (NG (fun k => w.heap.size + 1 + 1 < k) w4 (.node 4 [] [] [t] (0) (1)) (.agg #[.int .i64 4, .slice none 0 0, .string ⟨#[]⟩, .slice (some ⟨q2, 0, none⟩) 1 1, .int .i64 (0), .int .i64 (1)])) := Lib.hid (by rw [← hw4]; exact NG.rep ((HW3.out.mv (FX.set _ (q2 + 1) 5 (.int .i64 (1)))).mv (FX.low _ (q2 + 1) w.heap.size 1 (.int .i64 ((j : Int) + 1)) (Nat.le_refl _))) (0) (1))
   rw [hw4]
   clear hw4 HN3 HK3 HM3 HW3 HT3 c0 c1 c2 c3 f0 f1 f2 f3 r0 r1 r2 r3 g0 g1 g2 g3 n0 n1 n2 n3 n4 n5 m0 m1 m2 m3 m4 m5 k0 k1 k2 k3 k4 k5 h0 h1 h2 h3 h4 h5 p0 p1 p2 p3 p4 p5 o0 o1 o2 o3 o4 o5
   refine wp_region_slotsB (by rfl) (by kernel_rfl) (by kernel_rfl) 55 [] [(1, .pointer (some ⟨w.heap.size, 0, none⟩)), (2, .pointer (some ⟨w.heap.size + 1, 0, none⟩)), (3, .pointer (some ⟨w.heap.size + 1 + 1, 0, none⟩)), (5, .pointer (some ⟨q2 + 1, 0, none⟩))] (by kernel_rfl) (fun W => RN w l (j + 1) 0 0 W ∧ KbA (q2 + 1) W (.int .i64 4) (.slice none 0 0) (.string ⟨#[]⟩) (.slice (some ⟨q2, 0, none⟩) 1 1) (.int .i64 (0)) (.int .i64 (1)) ∧ NG (fun k => w.heap.size + 1 + 1 < k) W (.node 4 [] [] [t] (0) (1)) (.agg #[.int .i64 4, .slice none 0 0, .string ⟨#[]⟩, .slice (some ⟨q2, 0, none⟩) 1 1, .int .i64 (0), .int .i64 (1)])) (RkN w l (j + 1) 0 0 (.node 4 [] [] [t] (0) (1))) (GvK w l (j + 1) 0 0 (.node 4 [] [] [t] (0) (1))) (GvK.keep w l (j + 1) 0 0 (.node 4 [] [] [t] (0) (1))) ?_ ?_ ⟨rfl, rfl, fun s v hs => ?_, HN4.out.go (Below.refl _ _).drew, HM4.out, NG.go (Stay.drew _) _ _ HT4.out⟩
   case refine_1 =>
    intro k o ho ac W hB hd K hK
    have hk5 : k < 4 := (Array.getElem?_eq_some_iff.1 ho).1
    have hs1 : ac.tmps.getD 1 undef = .pointer (some ⟨w.heap.size, 0, none⟩) := hB.fixed 1 _ (by simp)
    have hs2 : ac.tmps.getD 2 undef = .pointer (some ⟨w.heap.size + 1, 0, none⟩) := hB.fixed 2 _ (by simp)
    have hs3 : ac.tmps.getD 3 undef = .pointer (some ⟨w.heap.size + 1 + 1, 0, none⟩) := hB.fixed 3 _ (by simp)
    have hs5 : ac.tmps.getD 5 undef = .pointer (some ⟨q2 + 1, 0, none⟩) := hB.fixed 5 _ (by simp)
    obtain ⟨hi, hkb, hng⟩ := hB.inv
    have HIW := Lib.hid hi
    have HKW := Lib.hid hkb
    have HTW := Lib.hid hng
    have HKK := Lib.hid hK
    obtain ⟨⟨c0, c1, c2, c3⟩, f0, f1, f2, f3⟩ := HIW.out.ri.cs
    obtain ⟨⟨ra, rb, rc, rd, r0, r1, r2, r3⟩, g0, g1, g2, g3⟩ := HIW.out.ri.rs
    obtain ⟨⟨na, nb, nc, nd, ne, nf, n0, n1, n2, n3, n4, n5⟩, m0, m1, m2, m3, m4, m5⟩ := HIW.out.ns
    obtain ⟨⟨k0, k1, k2, k3, k4, k5⟩, h0, h1, h2, h3, h4, h5⟩ := HKW.out.cs
    clear hK hB hi hkb hng
    rcases (show k = 0 ∨ k = 1 ∨ k = 2 ∨ k = 3 by omega) with rfl | rfl | rfl | rfl
    ·obtain rfl := Option.some.inj ho
     go_simp
     exact HKK.out _ _ (RkN.refl _ _ _ _ _ _ _) ⟨HIW.out, HKW.out, HTW.out⟩ rfl
    ·obtain rfl := Option.some.inj ho
     go_simp
     exact HKK.out _ _ (RkN.refl _ _ _ _ _ _ _) ⟨HIW.out, HKW.out, HTW.out⟩ ⟨⟨_, _, _, _, _, _, _, _, _, _, rfl⟩, HTW.out⟩
    ·obtain rfl := Option.some.inj ho
     have hd0 : ac.tmps.getD 53 undef = .agg #[.string ⟨l.toArray⟩, .int .i64 ((j + 1 : Nat) : Int), .int .i64 0, .int .i64 0] := hd ⟨0, .data⟩ (by simp) rfl
     obtain ⟨s1, s2, s3, s4⟩ := HIW.out.stpK (.node 4 [] [] [t] (0) (1))
     have S1 := Lib.hid s1
     have S2 := Lib.hid s2
     have S3 := Lib.hid s3
     have S4 := Lib.hid (show KbA (q2 + 1) _ (.int .i64 4) (.slice none 0 0) (.string ⟨#[]⟩) (.slice (some ⟨q2, 0, none⟩) 1 1) (.int .i64 (0)) (.int .i64 (1)) from (s4 _ HQ3.out.2).trans HKW.out)
     have S5 := Lib.hid (NG.go s2.1 _ _ HTW.out)
     clear s1 s2 s3 s4
     go_simp
     exact HKK.out undef _ S2.out ⟨S1.out, S4.out, S5.out⟩ S3.out
    ·obtain rfl := Option.some.inj ho
     obtain ⟨⟨opx, rax, rnx, rcx, nmx, kax, knx, kcx, mnx, mxx, hd2⟩, hT3⟩ : NdV w (.node 4 [] [] [t] (0) (1)) W (ac.tmps.getD 54 undef) := hd ⟨1, .data⟩ (by simp) rfl
     rw [hd2] at hT3
     obtain ⟨s1, s2, s3, s4⟩ := HIW.out.stnK hT3
     have S1 := Lib.hid s1
     have S2 := Lib.hid s2
     have S3 := Lib.hid s3
     have S4 := Lib.hid (show KbA (q2 + 1) _ (.int .i64 4) (.slice none 0 0) (.string ⟨#[]⟩) (.slice (some ⟨q2, 0, none⟩) 1 1) (.int .i64 (0)) (.int .i64 (1)) from (s4 _ HQ3.out.1).trans HKW.out)
     have S5 := Lib.hid (NG.go s2.1 _ _ HTW.out)
     clear s1 s2 s3 s4 hT3
     go_simp
     exact HKK.out undef _ S2.out ⟨S1.out, S4.out, S5.out⟩ S3.out
   case refine_2 =>
    intro ac W hB hG
    have h2 : PAt w l (j + 1) 0 0 W := hG 2 (by decide)
    have h4 : NdA w (.node 4 [] [] [t] (0) (1)) W := hG 3 (by decide)
    have hs2 : ac.tmps.getD 2 undef = .pointer (some ⟨w.heap.size + 1, 0, none⟩) := hB.fixed 2 _ (by simp)
    have hs3 : ac.tmps.getD 3 undef = .pointer (some ⟨w.heap.size + 1 + 1, 0, none⟩) := hB.fixed 3 _ (by simp)
    have hbw := hB.inv.1.ri.bl
    have hdf := hB.defers
    obtain ⟨tm, df⟩ := ac
    obtain rfl : df = [] := hdf
    have HR9 := Lib.hid (RN.endK h2 h4 hbw (fn := Tryz.f93) (tmps := tm) rfl hs2 hs3 (r := M) (by rw [HR.out]; exact ⟨⟨rfl, rfl, rfl⟩, rfl, HLE.out⟩))
    clear hB hG h2 h4 hs2 hs3
    go_wp2_with fail
    exact HR9.out
   case refine_3 =>
    simp only [List.mem_cons, Prod.mk.injEq, List.not_mem_nil, or_false] at hs
    rcases hs with ⟨rfl, rfl⟩ | ⟨rfl, rfl⟩ | ⟨rfl, rfl⟩ | ⟨rfl, rfl⟩ <;> rfl
  have z42 : ((c : Int) == 42) = false := by rw [beq_eq_false_iff_ne]; omega
  have z43 : ((c : Int) == 43) = false := by rw [beq_eq_false_iff_ne]; omega
  have z63 : ((c : Int) == 63) = false := by rw [beq_eq_false_iff_ne]; omega
  by_cases h123 : c = 123
  ·subst h123
   have hat := (HP.out 123 (by decide) (by decide)).1 rfl
   have hjlt : j < l.length := Asc.at_lt (by omega)
   have HMB : Hid (M = match boundsM l (j + 1) with | .error x => .error x | .ok ((lo, hi), k) => .ok (.node 4 [] [] [t] lo hi, k)) := Lib.hid (by rw [← HMK.out]; unfold repK; rw [hat]; rfl)
   have HBD := Lib.hid fun W => rbounds_any l (j + 1) hl hjlt W
   rw [show ((j + 1 : Nat) : Int) = (j : Int) + 1 from rfl] at HBD
   clear hat hjlt h42 h43 h63
   go_wp2_with fail
   refine (HBD.out _).mono ?_
   rintro e w5 ⟨m, e2, bad2, lo, hi, rfl, hb, hr⟩
   have HN5 := Lib.hid ((HN3.out.to (j + 1)).go hb)
   have HM5 := Lib.hid ((HM3.out.oth HLB.out.2 1 (.int .i64 ((j : Int) + 1))).on hb (by simpa using HM3.out.lt))
   have HW5 := Lib.hid ((HW3.out.mv (FX.low _ (q2 + 1) w.heap.size 1 (.int .i64 ((j : Int) + 1)) (Nat.le_refl _))).mv (FX.on (q2 + 1) hb))
   clear hb HN3 HK3 HM3 HW3 HT3 c0 c1 c2 c3 f0 f1 f2 f3 r0 r1 r2 r3 g0 g1 g2 g3 n0 n1 n2 n3 n4 n5 m0 m1 m2 m3 m4 m5 k0 k1 k2 k3 k4 k5 h0 h1 h2 h3 h4 h5 p0 p1 p2 p3 p4 p5 o0 o1 o2 o3 o4 o5
   obtain ⟨⟨c0, c1, c2, c3⟩, f0, f1, f2, f3⟩ := HN5.out.ri.cs
   obtain ⟨⟨ra, rb, rc, rd, r0, r1, r2, r3⟩, g0, g1, g2, g3⟩ := HN5.out.ri.rs
   obtain ⟨⟨na, nb, nc, nd, ne, nf, n0, n1, n2, n3, n4, n5⟩, m0, m1, m2, m3, m4, m5⟩ := HN5.out.ns
   obtain ⟨⟨p0, p1, p2, p3, p4, p5⟩, o0, o1, o2, o3, o4, o5⟩ := HM5.out.cs
   go_upto_region 16 with fail
   obtain ⟨w4, hw4⟩ : ∃ w4, ((((((w5.setCell ⟨w.heap.size, 0, none⟩ (.string ⟨l.toArray⟩)).setCell ⟨w.heap.size, 1, none⟩ (.int .i64 (m : Int))).setCell ⟨w.heap.size, 2, none⟩ (.int .i64 (e2 : Int))).setCell ⟨w.heap.size, 3, none⟩ (.int .i64 (bad2 : Int)))).setCell ⟨q2 + 1, 4, none⟩ (.int .i64 lo)).setCell ⟨q2 + 1, 5, none⟩ (.int .i64 hi) = w4 := ⟨_, rfl⟩
   have HN4 : Hid (RN w l m e2 bad2 w4) := Lib.hid (by rw [← hw4]; exact ((HN5.out.put m e2 bad2).oth HLB.out.1 4 (.int .i64 lo)).oth HLB.out.1 5 (.int .i64 hi))
   have HM4 : Hid (KbA (q2 + 1) w4 (.int .i64 4) (.slice none 0 0) (.string ⟨#[]⟩) (.slice (some ⟨q2, 0, none⟩) 1 1) (.int .i64 (lo)) (.int .i64 (hi))) := Lib.hid (by rw [← hw4]; exact ((HM5.out.nest HLB.out.2).s4 (.int .i64 lo)).s5 (.int .i64 hi))
   have HT4 : Hid (NG (fun k => w.heap.size + 1 + 1 < k) w4 (.node 4 [] [] [t] (lo) (hi)) (.agg #[.int .i64 4, .slice none 0 0, .string ⟨#[]⟩, .slice (some ⟨q2, 0, none⟩) 1 1, .int .i64 (lo), .int .i64 (hi)])) := Lib.hid (by rw [← hw4]; exact NG.rep ((((((HW5.out.mv (FX.low _ (q2 + 1) w.heap.size 0 _ (Nat.le_refl _))).mv (FX.low _ (q2 + 1) w.heap.size 1 _ (Nat.le_refl _))).mv (FX.low _ (q2 + 1) w.heap.size 2 _ (Nat.le_refl _))).mv (FX.low _ (q2 + 1) w.heap.size 3 _ (Nat.le_refl _))).mv (FX.set _ (q2 + 1) 4 _)).mv (FX.set _ (q2 + 1) 5 _)) lo hi)
   rw [hw4]
   clear hw4 HN5 HM5 HW5 c0 c1 c2 c3 f0 f1 f2 f3 r0 r1 r2 r3 g0 g1 g2 g3 n0 n1 n2 n3 n4 n5 m0 m1 m2 m3 m4 m5 p0 p1 p2 p3 p4 p5 o0 o1 o2 o3 o4 o5
   cases hq : boundsM l (j + 1) with
   | error kx =>
    obtain ⟨k, x⟩ := kx
    rw [hq] at hr HMB
    obtain ⟨⟨rfl, hx0, rfl⟩, hm⟩ := hr
    have HR := Lib.hid (show M = .error (bad2, e2) from HMB.out)
    have HE := Lib.hid hx0
    clear hq hx0
    refine wp_region_slotsB (by rfl) (by kernel_rfl) (by kernel_rfl) 55 [] [(1, .pointer (some ⟨w.heap.size, 0, none⟩)), (2, .pointer (some ⟨w.heap.size + 1, 0, none⟩)), (3, .pointer (some ⟨w.heap.size + 1 + 1, 0, none⟩)), (5, .pointer (some ⟨q2 + 1, 0, none⟩))] (by kernel_rfl) (fun W => RN w l (m) e2 bad2 W ∧ KbA (q2 + 1) W (.int .i64 4) (.slice none 0 0) (.string ⟨#[]⟩) (.slice (some ⟨q2, 0, none⟩) 1 1) (.int .i64 (lo)) (.int .i64 (hi)) ∧ NG (fun k => w.heap.size + 1 + 1 < k) W (.node 4 [] [] [t] (lo) (hi)) (.agg #[.int .i64 4, .slice none 0 0, .string ⟨#[]⟩, .slice (some ⟨q2, 0, none⟩) 1 1, .int .i64 (lo), .int .i64 (hi)])) (RkN w l (m) e2 bad2 (.node 4 [] [] [t] (lo) (hi))) (GvK w l (m) e2 bad2 (.node 4 [] [] [t] (lo) (hi))) (GvK.keep w l (m) e2 bad2 (.node 4 [] [] [t] (lo) (hi))) ?_ ?_ ⟨rfl, rfl, fun s v hs => ?_, HN4.out.go (Below.refl _ _).drew, HM4.out, NG.go (Stay.drew _) _ _ HT4.out⟩
    case refine_1 =>
     intro k o ho ac W hB hd K hK
     have hk5 : k < 4 := (Array.getElem?_eq_some_iff.1 ho).1
     have hs1 : ac.tmps.getD 1 undef = .pointer (some ⟨w.heap.size, 0, none⟩) := hB.fixed 1 _ (by simp)
     have hs2 : ac.tmps.getD 2 undef = .pointer (some ⟨w.heap.size + 1, 0, none⟩) := hB.fixed 2 _ (by simp)
     have hs3 : ac.tmps.getD 3 undef = .pointer (some ⟨w.heap.size + 1 + 1, 0, none⟩) := hB.fixed 3 _ (by simp)
     have hs5 : ac.tmps.getD 5 undef = .pointer (some ⟨q2 + 1, 0, none⟩) := hB.fixed 5 _ (by simp)
     obtain ⟨hi, hkb, hng⟩ := hB.inv
     have HIW := Lib.hid hi
     have HKW := Lib.hid hkb
     have HTW := Lib.hid hng
     have HKK := Lib.hid hK
     obtain ⟨⟨c0, c1, c2, c3⟩, f0, f1, f2, f3⟩ := HIW.out.ri.cs
     obtain ⟨⟨ra, rb, rc, rd, r0, r1, r2, r3⟩, g0, g1, g2, g3⟩ := HIW.out.ri.rs
     obtain ⟨⟨na, nb, nc, nd, ne, nf, n0, n1, n2, n3, n4, n5⟩, m0, m1, m2, m3, m4, m5⟩ := HIW.out.ns
     obtain ⟨⟨k0, k1, k2, k3, k4, k5⟩, h0, h1, h2, h3, h4, h5⟩ := HKW.out.cs
     clear hK hB hi hkb hng
     rcases (show k = 0 ∨ k = 1 ∨ k = 2 ∨ k = 3 by omega) with rfl | rfl | rfl | rfl
     ·obtain rfl := Option.some.inj ho
      go_simp
      exact HKK.out _ _ (RkN.refl _ _ _ _ _ _ _) ⟨HIW.out, HKW.out, HTW.out⟩ rfl
     ·obtain rfl := Option.some.inj ho
      go_simp
      exact HKK.out _ _ (RkN.refl _ _ _ _ _ _ _) ⟨HIW.out, HKW.out, HTW.out⟩ ⟨⟨_, _, _, _, _, _, _, _, _, _, rfl⟩, HTW.out⟩
     ·obtain rfl := Option.some.inj ho
      have hd0 : ac.tmps.getD 47 undef = .agg #[.string ⟨l.toArray⟩, .int .i64 ((m : Nat) : Int), .int .i64 (e2 : Int), .int .i64 (bad2 : Int)] := hd ⟨0, .data⟩ (by simp) rfl
      obtain ⟨s1, s2, s3, s4⟩ := HIW.out.stpK (.node 4 [] [] [t] (lo) (hi))
      have S1 := Lib.hid s1
      have S2 := Lib.hid s2
      have S3 := Lib.hid s3
      have S4 := Lib.hid (show KbA (q2 + 1) _ (.int .i64 4) (.slice none 0 0) (.string ⟨#[]⟩) (.slice (some ⟨q2, 0, none⟩) 1 1) (.int .i64 (lo)) (.int .i64 (hi)) from (s4 _ HQ3.out.2).trans HKW.out)
      have S5 := Lib.hid (NG.go s2.1 _ _ HTW.out)
      clear s1 s2 s3 s4
      go_simp
      exact HKK.out undef _ S2.out ⟨S1.out, S4.out, S5.out⟩ S3.out
     ·obtain rfl := Option.some.inj ho
      obtain ⟨⟨opx, rax, rnx, rcx, nmx, kax, knx, kcx, mnx, mxx, hd2⟩, hT3⟩ : NdV w (.node 4 [] [] [t] (lo) (hi)) W (ac.tmps.getD 48 undef) := hd ⟨1, .data⟩ (by simp) rfl
      rw [hd2] at hT3
      obtain ⟨s1, s2, s3, s4⟩ := HIW.out.stnK hT3
      have S1 := Lib.hid s1
      have S2 := Lib.hid s2
      have S3 := Lib.hid s3
      have S4 := Lib.hid (show KbA (q2 + 1) _ (.int .i64 4) (.slice none 0 0) (.string ⟨#[]⟩) (.slice (some ⟨q2, 0, none⟩) 1 1) (.int .i64 (lo)) (.int .i64 (hi)) from (s4 _ HQ3.out.1).trans HKW.out)
      have S5 := Lib.hid (NG.go s2.1 _ _ HTW.out)
      clear s1 s2 s3 s4 hT3
      go_simp
      exact HKK.out undef _ S2.out ⟨S1.out, S4.out, S5.out⟩ S3.out
    case refine_2 =>
     intro ac W hB hG
     have h2 : PAt w l (m) e2 bad2 W := hG 2 (by decide)
     have h4 : NdA w (.node 4 [] [] [t] (lo) (hi)) W := hG 3 (by decide)
     have hs2 : ac.tmps.getD 2 undef = .pointer (some ⟨w.heap.size + 1, 0, none⟩) := hB.fixed 2 _ (by simp)
     have hs3 : ac.tmps.getD 3 undef = .pointer (some ⟨w.heap.size + 1 + 1, 0, none⟩) := hB.fixed 3 _ (by simp)
     have hbw := hB.inv.1.ri.bl
     have hdf := hB.defers
     obtain ⟨tm, df⟩ := ac
     obtain rfl : df = [] := hdf
     have HR9 := Lib.hid (RN.endK h2 h4 hbw (fn := Tryz.f93) (tmps := tm) rfl hs2 hs3 (r := M) (by rw [HR.out]; exact ⟨⟨rfl, HE.out, rfl⟩, by omega⟩))
     clear hB hG h2 h4 hs2 hs3
     go_wp2_with fail
     exact HR9.out
    case refine_3 =>
     simp only [List.mem_cons, Prod.mk.injEq, List.not_mem_nil, or_false] at hs
     rcases hs with ⟨rfl, rfl⟩ | ⟨rfl, rfl⟩ | ⟨rfl, rfl⟩ | ⟨rfl, rfl⟩ <;> rfl
   | ok ab =>
    obtain ⟨⟨a, b⟩, k⟩ := ab
    rw [hq] at hr HMB
    obtain ⟨⟨rfl, rfl, rfl⟩, rfl, rfl, hm⟩ := hr
    have HR := Lib.hid (show M = .ok (.node 4 [] [] [t] lo hi, m) from HMB.out)
    clear hq
    refine wp_region_slotsB (by rfl) (by kernel_rfl) (by kernel_rfl) 55 [] [(1, .pointer (some ⟨w.heap.size, 0, none⟩)), (2, .pointer (some ⟨w.heap.size + 1, 0, none⟩)), (3, .pointer (some ⟨w.heap.size + 1 + 1, 0, none⟩)), (5, .pointer (some ⟨q2 + 1, 0, none⟩))] (by kernel_rfl) (fun W => RN w l (m) 0 0 W ∧ KbA (q2 + 1) W (.int .i64 4) (.slice none 0 0) (.string ⟨#[]⟩) (.slice (some ⟨q2, 0, none⟩) 1 1) (.int .i64 (lo)) (.int .i64 (hi)) ∧ NG (fun k => w.heap.size + 1 + 1 < k) W (.node 4 [] [] [t] (lo) (hi)) (.agg #[.int .i64 4, .slice none 0 0, .string ⟨#[]⟩, .slice (some ⟨q2, 0, none⟩) 1 1, .int .i64 (lo), .int .i64 (hi)])) (RkN w l (m) 0 0 (.node 4 [] [] [t] (lo) (hi))) (GvK w l (m) 0 0 (.node 4 [] [] [t] (lo) (hi))) (GvK.keep w l (m) 0 0 (.node 4 [] [] [t] (lo) (hi))) ?_ ?_ ⟨rfl, rfl, fun s v hs => ?_, HN4.out.go (Below.refl _ _).drew, HM4.out, NG.go (Stay.drew _) _ _ HT4.out⟩
    case refine_1 =>
     intro k o ho ac W hB hd K hK
     have hk5 : k < 4 := (Array.getElem?_eq_some_iff.1 ho).1
     have hs1 : ac.tmps.getD 1 undef = .pointer (some ⟨w.heap.size, 0, none⟩) := hB.fixed 1 _ (by simp)
     have hs2 : ac.tmps.getD 2 undef = .pointer (some ⟨w.heap.size + 1, 0, none⟩) := hB.fixed 2 _ (by simp)
     have hs3 : ac.tmps.getD 3 undef = .pointer (some ⟨w.heap.size + 1 + 1, 0, none⟩) := hB.fixed 3 _ (by simp)
     have hs5 : ac.tmps.getD 5 undef = .pointer (some ⟨q2 + 1, 0, none⟩) := hB.fixed 5 _ (by simp)
     obtain ⟨hi, hkb, hng⟩ := hB.inv
     have HIW := Lib.hid hi
     have HKW := Lib.hid hkb
     have HTW := Lib.hid hng
     have HKK := Lib.hid hK
     obtain ⟨⟨c0, c1, c2, c3⟩, f0, f1, f2, f3⟩ := HIW.out.ri.cs
     obtain ⟨⟨ra, rb, rc, rd, r0, r1, r2, r3⟩, g0, g1, g2, g3⟩ := HIW.out.ri.rs
     obtain ⟨⟨na, nb, nc, nd, ne, nf, n0, n1, n2, n3, n4, n5⟩, m0, m1, m2, m3, m4, m5⟩ := HIW.out.ns
     obtain ⟨⟨k0, k1, k2, k3, k4, k5⟩, h0, h1, h2, h3, h4, h5⟩ := HKW.out.cs
     clear hK hB hi hkb hng
     rcases (show k = 0 ∨ k = 1 ∨ k = 2 ∨ k = 3 by omega) with rfl | rfl | rfl | rfl
     ·obtain rfl := Option.some.inj ho
      go_simp
      exact HKK.out _ _ (RkN.refl _ _ _ _ _ _ _) ⟨HIW.out, HKW.out, HTW.out⟩ rfl
     ·obtain rfl := Option.some.inj ho
      go_simp
      exact HKK.out _ _ (RkN.refl _ _ _ _ _ _ _) ⟨HIW.out, HKW.out, HTW.out⟩ ⟨⟨_, _, _, _, _, _, _, _, _, _, rfl⟩, HTW.out⟩
     ·obtain rfl := Option.some.inj ho
      have hd0 : ac.tmps.getD 47 undef = .agg #[.string ⟨l.toArray⟩, .int .i64 ((m : Nat) : Int), .int .i64 0, .int .i64 0] := hd ⟨0, .data⟩ (by simp) rfl
      obtain ⟨s1, s2, s3, s4⟩ := HIW.out.stpK (.node 4 [] [] [t] (lo) (hi))
      have S1 := Lib.hid s1
      have S2 := Lib.hid s2
      have S3 := Lib.hid s3
      have S4 := Lib.hid (show KbA (q2 + 1) _ (.int .i64 4) (.slice none 0 0) (.string ⟨#[]⟩) (.slice (some ⟨q2, 0, none⟩) 1 1) (.int .i64 (lo)) (.int .i64 (hi)) from (s4 _ HQ3.out.2).trans HKW.out)
      have S5 := Lib.hid (NG.go s2.1 _ _ HTW.out)
      clear s1 s2 s3 s4
      go_simp
      exact HKK.out undef _ S2.out ⟨S1.out, S4.out, S5.out⟩ S3.out
     ·obtain rfl := Option.some.inj ho
      obtain ⟨⟨opx, rax, rnx, rcx, nmx, kax, knx, kcx, mnx, mxx, hd2⟩, hT3⟩ : NdV w (.node 4 [] [] [t] (lo) (hi)) W (ac.tmps.getD 48 undef) := hd ⟨1, .data⟩ (by simp) rfl
      rw [hd2] at hT3
      obtain ⟨s1, s2, s3, s4⟩ := HIW.out.stnK hT3
      have S1 := Lib.hid s1
      have S2 := Lib.hid s2
      have S3 := Lib.hid s3
      have S4 := Lib.hid (show KbA (q2 + 1) _ (.int .i64 4) (.slice none 0 0) (.string ⟨#[]⟩) (.slice (some ⟨q2, 0, none⟩) 1 1) (.int .i64 (lo)) (.int .i64 (hi)) from (s4 _ HQ3.out.1).trans HKW.out)
      have S5 := Lib.hid (NG.go s2.1 _ _ HTW.out)
      clear s1 s2 s3 s4 hT3
      go_simp
      exact HKK.out undef _ S2.out ⟨S1.out, S4.out, S5.out⟩ S3.out
    case refine_2 =>
     intro ac W hB hG
     have h2 : PAt w l (m) 0 0 W := hG 2 (by decide)
     have h4 : NdA w (.node 4 [] [] [t] (lo) (hi)) W := hG 3 (by decide)
     have hs2 : ac.tmps.getD 2 undef = .pointer (some ⟨w.heap.size + 1, 0, none⟩) := hB.fixed 2 _ (by simp)
     have hs3 : ac.tmps.getD 3 undef = .pointer (some ⟨w.heap.size + 1 + 1, 0, none⟩) := hB.fixed 3 _ (by simp)
     have hbw := hB.inv.1.ri.bl
     have hdf := hB.defers
     obtain ⟨tm, df⟩ := ac
     obtain rfl : df = [] := hdf
     have HR9 := Lib.hid (RN.endK h2 h4 hbw (fn := Tryz.f93) (tmps := tm) rfl hs2 hs3 (r := M) (by rw [HR.out]; exact ⟨⟨rfl, rfl, rfl⟩, rfl, hm⟩))
     clear hB hG h2 h4 hs2 hs3
     go_wp2_with fail
     exact HR9.out
    case refine_3 =>
     simp only [List.mem_cons, Prod.mk.injEq, List.not_mem_nil, or_false] at hs
     rcases hs with ⟨rfl, rfl⟩ | ⟨rfl, rfl⟩ | ⟨rfl, rfl⟩ | ⟨rfl, rfl⟩ <;> rfl
  ·have z123 : ((c : Int) == 123) = false := by rw [beq_eq_false_iff_ne]; omega
   have HR := Lib.hid (show M = .ok (t, j) by
    rw [← HMK.out]
    unfold repK
    rw [if_neg (fun h => h42 ((HP.out 42 (by decide) (by decide)).2 h)), if_neg (fun h => h43 ((HP.out 43 (by decide) (by decide)).2 h)), if_neg (fun h => h63 ((HP.out 63 (by decide) (by decide)).2 h)), if_neg (fun h => h123 ((HP.out 123 (by decide) (by decide)).2 h))])
   clear h42 h43 h63 h123
   go_upto_region 6 with fail
   clear HM3 HW3 c0 c1 c2 c3 f0 f1 f2 f3 r0 r1 r2 r3 g0 g1 g2 g3 n0 n1 n2 n3 n4 n5 m0 m1 m2 m3 m4 m5 k0 k1 k2 k3 k4 k5 h0 h1 h2 h3 h4 h5 p0 p1 p2 p3 p4 p5 o0 o1 o2 o3 o4 o5
   refine wp_region_slotsB (by rfl) (by kernel_rfl) (by kernel_rfl) 55 [] [(1, .pointer (some ⟨w.heap.size, 0, none⟩)), (2, .pointer (some ⟨w.heap.size + 1, 0, none⟩)), (3, .pointer (some ⟨w.heap.size + 1 + 1, 0, none⟩)), (4, .pointer (some ⟨qk, 0, none⟩))] (by kernel_rfl) (fun W => RN w l (j) 0 0 W ∧ KbA (qk) W (.int .i64 op1) (.slice ra1 rn1 rc1) (.string ⟨nm1.toArray⟩) (.slice ka1 kn1 kc1) (.int .i64 mn1) (.int .i64 mx1) ∧ NG (fun k => w.heap.size + 1 + 1 < k) W (t) (.agg #[.int .i64 op1, .slice ra1 rn1 rc1, .string ⟨nm1.toArray⟩, .slice ka1 kn1 kc1, .int .i64 mn1, .int .i64 mx1])) (RkN w l (j) 0 0 (t)) (GvK w l (j) 0 0 (t)) (GvK.keep w l (j) 0 0 (t)) ?_ ?_ ⟨rfl, rfl, fun s v hs => ?_, HN3.out.go (Below.refl _ _).drew, HK3.out, NG.go (Stay.drew _) _ _ HT3.out⟩
   case refine_1 =>
    intro k o ho ac W hB hd K hK
    have hk5 : k < 4 := (Array.getElem?_eq_some_iff.1 ho).1
    have hs1 : ac.tmps.getD 1 undef = .pointer (some ⟨w.heap.size, 0, none⟩) := hB.fixed 1 _ (by simp)
    have hs2 : ac.tmps.getD 2 undef = .pointer (some ⟨w.heap.size + 1, 0, none⟩) := hB.fixed 2 _ (by simp)
    have hs3 : ac.tmps.getD 3 undef = .pointer (some ⟨w.heap.size + 1 + 1, 0, none⟩) := hB.fixed 3 _ (by simp)
    have hs5 : ac.tmps.getD 4 undef = .pointer (some ⟨qk, 0, none⟩) := hB.fixed 4 _ (by simp)
    obtain ⟨hi, hkb, hng⟩ := hB.inv
    have HIW := Lib.hid hi
    have HKW := Lib.hid hkb
    have HTW := Lib.hid hng
    have HKK := Lib.hid hK
    obtain ⟨⟨c0, c1, c2, c3⟩, f0, f1, f2, f3⟩ := HIW.out.ri.cs
    obtain ⟨⟨ra, rb, rc, rd, r0, r1, r2, r3⟩, g0, g1, g2, g3⟩ := HIW.out.ri.rs
    obtain ⟨⟨na, nb, nc, nd, ne, nf, n0, n1, n2, n3, n4, n5⟩, m0, m1, m2, m3, m4, m5⟩ := HIW.out.ns
    obtain ⟨⟨k0, k1, k2, k3, k4, k5⟩, h0, h1, h2, h3, h4, h5⟩ := HKW.out.cs
    clear hK hB hi hkb hng
    rcases (show k = 0 ∨ k = 1 ∨ k = 2 ∨ k = 3 by omega) with rfl | rfl | rfl | rfl
    ·obtain rfl := Option.some.inj ho
     go_simp
     exact HKK.out _ _ (RkN.refl _ _ _ _ _ _ _) ⟨HIW.out, HKW.out, HTW.out⟩ rfl
    ·obtain rfl := Option.some.inj ho
     go_simp
     exact HKK.out _ _ (RkN.refl _ _ _ _ _ _ _) ⟨HIW.out, HKW.out, HTW.out⟩ ⟨⟨_, _, _, _, _, _, _, _, _, _, rfl⟩, HTW.out⟩
    ·obtain rfl := Option.some.inj ho
     have hd0 : ac.tmps.getD 21 undef = .agg #[.string ⟨l.toArray⟩, .int .i64 ((j : Nat) : Int), .int .i64 0, .int .i64 0] := hd ⟨0, .data⟩ (by simp) rfl
     obtain ⟨s1, s2, s3, s4⟩ := HIW.out.stpK (t)
     have S1 := Lib.hid s1
     have S2 := Lib.hid s2
     have S3 := Lib.hid s3
     have S4 := Lib.hid (show KbA (qk) _ (.int .i64 op1) (.slice ra1 rn1 rc1) (.string ⟨nm1.toArray⟩) (.slice ka1 kn1 kc1) (.int .i64 mn1) (.int .i64 mx1) from (s4 _ HQK.out.2).trans HKW.out)
     have S5 := Lib.hid (NG.go s2.1 _ _ HTW.out)
     clear s1 s2 s3 s4
     go_simp
     exact HKK.out undef _ S2.out ⟨S1.out, S4.out, S5.out⟩ S3.out
    ·obtain rfl := Option.some.inj ho
     obtain ⟨⟨opx, rax, rnx, rcx, nmx, kax, knx, kcx, mnx, mxx, hd2⟩, hT3⟩ : NdV w (t) W (ac.tmps.getD 22 undef) := hd ⟨1, .data⟩ (by simp) rfl
     rw [hd2] at hT3
     obtain ⟨s1, s2, s3, s4⟩ := HIW.out.stnK hT3
     have S1 := Lib.hid s1
     have S2 := Lib.hid s2
     have S3 := Lib.hid s3
     have S4 := Lib.hid (show KbA (qk) _ (.int .i64 op1) (.slice ra1 rn1 rc1) (.string ⟨nm1.toArray⟩) (.slice ka1 kn1 kc1) (.int .i64 mn1) (.int .i64 mx1) from (s4 _ HQK.out.1).trans HKW.out)
     have S5 := Lib.hid (NG.go s2.1 _ _ HTW.out)
     clear s1 s2 s3 s4 hT3
     go_simp
     exact HKK.out undef _ S2.out ⟨S1.out, S4.out, S5.out⟩ S3.out
   case refine_2 =>
    intro ac W hB hG
    have h2 : PAt w l (j) 0 0 W := hG 2 (by decide)
    have h4 : NdA w (t) W := hG 3 (by decide)
    have hs2 : ac.tmps.getD 2 undef = .pointer (some ⟨w.heap.size + 1, 0, none⟩) := hB.fixed 2 _ (by simp)
    have hs3 : ac.tmps.getD 3 undef = .pointer (some ⟨w.heap.size + 1 + 1, 0, none⟩) := hB.fixed 3 _ (by simp)
    have hbw := hB.inv.1.ri.bl
    have hdf := hB.defers
    obtain ⟨tm, df⟩ := ac
    obtain rfl : df = [] := hdf
    have HR9 := Lib.hid (RN.endK h2 h4 hbw (fn := Tryz.f93) (tmps := tm) rfl hs2 hs3 (r := M) (by rw [HR.out]; exact ⟨⟨rfl, rfl, rfl⟩, rfl, hjl⟩))
    clear hB hG h2 h4 hs2 hs3
    go_wp2_with fail
    exact HR9.out
   case refine_3 =>
    simp only [List.mem_cons, Prod.mk.injEq, List.not_mem_nil, or_false] at hs
    rcases hs with ⟨rfl, rfl⟩ | ⟨rfl, rfl⟩ | ⟨rfl, rfl⟩ | ⟨rfl, rfl⟩ <;> rfl
end Go.Proofs.YtgcpinnnfoanjaaGreatDoor

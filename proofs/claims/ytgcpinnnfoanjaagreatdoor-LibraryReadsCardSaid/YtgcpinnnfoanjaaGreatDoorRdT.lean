/-
 Joined: RpP, RpQ.
-/
import Derived.Test.YtgcpinnnfoanjaaGreatDoorRdS
import Derived.Test.YtgcpinnnfoanjaaGreatDoorRdK
namespace Go.Proofs.YtgcpinnnfoanjaaGreatDoor
open Go.RowKit
section
variable {w : World} {l : List UInt8} {i j e bad : Nat} {t : NT} {W W' : World}
theorem RN.kidG (_h : RN w l i e bad W) {x y z u v s : Value} (hT : NG (fun k => w.heap.size + 1 + 1 < k) W t (.agg #[x, y, z, u, v, s])) (j' e' bad' : Nat) : NG (fun k => w.heap.size + 1 + 1 < k ∧ k ≠ W.heap.size) (((((W.setCell ⟨w.heap.size, 0, none⟩ (.string ⟨l.toArray⟩)).setCell ⟨w.heap.size, 1, none⟩ (.int .i64 (j' : Int))).setCell ⟨w.heap.size, 2, none⟩ (.int .i64 (e' : Int))).setCell ⟨w.heap.size, 3, none⟩ (.int .i64 (bad' : Int))).alloc (.cells #[x, y, z, u, v, s] 38)) t (.agg #[x, y, z, u, v, s]) := by
 obtain ⟨P, hP⟩ : ∃ P, ((((W.setCell ⟨w.heap.size, 0, none⟩ (.string ⟨l.toArray⟩)).setCell ⟨w.heap.size, 1, none⟩ (.int .i64 (j' : Int))).setCell ⟨w.heap.size, 2, none⟩ (.int .i64 (e' : Int))).setCell ⟨w.heap.size, 3, none⟩ (.int .i64 (bad' : Int))) = P := ⟨_, rfl⟩
 have hsz : P.heap.size = W.heap.size := by rw [← hP]; simp
 have hk : ∀ k, k ≠ w.heap.size → P.heap[k]? = W.heap[k]? := fun k hk => by
  rw [← hP, heap_setCell_other _ _ _ _ (by simpa using hk), heap_setCell_other _ _ _ _ (by simpa using hk), heap_setCell_other _ _ _ _ (by simpa using hk), heap_setCell_other _ _ _ _ (by simpa using hk)]
 rw [hP]
 exact NG.go ⟨by simp [hsz], fun k h1 h2 => ⟨⟨h1, by omega⟩, ((al_below P _).block k (by omega)).trans (hk k (by omega))⟩⟩ _ _ hT
theorem QL.lit {q : Nat} {x y z u s r : Value} (h : RN w l j e bad W) (hk : KbA q W x y z u s r) (hq : w.heap.size + 1 + 1 < q) (hT : NG (fun k => w.heap.size + 1 + 1 < k ∧ k ≠ q) W t (.agg #[x, y, z, u, s, r])) :
  QL (fun k => w.heap.size + 1 + 1 < k ∧ k ≠ q) (q + 1) w l j e bad [t] (.slice (some ⟨W.heap.size, 0, none⟩) 1 1) (W.alloc (.cells #[x, y, z, u, s, r] 38)) := by
 have hl := hk.lt
 refine ⟨h.go (al_below W _), OR.lit W t [x, y, z, u, s, r] hl rfl (KR.go ⟨(al_below W _).size, fun k hk hl => ⟨⟨hk, fun e => ?_⟩, (al_below W _).block k hl⟩⟩ _ _ hT), fun k hk => hk.1, by omega, by simp; omega⟩
 simp only [Value.ownBlock, Option.some.injEq] at e
 omega
end
def AlI (ch : Nat → Out NT) (l : List UInt8) (R : Out NT) (k e bad : Nat) (ts : List NT) : Prop := k ≤ 2000 ∧ ((e = 0 ∧ bad = 0 ∧ k ≤ l.length ∧ ∃ n, l.length < k + n ∧ altL ch l n k ts = R) ∨ (e ≠ 0 ∧ R = .error (bad, e)))
theorem AlI.stop {ch : Nat → Out NT} {l : List UInt8} {R : Out NT} {k e bad : Nat} {ts : List NT} (h : AlI ch l R k e bad ts) (hs : e ≠ 0 ∨ Asc.at_ l k ≠ 124) : EndR l R (joinT 3 ts) k e bad := by
 obtain ⟨hk, ⟨rfl, rfl, hkl, n, hn, hr⟩ | ⟨he, hr⟩⟩ := h
 ·cases n with
  | zero => omega
  | succ n =>
   rw [altL, if_neg (by rcases hs with h | h; exact absurd rfl h; exact h)] at hr
   rw [← hr]
   exact ⟨⟨rfl, rfl, rfl⟩, rfl, hkl⟩
 ·rw [hr]
  exact ⟨⟨rfl, he, rfl⟩, hk⟩
theorem AlI.next {ch : Nat → Out NT} {l : List UInt8} {R : Out NT} {k : Nat} {ts : List NT} (h : AlI ch l R k 0 0 ts) (hl : l.length ≤ 1000) (hc : Goes ch) (hs : Asc.at_ l k = 124) {t : NT} {j e bad : Nat} (hf : EndR l (catM ch l (k + 1)) t j e bad) : AlI ch l R j e bad (ts ++ [t]) ∧ (e = 0 → k < j) := by
 obtain ⟨hk, ⟨_, _, hkl, n, hn, hr⟩ | ⟨he, hr⟩⟩ := h
 ·cases n with
  | zero => omega
  | succ n =>
   rw [altL, if_pos hs] at hr
   cases hm : catM ch l (k + 1) with
   | error kx =>
    obtain ⟨k', x⟩ := kx
    rw [hm] at hf hr
    obtain ⟨⟨rfl, hx, rfl⟩, hj⟩ := hf
    exact ⟨⟨hj, .inr ⟨hx, hr.symm⟩⟩, fun h => absurd h hx⟩
   | ok tj =>
    obtain ⟨t', j'⟩ := tj
    rw [hm] at hf hr
    obtain ⟨⟨rfl, rfl, rfl⟩, rfl, hj⟩ := hf
    have hlt := catM_le hc hm
    exact ⟨⟨by omega, .inl ⟨rfl, rfl, hj, n, by omega, hr⟩⟩, fun _ => by omega⟩
 ·exact absurd rfl he
theorem AlI.start {ch : Nat → Out NT} {l : List UInt8} {i : Nat} (hl : l.length ≤ 1000) {t : NT} {j e bad : Nat} (hf : EndR l (catM ch l i) t j e bad) : AlI ch l (choB ch l i) j e bad [t] := by
 unfold choB
 cases hm : catM ch l i with
 | error kx =>
  obtain ⟨k', x⟩ := kx
  rw [hm] at hf
  obtain ⟨⟨rfl, hx, rfl⟩, hj⟩ := hf
  exact ⟨hj, .inr ⟨hx, rfl⟩⟩
 | ok tj =>
  obtain ⟨t', j'⟩ := tj
  rw [hm] at hf
  obtain ⟨⟨rfl, rfl, rfl⟩, rfl, hj⟩ := hf
  exact ⟨by omega, .inl ⟨rfl, rfl, hj, l.length + 1, by omega, rfl⟩⟩
set_option maxHeartbeats 16000000 in
set_option maxRecDepth 1000000 in
theorem rcho_any (l : List UInt8) (ch : Nat → Out NT) (hl : l.length ≤ 1000) (hc : Goes ch) (i : Nat) (hi : i ≤ l.length) (hcat : ∀ k, i ≤ k → k ≤ l.length → RdR 78 l k (catM ch l k)) : RdR 58 l i (choB ch l i) := by
 intro w
 have HCT := Lib.hid hcat
 have HGO := Lib.hid hc
 have HC0 := Lib.hid (hcat i (Nat.le_refl _) hi)
 have HST := Lib.hid (fun t j e bad => AlI.start (ch := ch) hl (i := i) (t := t) (j := j) (e := e) (bad := bad))
 have HMI := Lib.hid (fun t j (hm : catM ch l i = .ok (t, j)) => catM_le hc hm)
 obtain ⟨R, hR⟩ : ∃ R, choB ch l i = R := ⟨_, rfl⟩
 rw [hR] at HST ⊢
 clear hcat hR hc
 have HN0 : Hid (RN w l i 0 0 (((w.alloc (.cells #[.string ⟨l.toArray⟩, .int .i64 (i : Int), .int .i64 0, .int .i64 0] 111)).alloc (.cells #[.string ⟨#[]⟩, .int .i64 0, .int .i64 0, .int .i64 0] 111)).alloc (.cells #[.int .i64 0, .slice none 0 0, .string ⟨#[]⟩, .slice none 0 0, .int .i64 0, .int .i64 0] 38))) := Lib.hid (RN.start w l i 0 0)
 obtain ⟨i0, hz, hz0, hz1, hz2⟩ := info_parts infoN
 go_enter Tryz.func58, Tryz.ntmps58
 go_wp2_with fail
 refine (HC0.out _).mono ?_
 rintro e9 w1 ⟨j0, e0, b0, t0, v, rfl, hT, hb, hr⟩
 have HI0 := Lib.hid (HST.out t0 j0 e0 b0 hr)
 have HIJ : Hid (e0 = 0 → i ≤ j0) := Lib.hid (fun he => by
  cases hm : catM ch l i with
  | error kx =>
   rw [hm] at hr
   exact absurd (hr.1.1.symm.trans he) hr.1.2.1
  | ok tj =>
   rw [hm] at hr
   have := HMI.out _ _ hm
   have := hr.1.1
   omega)
 have HN1 := Lib.hid (HN0.out.go hb)
 have HT1 := Lib.hid (hT.third HN0.out.sz)
 obtain ⟨op1, rs1, nm1, kk1, mn1, mx1, ra1, rc1, ka1, kc1, ht1, rfl, _⟩ := hT.open
 clear hb hT ht1 HN0 HC0 HST HMI hr
 obtain ⟨rn1, hrn⟩ : ∃ n, rs1.length = n := ⟨_, rfl⟩
 obtain ⟨kn1, hkn⟩ : ∃ n, kk1.length = n := ⟨_, rfl⟩
 rw [hrn, hkn] at HT1 ⊢
 clear hrn hkn
 obtain ⟨⟨c0, c1, c2, c3⟩, f0, f1, f2, f3⟩ := HN1.out.ri.cs
 obtain ⟨⟨ra, rb, rc, rd, r0, r1, r2, r3⟩, g0, g1, g2, g3⟩ := HN1.out.ri.rs
 obtain ⟨⟨na, nb, nc, nd, ne, nf, n0, n1, n2, n3, n4, n5⟩, m0, m1, m2, m3, m4, m5⟩ := HN1.out.ns
 have l1 : w.heap.size < w1.heap.size := by have := HN1.out.sz; omega
 go_upto_region 2 with fail
 obtain ⟨hk1, hk2, hk3⟩ := HN1.out.kid HT1.out j0 e0 b0
 have hk4 := HN1.out.kidG HT1.out j0 e0 b0
 obtain ⟨w2, hw2⟩ : ∃ w2, ((((w1.setCell ⟨w.heap.size, 0, none⟩ (.string ⟨l.toArray⟩)).setCell ⟨w.heap.size, 1, none⟩ (.int .i64 (j0 : Int))).setCell ⟨w.heap.size, 2, none⟩ (.int .i64 (e0 : Int))).setCell ⟨w.heap.size, 3, none⟩ (.int .i64 (b0 : Int))).alloc (.cells #[.int .i64 op1, .slice ra1 rn1 rc1, .string ⟨nm1.toArray⟩, .slice ka1 kn1 kc1, .int .i64 mn1, .int .i64 mx1] 38) = w2 := ⟨_, rfl⟩
 have hqk := HN1.out.sz
 obtain ⟨qk, hqk'⟩ : ∃ qk, w1.heap.size = qk := ⟨_, rfl⟩
 rw [hqk'] at hqk hk4
 have HN2 : Hid (RN w l j0 e0 b0 w2) := Lib.hid (by rw [← hw2]; exact hk1)
 have HK2 : Hid (KbA qk w2 (.int .i64 op1) (.slice ra1 rn1 rc1) (.string ⟨nm1.toArray⟩) (.slice ka1 kn1 kc1) (.int .i64 mn1) (.int .i64 mx1)) := Lib.hid (by rw [← hw2, ← hqk']; exact hk2)
 have HT2 : Hid (NG (fun k => w.heap.size + 1 + 1 < k) w2 t0 (.agg #[.int .i64 op1, .slice ra1 rn1 rc1, .string ⟨nm1.toArray⟩, .slice ka1 kn1 kc1, .int .i64 mn1, .int .i64 mx1])) := Lib.hid (by rw [← hw2]; exact hk3)
 have HG2 : Hid (NG (fun k => w.heap.size + 1 + 1 < k ∧ k ≠ qk) w2 t0 (.agg #[.int .i64 op1, .slice ra1 rn1 rc1, .string ⟨nm1.toArray⟩, .slice ka1 kn1 kc1, .int .i64 mn1, .int .i64 mx1])) := Lib.hid (by rw [← hw2]; exact hk4)
 rw [hw2, hqk']
 have HQK : Hid (qk ≠ w.heap.size + 1 + 1 ∧ qk ≠ w.heap.size + 1) := Lib.hid (by omega)
 clear hk1 hk2 hk3 hk4 hw2 hqk' HN1 HT1 l1 c0 c1 c2 c3 f0 f1 f2 f3 r0 r1 r2 r3 g0 g1 g2 g3 n0 n1 n2 n3 n4 n5 m0 m1 m2 m3 m4 m5
 have HQ0 := Lib.hid (QL.lit HN2.out HK2.out hqk HG2.out)
 have HK0 := Lib.hid (HK2.out.on (al_below w2 (.cells #[.int .i64 op1, .slice ra1 rn1 rc1, .string ⟨nm1.toArray⟩, .slice ka1 kn1 kc1, .int .i64 mn1, .int .i64 mx1] 38)) HK2.out.lt)
 have HT0 : Hid ([t0].length = 1 → ∃ tl, [t0] = [tl] ∧ NG (fun k => w.heap.size + 1 + 1 < k) (w2.alloc (.cells #[.int .i64 op1, .slice ra1 rn1 rc1, .string ⟨nm1.toArray⟩, .slice ka1 kn1 kc1, .int .i64 mn1, .int .i64 mx1] 38)) tl (.agg #[.int .i64 op1, .slice ra1 rn1 rc1, .string ⟨nm1.toArray⟩, .slice ka1 kn1 kc1, .int .i64 mn1, .int .i64 mx1])) := Lib.hid (fun _ => ⟨t0, rfl, NG.go (F' := fun k => w.heap.size + 1 + 1 < k) (w' := w2.alloc (.cells #[.int .i64 op1, .slice ra1 rn1 rc1, .string ⟨nm1.toArray⟩, .slice ka1 kn1 kc1, .int .i64 mn1, .int .i64 mx1] 38)) ⟨by simp, fun k hk hl => ⟨hk, (al_below w2 _).block k hl⟩⟩ _ _ HT2.out⟩)
 obtain ⟨⟨c0, c1, c2, c3⟩, f0, f1, f2, f3⟩ := HN2.out.ri.cs
 obtain ⟨⟨ra, rb, rc, rd, r0, r1, r2, r3⟩, g0, g1, g2, g3⟩ := HN2.out.ri.rs
 obtain ⟨⟨na, nb, nc, nd, ne, nf, n0, n1, n2, n3, n4, n5⟩, m0, m1, m2, m3, m4, m5⟩ := HN2.out.ns
 obtain ⟨⟨k0, k1, k2, k3, k4, k5⟩, h0, h1, h2, h3, h4, h5⟩ := HK2.out.cs
 go_wp2_with fail
 clear HG2 HT2 HN2 HK2 c0 c1 c2 c3 f0 f1 f2 f3 r0 r1 r2 r3 g0 g1 g2 g3 n0 n1 n2 n3 n4 n5 m0 m1 m2 m3 m4 m5 k0 k1 k2 k3 k4 k5 h0 h1 h2 h3 h4 h5
 go_loopw [5] (fun v wr => ∃ (k e bad : Nat) (kids : List NT) (op1 : Int) (ra1 : Option Addr) (rn1 rc1 : Nat) (nm1 : List UInt8) (ka1 : Option Addr) (kn1 kc1 : Nat) (mn1 mx1 : Int), Hid (AlI ch l R k e bad kids) ∧ (e = 0 → i ≤ k) ∧ (e = 0 → kids.length ≤ k + 1) ∧ kids.length ≤ 2002 ∧ 1 ≤ kids.length ∧ Hid (QL (fun k => w.heap.size + 1 + 1 < k ∧ k ≠ qk) (qk + 1) w l k e bad kids v wr) ∧ Hid (KbA qk wr (.int .i64 op1) (.slice ra1 rn1 rc1) (.string ⟨nm1.toArray⟩) (.slice ka1 kn1 kc1) (.int .i64 mn1) (.int .i64 mx1)) ∧ Hid (kids.length = 1 → ∃ tl, kids = [tl] ∧ NG (fun k => w.heap.size + 1 + 1 < k) wr tl (.agg #[.int .i64 op1, .slice ra1 rn1 rc1, .string ⟨nm1.toArray⟩, .slice ka1 kn1 kc1, .int .i64 mn1, .int .i64 mx1]))) (fun _ wr => QL.left w wr)
 case atStart => exact ⟨j0, e0, b0, [t0], _, _, _, _, _, _, _, _, _, _, HI0, HIJ.out, by simp, by simp, by simp, HQ0, HK0, HT0⟩
 case round =>
  clear HQ0 HI0 HK0 HT0 HIJ
  obtain ⟨k, e, bad, kids, op1, ra1, rn1, rc1, nm1, ka1, kn1, kc1, mn1, mx1, HI, hik, hkk, hkm, hk1, HQ, HKX, HTX⟩ := hrel
  obtain ⟨sa, sc, rfl, _⟩ := HQ.out.rows
  have hbad : e = 0 → bad = 0 := fun he => by rcases HI.out.2 with ⟨_, h, _⟩ | ⟨h, _⟩; exact h; exact absurd he h
  have HPK := Lib.hid fun W => rpeek_any l k 0 0 W
  have hkt := HI.out.1
  have hcase : (e ≠ 0 ∨ (e = 0 ∧ pk l k ≠ 124)) ∨ (e = 0 ∧ pk l k = 124) := by omega
  rcases hcase with hstop | ⟨rfl, h124⟩
  ·have HEND : Hid (EndR l R (joinT 3 kids) k e bad) := Lib.hid (HI.out.stop (by
    rcases hstop with h | ⟨_, h⟩
    ·exact .inl h
    ·exact .inr (fun h9 => h ((pk_eq (by decide) (by decide)).2 h9))))
   have HX := HQ
   rcases hstop with he | ⟨rfl, h124⟩
   ·have z1 : ((e : Int) == 0) = false := by rw [beq_eq_false_iff_ne]; omega
    clear he HQ
    obtain ⟨⟨c0, c1, c2, c3⟩, f0, f1, f2, f3⟩ := HX.out.rn.ri.cs
    obtain ⟨⟨ra, rb, rc, rd, r0, r1, r2, r3⟩, g0, g1, g2, g3⟩ := HX.out.rn.ri.rs
    obtain ⟨⟨na, nb, nc, nd, ne, nf, n0, n1, n2, n3, n4, n5⟩, m0, m1, m2, m3, m4, m5⟩ := HX.out.rn.ns
    go_upto_region 7 with fail
    clear c0 c1 c2 c3 f0 f1 f2 f3 r0 r1 r2 r3 g0 g1 g2 g3 n0 n1 n2 n3 n4 n5 m0 m1 m2 m3 m4 m5
    by_cases h1 : kids.length = 1
    ·obtain ⟨tl, rfl, hng⟩ := HTX.out h1
     have HN8 := Lib.hid HX.out.rn
     have HT8 := Lib.hid hng
     clear hng HX HTX h1
     obtain ⟨⟨c0, c1, c2, c3⟩, f0, f1, f2, f3⟩ := HN8.out.ri.cs
     obtain ⟨⟨ra, rb, rc, rd, r0, r1, r2, r3⟩, g0, g1, g2, g3⟩ := HN8.out.ri.rs
     obtain ⟨⟨na, nb, nc, nd, ne, nf, n0, n1, n2, n3, n4, n5⟩, m0, m1, m2, m3, m4, m5⟩ := HN8.out.ns
     obtain ⟨⟨k0, k1, k2, k3, k4, k5⟩, h0, h1, h2, h3, h4, h5⟩ := HKX.out.cs
     go_wp2_with fail
     refine wp_region_slotsB (by rfl) (by kernel_rfl) (by kernel_rfl) 50 [] [(1, .pointer (some ⟨w.heap.size, 0, none⟩)), (2, .pointer (some ⟨w.heap.size + 1, 0, none⟩)), (3, .pointer (some ⟨w.heap.size + 1 + 1, 0, none⟩)), (4, .pointer (some ⟨qk, 0, none⟩))] (by kernel_rfl) (fun W => RN w l (k) e bad W ∧ KbA (qk) W (.int .i64 op1) (.slice ra1 rn1 rc1) (.string ⟨nm1.toArray⟩) (.slice ka1 kn1 kc1) (.int .i64 mn1) (.int .i64 mx1) ∧ NG (fun k => w.heap.size + 1 + 1 < k) W (tl) (.agg #[.int .i64 op1, .slice ra1 rn1 rc1, .string ⟨nm1.toArray⟩, .slice ka1 kn1 kc1, .int .i64 mn1, .int .i64 mx1])) (RkN w l (k) e bad (tl)) (GvK w l (k) e bad (tl)) (GvK.keep w l (k) e bad (tl)) ?_ ?_ ⟨rfl, rfl, fun s v hs => ?_, HN8.out.go (Below.refl _ _).drew, HKX.out, NG.go (Stay.drew _) _ _ HT8.out⟩
     case refine_1 =>
      intro k o ho ac W hB hd K hK
      have hk5 : k < 4 := (Array.getElem?_eq_some_iff.1 ho).1
      have hs1 : ac.tmps.getD 1 undef = .pointer (some ⟨w.heap.size, 0, none⟩) := hB.fixed 1 _ (by simp)
      have hs2 : ac.tmps.getD 2 undef = .pointer (some ⟨w.heap.size + 1, 0, none⟩) := hB.fixed 2 _ (by simp)
      have hs3 : ac.tmps.getD 3 undef = .pointer (some ⟨w.heap.size + 1 + 1, 0, none⟩) := hB.fixed 3 _ (by simp)
      have hs5 : ac.tmps.getD 4 undef = .pointer (some ⟨qk, 0, none⟩) := hB.fixed 4 _ (by simp)
      obtain ⟨hi, hkb, hng⟩ := hB.inv
      have HIW := Lib.hid hi
      have HKW := Lib.hid hkb
      have HTW := Lib.hid hng
      have HKK := Lib.hid hK
      obtain ⟨⟨c0, c1, c2, c3⟩, f0, f1, f2, f3⟩ := HIW.out.ri.cs
      obtain ⟨⟨ra, rb, rc, rd, r0, r1, r2, r3⟩, g0, g1, g2, g3⟩ := HIW.out.ri.rs
      obtain ⟨⟨na, nb, nc, nd, ne, nf, n0, n1, n2, n3, n4, n5⟩, m0, m1, m2, m3, m4, m5⟩ := HIW.out.ns
      obtain ⟨⟨k0, k1, k2, k3, k4, k5⟩, h0, h1, h2, h3, h4, h5⟩ := HKW.out.cs
      clear hK hB hi hkb hng
      rcases (show k = 0 ∨ k = 1 ∨ k = 2 ∨ k = 3 by omega) with rfl | rfl | rfl | rfl
      ·obtain rfl := Option.some.inj ho
       go_simp
       exact HKK.out _ _ (RkN.refl _ _ _ _ _ _ _) ⟨HIW.out, HKW.out, HTW.out⟩ rfl
      ·obtain rfl := Option.some.inj ho
       go_simp
       exact HKK.out _ _ (RkN.refl _ _ _ _ _ _ _) ⟨HIW.out, HKW.out, HTW.out⟩ ⟨⟨_, _, _, _, _, _, _, _, _, _, rfl⟩, HTW.out⟩
      ·obtain rfl := Option.some.inj ho
       have hd0 : ac.tmps.getD 45 undef = .agg #[.string ⟨l.toArray⟩, .int .i64 ((k : Nat) : Int), .int .i64 (e : Int), .int .i64 (bad : Int)] := hd ⟨0, .data⟩ (by simp) rfl
       obtain ⟨s1, s2, s3, s4⟩ := HIW.out.stpK (tl)
       have S1 := Lib.hid s1
       have S2 := Lib.hid s2
       have S3 := Lib.hid s3
       have S4 := Lib.hid (show KbA (qk) _ (.int .i64 op1) (.slice ra1 rn1 rc1) (.string ⟨nm1.toArray⟩) (.slice ka1 kn1 kc1) (.int .i64 mn1) (.int .i64 mx1) from (s4 _ HQK.out.2).trans HKW.out)
       have S5 := Lib.hid (NG.go s2.1 _ _ HTW.out)
       clear s1 s2 s3 s4
       go_simp
       exact HKK.out undef _ S2.out ⟨S1.out, S4.out, S5.out⟩ S3.out
      ·obtain rfl := Option.some.inj ho
       obtain ⟨⟨opx, rax, rnx, rcx, nmx, kax, knx, kcx, mnx, mxx, hd2⟩, hT3⟩ : NdV w (tl) W (ac.tmps.getD 46 undef) := hd ⟨1, .data⟩ (by simp) rfl
       rw [hd2] at hT3
       obtain ⟨s1, s2, s3, s4⟩ := HIW.out.stnK hT3
       have S1 := Lib.hid s1
       have S2 := Lib.hid s2
       have S3 := Lib.hid s3
       have S4 := Lib.hid (show KbA (qk) _ (.int .i64 op1) (.slice ra1 rn1 rc1) (.string ⟨nm1.toArray⟩) (.slice ka1 kn1 kc1) (.int .i64 mn1) (.int .i64 mx1) from (s4 _ HQK.out.1).trans HKW.out)
       have S5 := Lib.hid (NG.go s2.1 _ _ HTW.out)
       clear s1 s2 s3 s4 hT3
       go_simp
       exact HKK.out undef _ S2.out ⟨S1.out, S4.out, S5.out⟩ S3.out
     case refine_2 =>
      intro ac W hB hG
      have h2 : PAt w l (k) e bad W := hG 2 (by decide)
      have h4 : NdA w (tl) W := hG 3 (by decide)
      have hs2 : ac.tmps.getD 2 undef = .pointer (some ⟨w.heap.size + 1, 0, none⟩) := hB.fixed 2 _ (by simp)
      have hs3 : ac.tmps.getD 3 undef = .pointer (some ⟨w.heap.size + 1 + 1, 0, none⟩) := hB.fixed 3 _ (by simp)
      have hbw := hB.inv.1.ri.bl
      have hdf := hB.defers
      obtain ⟨tm, df⟩ := ac
      obtain rfl : df = [] := hdf
      have HR9 := Lib.hid (RN.endK h2 h4 hbw (fn := Tryz.f58) (tmps := tm) rfl hs2 hs3 (r := R) HEND.out)
      clear hB hG h2 h4 hs2 hs3
      go_wp2_with fail
      exact HR9.out
     case refine_3 =>
      simp only [List.mem_cons, Prod.mk.injEq, List.not_mem_nil, or_false] at hs
      rcases hs with ⟨rfl, rfl⟩ | ⟨rfl, rfl⟩ | ⟨rfl, rfl⟩ | ⟨rfl, rfl⟩ <;> rfl
    ·have HRR := Lib.hid HX.out.rows
     have HN8 := Lib.hid HX.out.rn
     have hHE : EndR l R (.node 3 [] [] kids 0 0) k e bad := by
      have h := HEND.out
      match kids, hk1, h1, h with
      | [], h0, _, _ => exact absurd h0 (by decide)
      | [t], _, h9, _ => exact absurd rfl h9
      | t :: u :: rest, _, _, h => exact h
     have HEN := Lib.hid hHE
     have zl1 : ((kids.length : Int) == 1) = false := by rw [beq_eq_false_iff_ne]; omega
     clear HX HTX hHE HEND h1
     obtain ⟨⟨c0, c1, c2, c3⟩, f0, f1, f2, f3⟩ := HN8.out.ri.cs
     obtain ⟨⟨ra, rb, rc, rd, r0, r1, r2, r3⟩, g0, g1, g2, g3⟩ := HN8.out.ri.rs
     obtain ⟨⟨na, nb, nc, nd, ne, nf, n0, n1, n2, n3, n4, n5⟩, m0, m1, m2, m3, m4, m5⟩ := HN8.out.ns
     go_wp2_with fail
     exact HN8.out.ret (P := 2) (N := 3) rfl (by rfl) (by rfl) (NG.many HRR.out 3) HEN.out
   ·obtain rfl : bad = 0 := hbad rfl
    obtain ⟨d, hd⟩ : ∃ d, pk l k = d := ⟨_, rfl⟩
    rw [hd] at HPK h124
    have u1 : ((d : Int) == 124) = false := by rw [beq_eq_false_iff_ne]; omega
    clear h124 hd HQ
    obtain ⟨⟨c0, c1, c2, c3⟩, f0, f1, f2, f3⟩ := HX.out.rn.ri.cs
    obtain ⟨⟨ra, rb, rc, rd, r0, r1, r2, r3⟩, g0, g1, g2, g3⟩ := HX.out.rn.ri.rs
    obtain ⟨⟨na, nb, nc, nd, ne, nf, n0, n1, n2, n3, n4, n5⟩, m0, m1, m2, m3, m4, m5⟩ := HX.out.rn.ns
    go_upto_region 7 with (go_at_call 79; refine (HPK.out _).mono ?_; rintro e9 w2 ⟨rfl, hb⟩; have HX1 := Lib.hid (HX.out.go hb); have HKX1 := Lib.hid (HKX.out.on hb HKX.out.lt); have HTX1 : Hid (kids.length = 1 → ∃ tl, kids = [tl] ∧ NG (fun k => w.heap.size + 1 + 1 < k) w2 tl (.agg #[.int .i64 op1, .slice ra1 rn1 rc1, .string ⟨nm1.toArray⟩, .slice ka1 kn1 kc1, .int .i64 mn1, .int .i64 mx1])) := Lib.hid (fun h => (HTX.out h).elim fun tl h => ⟨tl, h.1, NG.go (F' := fun k => w.heap.size + 1 + 1 < k) (w' := w2) ⟨hb.size, fun k hk hl => ⟨hk, hb.block k hl⟩⟩ _ _ h.2⟩); clear hb HX HKX HTX; have HX := HX1; have HKX := HKX1; have HTX := HTX1; clear HX1 HKX1 HTX1 c0 c1 c2 c3 f0 f1 f2 f3 r0 r1 r2 r3 g0 g1 g2 g3 n0 n1 n2 n3 n4 n5 m0 m1 m2 m3 m4 m5; obtain ⟨⟨c0, c1, c2, c3⟩, f0, f1, f2, f3⟩ := HX.out.rn.ri.cs; obtain ⟨⟨ra, rb, rc, rd, r0, r1, r2, r3⟩, g0, g1, g2, g3⟩ := HX.out.rn.ri.rs; obtain ⟨⟨na, nb, nc, nd, ne, nf, n0, n1, n2, n3, n4, n5⟩, m0, m1, m2, m3, m4, m5⟩ := HX.out.rn.ns)
    clear c0 c1 c2 c3 f0 f1 f2 f3 r0 r1 r2 r3 g0 g1 g2 g3 n0 n1 n2 n3 n4 n5 m0 m1 m2 m3 m4 m5
    by_cases h1 : kids.length = 1
    ·obtain ⟨tl, rfl, hng⟩ := HTX.out h1
     have HN8 := Lib.hid HX.out.rn
     have HT8 := Lib.hid hng
     clear hng HX HTX h1
     obtain ⟨⟨c0, c1, c2, c3⟩, f0, f1, f2, f3⟩ := HN8.out.ri.cs
     obtain ⟨⟨ra, rb, rc, rd, r0, r1, r2, r3⟩, g0, g1, g2, g3⟩ := HN8.out.ri.rs
     obtain ⟨⟨na, nb, nc, nd, ne, nf, n0, n1, n2, n3, n4, n5⟩, m0, m1, m2, m3, m4, m5⟩ := HN8.out.ns
     obtain ⟨⟨k0, k1, k2, k3, k4, k5⟩, h0, h1, h2, h3, h4, h5⟩ := HKX.out.cs
     go_wp2_with fail
     refine wp_region_slotsB (by rfl) (by kernel_rfl) (by kernel_rfl) 50 [] [(1, .pointer (some ⟨w.heap.size, 0, none⟩)), (2, .pointer (some ⟨w.heap.size + 1, 0, none⟩)), (3, .pointer (some ⟨w.heap.size + 1 + 1, 0, none⟩)), (4, .pointer (some ⟨qk, 0, none⟩))] (by kernel_rfl) (fun W => RN w l (k) 0 0 W ∧ KbA (qk) W (.int .i64 op1) (.slice ra1 rn1 rc1) (.string ⟨nm1.toArray⟩) (.slice ka1 kn1 kc1) (.int .i64 mn1) (.int .i64 mx1) ∧ NG (fun k => w.heap.size + 1 + 1 < k) W (tl) (.agg #[.int .i64 op1, .slice ra1 rn1 rc1, .string ⟨nm1.toArray⟩, .slice ka1 kn1 kc1, .int .i64 mn1, .int .i64 mx1])) (RkN w l (k) 0 0 (tl)) (GvK w l (k) 0 0 (tl)) (GvK.keep w l (k) 0 0 (tl)) ?_ ?_ ⟨rfl, rfl, fun s v hs => ?_, HN8.out.go (Below.refl _ _).drew, HKX.out, NG.go (Stay.drew _) _ _ HT8.out⟩
     case refine_1 =>
      intro k o ho ac W hB hd K hK
      have hk5 : k < 4 := (Array.getElem?_eq_some_iff.1 ho).1
      have hs1 : ac.tmps.getD 1 undef = .pointer (some ⟨w.heap.size, 0, none⟩) := hB.fixed 1 _ (by simp)
      have hs2 : ac.tmps.getD 2 undef = .pointer (some ⟨w.heap.size + 1, 0, none⟩) := hB.fixed 2 _ (by simp)
      have hs3 : ac.tmps.getD 3 undef = .pointer (some ⟨w.heap.size + 1 + 1, 0, none⟩) := hB.fixed 3 _ (by simp)
      have hs5 : ac.tmps.getD 4 undef = .pointer (some ⟨qk, 0, none⟩) := hB.fixed 4 _ (by simp)
      obtain ⟨hi, hkb, hng⟩ := hB.inv
      have HIW := Lib.hid hi
      have HKW := Lib.hid hkb
      have HTW := Lib.hid hng
      have HKK := Lib.hid hK
      obtain ⟨⟨c0, c1, c2, c3⟩, f0, f1, f2, f3⟩ := HIW.out.ri.cs
      obtain ⟨⟨ra, rb, rc, rd, r0, r1, r2, r3⟩, g0, g1, g2, g3⟩ := HIW.out.ri.rs
      obtain ⟨⟨na, nb, nc, nd, ne, nf, n0, n1, n2, n3, n4, n5⟩, m0, m1, m2, m3, m4, m5⟩ := HIW.out.ns
      obtain ⟨⟨k0, k1, k2, k3, k4, k5⟩, h0, h1, h2, h3, h4, h5⟩ := HKW.out.cs
      clear hK hB hi hkb hng
      rcases (show k = 0 ∨ k = 1 ∨ k = 2 ∨ k = 3 by omega) with rfl | rfl | rfl | rfl
      ·obtain rfl := Option.some.inj ho
       go_simp
       exact HKK.out _ _ (RkN.refl _ _ _ _ _ _ _) ⟨HIW.out, HKW.out, HTW.out⟩ rfl
      ·obtain rfl := Option.some.inj ho
       go_simp
       exact HKK.out _ _ (RkN.refl _ _ _ _ _ _ _) ⟨HIW.out, HKW.out, HTW.out⟩ ⟨⟨_, _, _, _, _, _, _, _, _, _, rfl⟩, HTW.out⟩
      ·obtain rfl := Option.some.inj ho
       have hd0 : ac.tmps.getD 45 undef = .agg #[.string ⟨l.toArray⟩, .int .i64 ((k : Nat) : Int), .int .i64 0, .int .i64 0] := hd ⟨0, .data⟩ (by simp) rfl
       obtain ⟨s1, s2, s3, s4⟩ := HIW.out.stpK (tl)
       have S1 := Lib.hid s1
       have S2 := Lib.hid s2
       have S3 := Lib.hid s3
       have S4 := Lib.hid (show KbA (qk) _ (.int .i64 op1) (.slice ra1 rn1 rc1) (.string ⟨nm1.toArray⟩) (.slice ka1 kn1 kc1) (.int .i64 mn1) (.int .i64 mx1) from (s4 _ HQK.out.2).trans HKW.out)
       have S5 := Lib.hid (NG.go s2.1 _ _ HTW.out)
       clear s1 s2 s3 s4
       go_simp
       exact HKK.out undef _ S2.out ⟨S1.out, S4.out, S5.out⟩ S3.out
      ·obtain rfl := Option.some.inj ho
       obtain ⟨⟨opx, rax, rnx, rcx, nmx, kax, knx, kcx, mnx, mxx, hd2⟩, hT3⟩ : NdV w (tl) W (ac.tmps.getD 46 undef) := hd ⟨1, .data⟩ (by simp) rfl
       rw [hd2] at hT3
       obtain ⟨s1, s2, s3, s4⟩ := HIW.out.stnK hT3
       have S1 := Lib.hid s1
       have S2 := Lib.hid s2
       have S3 := Lib.hid s3
       have S4 := Lib.hid (show KbA (qk) _ (.int .i64 op1) (.slice ra1 rn1 rc1) (.string ⟨nm1.toArray⟩) (.slice ka1 kn1 kc1) (.int .i64 mn1) (.int .i64 mx1) from (s4 _ HQK.out.1).trans HKW.out)
       have S5 := Lib.hid (NG.go s2.1 _ _ HTW.out)
       clear s1 s2 s3 s4 hT3
       go_simp
       exact HKK.out undef _ S2.out ⟨S1.out, S4.out, S5.out⟩ S3.out
     case refine_2 =>
      intro ac W hB hG
      have h2 : PAt w l (k) 0 0 W := hG 2 (by decide)
      have h4 : NdA w (tl) W := hG 3 (by decide)
      have hs2 : ac.tmps.getD 2 undef = .pointer (some ⟨w.heap.size + 1, 0, none⟩) := hB.fixed 2 _ (by simp)
      have hs3 : ac.tmps.getD 3 undef = .pointer (some ⟨w.heap.size + 1 + 1, 0, none⟩) := hB.fixed 3 _ (by simp)
      have hbw := hB.inv.1.ri.bl
      have hdf := hB.defers
      obtain ⟨tm, df⟩ := ac
      obtain rfl : df = [] := hdf
      have HR9 := Lib.hid (RN.endK h2 h4 hbw (fn := Tryz.f58) (tmps := tm) rfl hs2 hs3 (r := R) HEND.out)
      clear hB hG h2 h4 hs2 hs3
      go_wp2_with fail
      exact HR9.out
     case refine_3 =>
      simp only [List.mem_cons, Prod.mk.injEq, List.not_mem_nil, or_false] at hs
      rcases hs with ⟨rfl, rfl⟩ | ⟨rfl, rfl⟩ | ⟨rfl, rfl⟩ | ⟨rfl, rfl⟩ <;> rfl
    ·have HRR := Lib.hid HX.out.rows
     have HN8 := Lib.hid HX.out.rn
     have hHE : EndR l R (.node 3 [] [] kids 0 0) k 0 0 := by
      have h := HEND.out
      match kids, hk1, h1, h with
      | [], h0, _, _ => exact absurd h0 (by decide)
      | [t], _, h9, _ => exact absurd rfl h9
      | t :: u :: rest, _, _, h => exact h
     have HEN := Lib.hid hHE
     have zl1 : ((kids.length : Int) == 1) = false := by rw [beq_eq_false_iff_ne]; omega
     clear HX HTX hHE HEND h1
     obtain ⟨⟨c0, c1, c2, c3⟩, f0, f1, f2, f3⟩ := HN8.out.ri.cs
     obtain ⟨⟨ra, rb, rc, rd, r0, r1, r2, r3⟩, g0, g1, g2, g3⟩ := HN8.out.ri.rs
     obtain ⟨⟨na, nb, nc, nd, ne, nf, n0, n1, n2, n3, n4, n5⟩, m0, m1, m2, m3, m4, m5⟩ := HN8.out.ns
     go_wp2_with fail
     exact HN8.out.ret (P := 2) (N := 3) rfl (by rfl) (by rfl) (NG.many HRR.out 3) HEN.out
  ·have hat : Asc.at_ l k = 124 := (pk_eq (by decide) (by decide)).1 h124
   have hkl : k < l.length := Asc.at_lt (by omega)
   have y2 : decide ((k : Int) < (l.length : Int)) = true := decide_eq_true (by omega)
   have y3 : decide (k < l.length) = true := decide_eq_true (by omega)
   obtain rfl : bad = 0 := hbad rfl
   have hik0 := hik rfl
   have hkk0 := hkk rfl
   have HLF := Lib.hid (HQ.out.lft.trans (if_pos rfl))
   obtain ⟨k1, hk1'⟩ : ∃ k1, k + 1 = k1 := ⟨_, rfl⟩
   have hwk : IntKind.i64.wrap ((k : Int) + 1) = (k1 : Int) := by rw [IntWalk.i64_in _ (by omega)]; omega
   have HR9 := Lib.hid (HCT.out k1 (by omega) (by omega))
   have HNXT := Lib.hid (fun t j e bad => HI.out.next hl HGO.out hat (t := t) (j := j) (e := e) (bad := bad))
   rw [hk1'] at HNXT
   rw [h124] at HPK
   have HX := HQ
   clear h124 hat hik hkk HQ hbad HCT HI
   obtain ⟨⟨c0, c1, c2, c3⟩, f0, f1, f2, f3⟩ := HX.out.rn.ri.cs
   obtain ⟨⟨ra, rb, rc, rd, r0, r1, r2, r3⟩, g0, g1, g2, g3⟩ := HX.out.rn.ri.rs
   obtain ⟨⟨na, nb, nc, nd, ne, nf, n0, n1, n2, n3, n4, n5⟩, m0, m1, m2, m3, m4, m5⟩ := HX.out.rn.ns
   go_upto_region 4 with (go_at_call 79; refine (HPK.out _).mono ?_; rintro e9 w2 ⟨rfl, hb⟩; have HX1 := Lib.hid (HX.out.go hb); have HKX1 := Lib.hid (HKX.out.on hb HKX.out.lt); have HTX1 : Hid (kids.length = 1 → ∃ tl, kids = [tl] ∧ NG (fun k => w.heap.size + 1 + 1 < k) w2 tl (.agg #[.int .i64 op1, .slice ra1 rn1 rc1, .string ⟨nm1.toArray⟩, .slice ka1 kn1 kc1, .int .i64 mn1, .int .i64 mx1])) := Lib.hid (fun h => (HTX.out h).elim fun tl h => ⟨tl, h.1, NG.go (F' := fun k => w.heap.size + 1 + 1 < k) (w' := w2) ⟨hb.size, fun k hk hl => ⟨hk, hb.block k hl⟩⟩ _ _ h.2⟩); clear hb HX HKX HTX; have HX := HX1; have HKX := HKX1; have HTX := HTX1; clear HX1 HKX1 HTX1 c0 c1 c2 c3 f0 f1 f2 f3 r0 r1 r2 r3 g0 g1 g2 g3 n0 n1 n2 n3 n4 n5 m0 m1 m2 m3 m4 m5; obtain ⟨⟨c0, c1, c2, c3⟩, f0, f1, f2, f3⟩ := HX.out.rn.ri.cs; obtain ⟨⟨ra, rb, rc, rd, r0, r1, r2, r3⟩, g0, g1, g2, g3⟩ := HX.out.rn.ri.rs; obtain ⟨⟨na, nb, nc, nd, ne, nf, n0, n1, n2, n3, n4, n5⟩, m0, m1, m2, m3, m4, m5⟩ := HX.out.rn.ns)
   clear HPK y2 y3
   have HX2 := Lib.hid (HX.out.hop k1)
   have HK4 := Lib.hid (HKX.out.oth (show qk ≠ w.heap.size by omega) 1 (.int .i64 (k1 : Int)))
   go_upto_region 5 with fail
   obtain ⟨w4, hw4⟩ : ∃ w4, w2.setCell ⟨w.heap.size, 1, none⟩ (.int .i64 (k1 : Int)) = w4 := ⟨_, rfl⟩
   rw [hw4] at HX2 HK4 ⊢
   clear hw4 HX HKX HTX hwk c0 c1 c2 c3 f0 f1 f2 f3 r0 r1 r2 r3 g0 g1 g2 g3 n0 n1 n2 n3 n4 n5 m0 m1 m2 m3 m4 m5
   obtain ⟨⟨c0, c1, c2, c3⟩, f0, f1, f2, f3⟩ := HX2.out.rn.ri.cs
   obtain ⟨⟨ra, rb, rc, rd, r0, r1, r2, r3⟩, g0, g1, g2, g3⟩ := HX2.out.rn.ri.rs
   obtain ⟨⟨na, nb, nc, nd, ne, nf, n0, n1, n2, n3, n4, n5⟩, m0, m1, m2, m3, m4, m5⟩ := HX2.out.rn.ns
   go_wp2_with fail
   clear c0 c1 c2 c3 f0 f1 f2 f3 r0 r1 r2 r3 g0 g1 g2 g3 n0 n1 n2 n3 n4 n5 m0 m1 m2 m3 m4 m5
   refine (HR9.out _).mono ?_
   rintro e9 w5 ⟨j, e1, bad, t, v, rfl, hT, hb, hr⟩
   have HI2 := Lib.hid (HNXT.out t j e1 bad hr)
   obtain ⟨op2, rs2, nm2, kk2, mn2, mx2, ra2, rc2, ka2, kc2, ht2, rfl, _⟩ := hT.open
   obtain ⟨rn2, hrn⟩ : ∃ n, rs2.length = n := ⟨_, rfl⟩
   obtain ⟨kn2, hkn⟩ : ∃ n, kk2.length = n := ⟨_, rfl⟩
   rw [hrn, hkn] at hT ⊢
   have HN6 := Lib.hid (HX2.out.rn.go hb)
   have HK6 := Lib.hid (HK4.out.on hb HK4.out.lt)
   have hq4 := HK4.out.lt
   obtain ⟨hk1, hk2, hk3⟩ := HX2.out.kid hb HK6.out hqk (.inl ⟨fun h => h.2 rfl, Nat.lt_succ_self _⟩) (Nat.le_refl _) hq4 (fun k hk => ⟨by omega, by omega⟩) hT j e1 bad
   have HK7 := Lib.hid hk1
   have HK8' := Lib.hid hk2
   have HK9 := Lib.hid hk3
   have hqn : qk ≠ w.heap.size := by omega
   have hqn' : w.heap.size ≠ qk := by omega
   clear hrn hkn hT hk1 hk2 hk3 hb hr ht2 HK4 HX2 HNXT HR9
   obtain ⟨⟨c0, c1, c2, c3⟩, f0, f1, f2, f3⟩ := HN6.out.ri.cs
   obtain ⟨⟨ra, rb, rc, rd, r0, r1, r2, r3⟩, g0, g1, g2, g3⟩ := HN6.out.ri.rs
   obtain ⟨⟨na, nb, nc, nd, ne, nf, n0, n1, n2, n3, n4, n5⟩, m0, m1, m2, m3, m4, m5⟩ := HN6.out.ns
   obtain ⟨⟨k0, k1, k2, k3, k4, k5⟩, h0, h1, h2, h3, h4, h5⟩ := HK6.out.cs
   go_upto_region 6 with fail
   obtain ⟨w6, hw6⟩ : ∃ w6, ((((((((((w5.setCell ⟨w.heap.size, 0, none⟩ (.string ⟨l.toArray⟩)).setCell ⟨w.heap.size, 1, none⟩ (.int .i64 (j : Int))).setCell ⟨w.heap.size, 2, none⟩ (.int .i64 (e1 : Int))).setCell ⟨w.heap.size, 3, none⟩ (.int .i64 (bad : Int))).setCell ⟨qk, 0, none⟩ (.int .i64 op2)).setCell ⟨qk, 1, none⟩ (.slice ra2 rn2 rc2)).setCell ⟨qk, 2, none⟩ (.string ⟨nm2.toArray⟩)).setCell ⟨qk, 3, none⟩ (.slice ka2 kn2 kc2)).setCell ⟨qk, 4, none⟩ (.int .i64 mn2)).setCell ⟨qk, 5, none⟩ (.int .i64 mx2)) = w6 := ⟨_, rfl⟩
   have HS2 : Hid (QL (fun k => w.heap.size + 1 + 1 < k ∧ k ≠ qk) (qk + 1) w l j e1 bad kids (.slice sa kids.length sc) w6) := Lib.hid (by rw [← hw6]; exact HK7.out)
   have HK8 : Hid (KbA qk w6 (.int .i64 op2) (.slice ra2 rn2 rc2) (.string ⟨nm2.toArray⟩) (.slice ka2 kn2 kc2) (.int .i64 mn2) (.int .i64 mx2)) := Lib.hid (by rw [← hw6]; exact HK8'.out)
   have HT2 : Hid (NG (FF (fun k => w.heap.size + 1 + 1 < k ∧ k ≠ qk) (.slice sa kids.length sc)) w6 t (.agg #[.int .i64 op2, .slice ra2 rn2 rc2, .string ⟨nm2.toArray⟩, .slice ka2 kn2 kc2, .int .i64 mn2, .int .i64 mx2])) := Lib.hid (by rw [← hw6]; exact HK9.out)
   rw [hw6]
   clear hw6 HK7 HK8' HK9 HN6 HK6 c0 c1 c2 c3 f0 f1 f2 f3 r0 r1 r2 r3 g0 g1 g2 g3 n0 n1 n2 n3 n4 n5 m0 m1 m2 m3 m4 m5 k0 k1 k2 k3 k4 k5 h0 h1 h2 h3 h4 h5
   obtain ⟨cs, hown, hpush⟩ := HS2.out.row.cells
   have HPU := Lib.hid hpush
   have HSZ := Lib.hid HS2.out.bl
   clear hpush
   obtain ⟨⟨k0, k1, k2, k3, k4, k5⟩, h0, h1, h2, h3, h4, h5⟩ := HK8.out.cs
   go_wp2_with (at_builtin; refine wpList_append_lies _ rfl _ _ 36 rfl (qk + 1) 38 i0 (.agg #[.int .i64 0, .slice none 0 0, .string ⟨#[]⟩, .slice none 0 0, .int .i64 0, .int .i64 0]) 6 88 Tryz.underlying36 hz hz0 hz1 hz2 rfl (by decide) _ kids.length cs rfl (hown.alloc _) ⟨w6.heap.size, 0, none⟩ 1 1 [.int .i64 op2, .slice ra2 rn2 rc2, .string ⟨nm2.toArray⟩, .slice ka2 kn2 kc2, .int .i64 mn2, .int .i64 mx2] rfl rfl (World.news_of_block (heap_alloc_new w6 _)) (node_one _ _ _ _ _ _ _ _ _ _) (by omega) (by unfold maxLen; omega) (by omega) (Nat.le_trans HSZ.out (by simp)) _ rfl ?_; intro g6 cap6 w7 hown6 hgr6 hat6 hlt6; obtain ⟨hs6, hb6⟩ := HS2.out.push cs hown HPU.out hgr6 hat6 rfl _ rfl HT2.out (by omega) hown6; have HS6 := Lib.hid hs6; have HK9 := Lib.hid (HK8.out.on hb6 (Nat.lt_succ_self _)); clear hs6 hb6 hown6 hgr6 hat6 hlt6 hown)
   refine ⟨⟨j, e1, bad, kids ++ [t], _, _, _, _, _, _, _, _, _, _, Lib.hid HI2.out.1, fun he => ?_, fun he => ?_, by simp; omega, by simp, HS6, HK9, Lib.hid (fun h => ?_)⟩, ?_⟩
   ·have := HI2.out.2 he
    omega
   ·have := HI2.out.2 he
    simp
    omega
   ·simp only [List.length_append, List.length_singleton] at h
    omega
   ·rw [HS6.out.lft, HLF.out]
    have hj := HI2.out.1.1
    by_cases he : e1 = 0
    ·have := HI2.out.2 he
     rw [if_pos he]
     omega
    ·rw [if_neg he]
     omega
theorem grpI_len (l : List UInt8) (i : Nat) (h : i ≤ l.length) : grpI l i ≤ l.length := by
 unfold grpI
 split
 ·next hp =>
  have := capN_colon hp
  omega
 ·exact h
theorem rchoice_full (l : List UInt8) (hl : l.length ≤ 1000) (d : Nat) : ∀ i, i ≤ l.length → l.length < i + d → RdR 58 l i (choM l d i) := by
 induction d with
 | zero =>
  intro i hi h
  omega
 | succ d ih =>
  intro i hi hd
  have hgo := choM_goes l d
  refine rcho_any l (choM l d) hl hgo i hi fun k hk hkl => rcat_any l (choM l d) hl hgo k hkl fun k2 hk2 hk2l => ?_
  refine rrep_any l (choM l d) k2 hl (ratom_any l (choM l d) k2 hl hk2l fun h40 => ih _ ?_ ?_)
  ·have hlt : k2 < l.length := Asc.at_lt (by omega)
   exact grpI_len l (k2 + 1) hlt
  ·have := grpI_le l (k2 + 1)
   omega
end Go.Proofs.YtgcpinnnfoanjaaGreatDoor
namespace Go.Proofs.YtgcpinnnfoanjaaGreatDoor
open Go.RowKit
theorem drew_set (b i : Nat) (W : World) (v : Value) : (W.setCell ⟨b, i, none⟩ v).drew = W.drew.setCell ⟨b, i, none⟩ v := rfl
theorem drew_stK (b : Nat) (W : World) (v0 v1 v2 v3 v4 v5 : Value) : ((((((W.setCell ⟨b, 0, none⟩ v0).setCell ⟨b, 1, none⟩ v1).setCell ⟨b, 2, none⟩ v2).setCell ⟨b, 3, none⟩ v3).setCell ⟨b, 4, none⟩ v4).setCell ⟨b, 5, none⟩ v5).drew = stK b W.drew v0 v1 v2 v3 v4 v5 := by
 rw [drew_set, drew_set, drew_set, drew_set, drew_set, drew_set]
 rfl
theorem rpar_ret {fn : Func} {P t u : Tmp} (hfn : fn.results = #[.cell P 38, .tmp t, .tmp u]) {w W : World} {tmps : Array Value} (hp : tmps.getD P undef = .pointer (some ⟨w.heap.size, 0, none⟩)) {x y z a c s v0 v1 v2 v3 v4 v5 : Value} (hS : KbA w.heap.size W x y z a c s) {l : List UInt8} {T : NT}
  (h1 : tmps.getD t undef = .int .i64 ((parM l).2.1 : Int)) (h2 : tmps.getD u undef = .int .i64 ((parM l).2.2 : Int)) (hT : NG (fun k => w.heap.size < k) W T (.agg #[v0, v1, v2, v3, v4, v5])) (hb : Below w.heap.size w W) (hr : ((parM l).2.2 = 0 → (parM l).1 = some T) ∧ ((parM l).2.2 ≠ 0 → T = zeroT)) :
  bodyPost Tryz.prog fn (ParY l w) Exit.ret { tmps := tmps, defers := [] } (stK w.heap.size W v0 v1 v2 v3 v4 v5) :=
 ret_ctt hfn hp h1 h2 (lv_nd (hS.st v0 v1 v2 v3 v4 v5)) ⟨_, T, rfl, NG.go ⟨by rw [stK_size]; exact Nat.le_refl _, fun k hk _ => ⟨Nat.le_of_lt hk, stK_keep _ _ _ _ _ _ _ _ (Nat.ne_of_gt hk)⟩⟩ _ _ hT, hb.trans (stK_below (Nat.le_refl _) W _ _ _ _ _ _), hr⟩
set_option maxHeartbeats 4000000 in
set_option maxRecDepth 1000000 in
theorem rparse_long (l : List UInt8) (hl : 400 < l.length) (w : World) : Calls Tryz.prog 36 #[.string ⟨l.toArray⟩] w (ParY l w) := by
 have hM : parM l = (none, 0, 3) := if_pos hl
 have HM := Lib.hid hM
 have z0 : decide ((400 : Int) < (l.length : Int)) = true := decide_eq_true (by omega)
 have y0 : decide (400 < l.length) = true := decide_eq_true hl
 have HK0 := Lib.hid (KbA.new w (.int .i64 0) (.slice none 0 0) (.string ⟨#[]⟩) (.slice none 0 0) (.int .i64 0) (.int .i64 0))
 have HB0 := Lib.hid (al_below w (.cells #[.int .i64 0, .slice none 0 0, .string ⟨#[]⟩, .slice none 0 0, .int .i64 0, .int .i64 0] 38))
 clear hM hl
 go_enter Tryz.func36, Tryz.ntmps36
 go_wp2_with fail
 exact ret_ctt (p := 2) (t := 3) (s := 4) rfl (by rfl) (by rfl) (by rfl) (lv_nd HK0.out) ⟨_, zeroT, by rw [HM.out]; rfl, zero_up, HB0.out, fun h => (by rw [HM.out] at h; cases h), fun _ => rfl⟩
set_option maxHeartbeats 8000000 in
set_option maxRecDepth 1000000 in
theorem rparse_short (l : List UInt8) (hl : l.length ≤ 400) (w : World) : Calls Tryz.prog 36 #[.string ⟨l.toArray⟩] w (ParY l w) := by
 have hM : parM l = _ := if_neg (by omega)
 have HM := Lib.hid hM
 have HC := Lib.hid (rchoice_full l (by omega) (l.length + 1) 0 (by omega) (by omega))
 obtain ⟨R, hR⟩ : ∃ R, choM l (l.length + 1) 0 = R := ⟨_, rfl⟩
 rw [hR] at HC HM
 have z0 : decide ((400 : Int) < (l.length : Int)) = false := decide_eq_false (by omega)
 have y0 : decide (400 < l.length) = false := decide_eq_false (by omega)
 have HK0 := Lib.hid (KbA.new w (.int .i64 0) (.slice none 0 0) (.string ⟨#[]⟩) (.slice none 0 0) (.int .i64 0) (.int .i64 0))
 have HB0 := Lib.hid (al_below w (.cells #[.int .i64 0, .slice none 0 0, .string ⟨#[]⟩, .slice none 0 0, .int .i64 0, .int .i64 0] 38))
 have hs0 : (w.alloc (.cells #[.int .i64 0, .slice none 0 0, .string ⟨#[]⟩, .slice none 0 0, .int .i64 0, .int .i64 0] 38)).heap.size = w.heap.size + 1 := by simp
 clear hM hR
 go_enter Tryz.func36, Tryz.ntmps36
 go_wp2_with fail
 refine (HC.out _).mono ?_
 rintro e9 w1 ⟨j, e, bad, t, v, rfl, hT, hb, hr⟩
 rw [hs0] at hT hb
 have HB1 := Lib.hid (HB0.out.trans (hb.mono (Nat.le_succ _)))
 have HK1 := Lib.hid (HK0.out.on hb (Nat.lt_succ_self _))
 have hw1 : w.heap.size + 1 ≤ w1.heap.size := by have := hb.size; omega
 obtain ⟨op1, rs1, nm1, kk1, mn1, mx1, ra1, rc1, ka1, kc1, ht1, rfl, _⟩ := hT.open
 obtain ⟨rn1, hrn⟩ : ∃ n, rs1.length = n := ⟨_, rfl⟩
 obtain ⟨kn1, hkn⟩ : ∃ n, kk1.length = n := ⟨_, rfl⟩
 rw [hrn, hkn] at hT ⊢
 have HT1 := Lib.hid hT
 have HR := Lib.hid hr
 clear hrn hkn ht1 hT hb hr HB0 HK0 hs0
 go_upto_region 4 with fail
 have HP2 := Lib.hid ((RPb.new (l := l) (i := j) (e := e) (bad := bad) w1).on (al_below (w1.alloc (.cells #[.string ⟨l.toArray⟩, .int .i64 (j : Int), .int .i64 (e : Int), .int .i64 (bad : Int)] 111)) (.cells #[.int .i64 op1, .slice ra1 rn1 rc1, .string ⟨nm1.toArray⟩, .slice ka1 kn1 kc1, .int .i64 mn1, .int .i64 mx1] 38)) (by simp))
 have HQ2 : Hid (KbA (w1.heap.size + 1) ((w1.alloc (.cells #[.string ⟨l.toArray⟩, .int .i64 (j : Int), .int .i64 (e : Int), .int .i64 (bad : Int)] 111)).alloc (.cells #[.int .i64 op1, .slice ra1 rn1 rc1, .string ⟨nm1.toArray⟩, .slice ka1 kn1 kc1, .int .i64 mn1, .int .i64 mx1] 38)) (.int .i64 op1) (.slice ra1 rn1 rc1) (.string ⟨nm1.toArray⟩) (.slice ka1 kn1 kc1) (.int .i64 mn1) (.int .i64 mx1)) := Lib.hid (two_new w1 _ _)
 have hb2 : Below w1.heap.size w1 ((w1.alloc (.cells #[.string ⟨l.toArray⟩, .int .i64 (j : Int), .int .i64 (e : Int), .int .i64 (bad : Int)] 111)).alloc (.cells #[.int .i64 op1, .slice ra1 rn1 rc1, .string ⟨nm1.toArray⟩, .slice ka1 kn1 kc1, .int .i64 mn1, .int .i64 mx1] 38)) := (al_below w1 _).trans ((al_below _ _).mono (by simp))
 obtain ⟨w2, hw2⟩ : ∃ w2, (w1.alloc (.cells #[.string ⟨l.toArray⟩, .int .i64 (j : Int), .int .i64 (e : Int), .int .i64 (bad : Int)] 111)).alloc (.cells #[.int .i64 op1, .slice ra1 rn1 rc1, .string ⟨nm1.toArray⟩, .slice ka1 kn1 kc1, .int .i64 mn1, .int .i64 mx1] 38) = w2 := ⟨_, rfl⟩
 rw [hw2] at HP2 HQ2 hb2 ⊢
 have HK2 := Lib.hid (HK1.out.on hb2 HK1.out.lt)
 have HB2 := Lib.hid (HB1.out.trans (hb2.mono HB1.out.size))
 have HT2 : Hid (NG (fun k => w.heap.size < k) w2 t (.agg #[.int .i64 op1, .slice ra1 rn1 rc1, .string ⟨nm1.toArray⟩, .slice ka1 kn1 kc1, .int .i64 mn1, .int .i64 mx1])) := Lib.hid (NG.go ⟨hb2.size, fun k hk hl => ⟨hk, hb2.block k hl⟩⟩ _ _ HT1.out)
 obtain ⟨q, hq⟩ : ∃ q, w1.heap.size = q := ⟨_, rfl⟩
 rw [hq] at HP2 HQ2 hw1 ⊢
 have hqw : q ≠ w.heap.size := by omega
 have hqw' : q + 1 ≠ w.heap.size := by omega
 have hwq : w.heap.size ≠ q := by omega
 have hwq' : w.heap.size ≠ q + 1 := by omega
 clear hb2 hw2 hq HK1 HB1 HT1
 obtain ⟨⟨k0, k1, k2, k3, k4, k5⟩, h0, h1, h2, h3, h4, h5⟩ := HK2.out.cs
 obtain ⟨⟨q0, q1, q2, q3, q4, q5⟩, _⟩ := HQ2.out.cs
 have c0 := HP2.out.c0
 have c1 := HP2.out.c1
 have c2 := HP2.out.c2
 have c3 := HP2.out.c3
 have fz := HP2.out.fz
 cases hm : R with
 | error kx =>
  obtain ⟨k, x⟩ := kx
  have hr := HR.out
  have hmm := HM.out
  rw [hm] at hr hmm
  obtain ⟨⟨rfl, hx0, rfl⟩, _⟩ := hr
  have HE0 := Lib.hid hx0
  have HME : Hid (parM l = (none, bad, e)) := Lib.hid hmm
  have z1 : ((e : Int) == 0) = false := by rw [beq_eq_false_iff_ne]; omega
  have z2 : ((e : Int) != 0) = true := by simp; omega
  clear hm hmm HM HR hx0
  go_wp2_with fail
  go_region
  go_wp2_with fail
  rw [drew_stK]
  exact rpar_ret (P := 2) rfl (by rfl) (show KbA w.heap.size w2.drew _ _ _ _ _ _ from HK2.out) (by rw [HME.out]; rfl) (by rw [HME.out]; rfl) zero_ng HB2.out.drew ⟨fun h => by rw [HME.out] at h; exact absurd h HE0.out, fun _ => rfl⟩
 | ok tj =>
  obtain ⟨t', j'⟩ := tj
  have hr := HR.out
  have hmm := HM.out
  rw [hm] at hr hmm
  obtain ⟨⟨rfl, rfl, rfl⟩, rfl, hjl⟩ := hr
  by_cases hj : j < l.length
  ·have z1 : decide ((j : Int) < (l.length : Int)) = true := decide_eq_true (by omega)
   have y1 : decide (j < l.length) = true := decide_eq_true hj
   have HME : Hid (parM l = (none, j, 1)) := Lib.hid (by rw [hmm]; simp only [if_pos hj])
   have HF := Lib.hid fun W => rfail_any l j 0 1 j W
   clear hm hmm HM HR hj hjl
   go_wp2_with fail
   refine (HF.out _).mono ?_
   rintro e9 w3 ⟨rfl, hb⟩
   have HK3 := Lib.hid (HK2.out.on hb HK2.out.lt)
   have HP3 := Lib.hid (HP2.out.on hb HP2.out.lt)
   have HB3 := Lib.hid (HB2.out.trans (hb.mono HB2.out.size))
   clear hb c0 c1 c2 c3 fz k0 k1 k2 k3 k4 k5 h0 h1 h2 h3 h4 h5 q0 q1 q2 q3 q4 q5 HF
   have f0 := HP3.out.fz 0
   have f1 := HP3.out.fz 1
   have f2 := HP3.out.fz 2
   have f3 := HP3.out.fz 3
   have c0 := HP3.out.c0
   have c1 := HP3.out.c1
   have c2 := HP3.out.c2
   have c3 := HP3.out.c3
   go_upto_region 6 with fail
   obtain ⟨w4, hw4⟩ : ∃ w4, ((((w3.setCell ⟨q, 0, none⟩ (.string ⟨l.toArray⟩)).setCell ⟨q, 1, none⟩ (.int .i64 (j : Int))).setCell ⟨q, 2, none⟩ (.int .i64 1)).setCell ⟨q, 3, none⟩ (.int .i64 (j : Int))) = w4 := ⟨_, rfl⟩
   have HP4 : Hid (RPb q l j 1 j w4) := Lib.hid (by rw [← hw4]; exact st_four HP3.out)
   have HK4 : Hid (KbA w.heap.size w4 (.int .i64 0) (.slice none 0 0) (.string ⟨#[]⟩) (.slice none 0 0) (.int .i64 0) (.int .i64 0)) := Lib.hid (by rw [← hw4]; exact HK3.out.nest (Ne.symm hqw))
   have HB4 : Hid (Below w.heap.size w w4) := Lib.hid (HB3.out.trans (by rw [← hw4]; exact ((((Below.refl _ w3).setCell (p := ⟨q, 0, none⟩) (show w.heap.size ≤ q by omega) _).setCell (p := ⟨q, 1, none⟩) (show w.heap.size ≤ q by omega) _).setCell (p := ⟨q, 2, none⟩) (show w.heap.size ≤ q by omega) _).setCell (p := ⟨q, 3, none⟩) (show w.heap.size ≤ q by omega) _))
   rw [hw4]
   clear hw4 HP3 HK3 HB3 c0 c1 c2 c3 f0 f1 f2 f3
   obtain ⟨⟨k0, k1, k2, k3, k4, k5⟩, h0, h1, h2, h3, h4, h5⟩ := HK4.out.cs
   have c2 : w4.cell? ⟨q, 2, none⟩ = some (.int .i64 1) := HP4.out.c2
   have c3 := HP4.out.c3
   go_wp2_with fail
   go_region
   go_wp2_with fail
   rw [drew_stK]
   exact rpar_ret (P := 2) rfl (by rfl) (show KbA w.heap.size w4.drew _ _ _ _ _ _ from HK4.out) (by rw [HME.out]; rfl) (by rw [HME.out]; rfl) zero_ng HB4.out.drew ⟨fun h => (by rw [HME.out] at h; cases h), fun _ => rfl⟩
  ·have z1 : decide ((j : Int) < (l.length : Int)) = false := decide_eq_false (by omega)
   have y1 : decide (j < l.length) = false := decide_eq_false hj
   obtain ⟨C, hC⟩ : ∃ C, ckE t = C := ⟨_, rfl⟩
   have HMC : Hid (parM l = if C = 0 then (some t, l.length, 0) else (none, l.length, C)) := Lib.hid (by rw [hmm]; simp only [if_neg hj, hC])
   have HCK := Lib.hid fun W v (hv : NAt W t v) => rcheck_any t v W hv
   rw [hC] at HCK
   clear hm hmm HM HR hj hjl hC
   go_wp2_with fail
   refine (HCK.out _ _ HT2.out.at).mono ?_
   rintro e9 w3 ⟨rfl, hb⟩
   have HT3 : Hid (NG (fun k => w.heap.size < k) w3 t (.agg #[.int .i64 op1, .slice ra1 rn1 rc1, .string ⟨nm1.toArray⟩, .slice ka1 kn1 kc1, .int .i64 mn1, .int .i64 mx1])) := Lib.hid (NG.go ⟨hb.size, fun k hk hl => ⟨hk, hb.block k hl⟩⟩ _ _ HT2.out)
   have HK3 := Lib.hid (HK2.out.on hb HK2.out.lt)
   have HQ3 := Lib.hid (HQ2.out.on hb HQ2.out.lt)
   have HB3 := Lib.hid (HB2.out.trans (hb.mono HB2.out.size))
   clear hb HT2 HK2 HP2 HB2 HQ2 c0 c1 c2 c3 fz k0 k1 k2 k3 k4 k5 h0 h1 h2 h3 h4 h5 q0 q1 q2 q3 q4 q5
   obtain ⟨⟨k0, k1, k2, k3, k4, k5⟩, h0, h1, h2, h3, h4, h5⟩ := HK3.out.cs
   obtain ⟨⟨q0, q1, q2, q3, q4, q5⟩, _⟩ := HQ3.out.cs
   by_cases hC0 : C = 0
   ·subst hC0
    go_wp2_with fail
    exact rpar_ret (P := 2) rfl (by rfl) HK3.out (by rw [HMC.out]; rfl) (by rw [HMC.out]; rfl) HT3.out HB3.out ⟨fun _ => by rw [HMC.out]; rfl, fun h => absurd (by rw [HMC.out]; rfl) h⟩
   ·have z2 : ((C : Int) == 0) = false := by rw [beq_eq_false_iff_ne]; omega
    have z3 : ((C : Int) != 0) = true := by simp; omega
    have HCN := Lib.hid hC0
    clear hC0
    go_wp2_with fail
    exact rpar_ret (P := 2) rfl (by rfl) HK3.out (by rw [HMC.out, if_neg HCN.out]; rfl) (by rw [HMC.out, if_neg HCN.out]; rfl) zero_ng HB3.out ⟨fun h => by rw [HMC.out, if_neg HCN.out] at h; exact absurd h HCN.out, fun _ => rfl⟩
theorem rparse_full (l : List UInt8) (w : World) : Calls Tryz.prog 36 #[.string ⟨l.toArray⟩] w (ParY l w) := by
 rcases Nat.lt_or_ge 400 l.length with h | h
 ·exact rparse_long l h w
 ·exact rparse_short l h w
end Go.Proofs.YtgcpinnnfoanjaaGreatDoor

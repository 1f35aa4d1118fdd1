/-
  The law's sanity check and its bound on queries.
-/
import Derived.Test.YtmcnhphmglmmeaaQryK
import Derived.IntWalk
import Derived.Test.YtmcnhphmglmmeaaFacts
namespace Go.Proofs.Ytmcnhphmglmmeaa
open Go.RowKit

def leafT : QT := .node 0 [] [] 0 []
theorem awake_at (w : World) : TAt (w.alloc (.cells #[.int .i64 0, .string ⟨#[]⟩, .string ⟨#[]⟩, .int .i64 0, .slice none 0 0, .int .i64 0, .string ⟨#[]⟩, .string ⟨#[]⟩, .int .i64 0, .slice none 0 0] 24)) (.node 6 [] [] 0 [leafT, leafT])
    (.agg #[.int .i64 6, .string ⟨#[]⟩, .string ⟨#[]⟩, .int .i64 0, .slice (some ⟨w.heap.size, 0, none⟩) 2 2]) := by
  have hl : ∀ W : World, TAt W leafT (.agg #[.int .i64 0, .string ⟨#[]⟩, .string ⟨#[]⟩, .int .i64 0, .slice none 0 0]) := fun W => by
    unfold leafT
    rw [TAt]
    exact ⟨none, 0, rfl, by simp, fun h => by simp at h⟩
  rw [TAt]
  refine ⟨some ⟨w.heap.size, 0, none⟩, 2, rfl, by simp, fun _ => ⟨w.heap.size, 0, rfl, by simp, fun i hi => ?_⟩⟩
  match i, hi with
  | 0, _ => exact ⟨_, _, _, _, _, by simp [go_sem], by simp [go_sem], by simp [go_sem], by simp [go_sem], by simp [go_sem], hl _⟩
  | 1, _ => exact ⟨_, _, _, _, _, by simp [go_sem], by simp [go_sem], by simp [go_sem], by simp [go_sem], by simp [go_sem], hl _⟩
set_option maxRecDepth 100000 in
set_option maxHeartbeats 2000000 in
theorem awake_any (w : World) : Calls Try.prog 4 #[] w fun e w' => e = .returned (.bool true) ∧ Below w.heap.size w w' := by
  have HC := Lib.hid (qsize_aux _ _ _ _ (Nat.lt_succ_self _) (awake_at w))
  have HZ := Lib.hid (show qSz (.node 6 [] [] 0 [leafT, leafT]) = 3 by simp [qSz, qSzs, leafT])
  have HB := Lib.hid ((Below.refl _ w).alloc (Nat.le_refl _) (.cells #[.int .i64 0, .string ⟨#[]⟩, .string ⟨#[]⟩, .int .i64 0, .slice none 0 0, .int .i64 0, .string ⟨#[]⟩, .string ⟨#[]⟩, .int .i64 0, .slice none 0 0] 24))
  go_enter Try.func4, Try.ntmps4
  go_wp2_with fail
  refine HC.out.mono ?_
  rintro e w2 ⟨rfl, hb2⟩
  have HB3 := Lib.hid (HB.out.trans (hb2.mono HB.out.size))
  rw [HZ.out]
  go_wp2_with fail
  go_ret
  exact ⟨rfl, HB3.out⟩

def fineS : Int → List QS → Int
  | n, [] => n
  | n, s :: ss => if n < 300 then fineS (wrap64 (n + zT s.t)) ss else n
theorem fineS_step {ss : List QS} {k : Nat} (h : k < ss.length) (n : Int) : fineS n (ss.drop k) = if n < 300 then fineS (wrap64 (n + zT ss[k].t)) (ss.drop (k + 1)) else n := by
  rw [List.drop_eq_getElem_cons h, fineS]
def fineN (q : QQ) : Int := fineS (wrap64 (wrap64 (wrap64 (zT q.t + zT q.o) + q.ns.length) + q.gs.length)) q.ss

theorem lcons {l : List Value} {n : Nat} (h : l.length = n + 1) : ∃ x t, l = x :: t ∧ t.length = n := by
  cases l with
  | nil => simp at h
  | cons x t => exact ⟨x, t, rfl, by simpa using h⟩
theorem arr42 (a : Array Value) (h : a.size = 42) : ∃ x0 x1 x2 x3 x4 x5 x6 x7 x8 x9 x10 x11 x12 x13 x14 x15 x16 x17 x18 x19 x20 x21 x22 x23 x24 x25 x26 x27 x28 x29 x30 x31 x32 x33 x34 x35 x36 x37 x38 x39 x40 x41 : Value, a = (x0 :: x1 :: x2 :: x3 :: x4 :: x5 :: x6 :: x7 :: x8 :: x9 :: x10 :: x11 :: x12 :: x13 :: x14 :: x15 :: x16 :: x17 :: x18 :: x19 :: x20 :: x21 :: x22 :: x23 :: x24 :: x25 :: x26 :: x27 :: x28 :: x29 :: x30 :: x31 :: x32 :: x33 :: x34 :: x35 :: x36 :: x37 :: x38 :: x39 :: x40 :: x41 :: []).toArray := by
  obtain ⟨l⟩ := a
  simp only [List.size_toArray] at h
  obtain ⟨x0, l0, e0, h0⟩ := lcons h
  subst e0
  obtain ⟨x1, l1, e1, h1⟩ := lcons h0
  subst e1
  obtain ⟨x2, l2, e2, h2⟩ := lcons h1
  subst e2
  obtain ⟨x3, l3, e3, h3⟩ := lcons h2
  subst e3
  obtain ⟨x4, l4, e4, h4⟩ := lcons h3
  subst e4
  obtain ⟨x5, l5, e5, h5⟩ := lcons h4
  subst e5
  obtain ⟨x6, l6, e6, h6⟩ := lcons h5
  subst e6
  obtain ⟨x7, l7, e7, h7⟩ := lcons h6
  subst e7
  obtain ⟨x8, l8, e8, h8⟩ := lcons h7
  subst e8
  obtain ⟨x9, l9, e9, h9⟩ := lcons h8
  subst e9
  obtain ⟨x10, l10, e10, h10⟩ := lcons h9
  subst e10
  obtain ⟨x11, l11, e11, h11⟩ := lcons h10
  subst e11
  obtain ⟨x12, l12, e12, h12⟩ := lcons h11
  subst e12
  obtain ⟨x13, l13, e13, h13⟩ := lcons h12
  subst e13
  obtain ⟨x14, l14, e14, h14⟩ := lcons h13
  subst e14
  obtain ⟨x15, l15, e15, h15⟩ := lcons h14
  subst e15
  obtain ⟨x16, l16, e16, h16⟩ := lcons h15
  subst e16
  obtain ⟨x17, l17, e17, h17⟩ := lcons h16
  subst e17
  obtain ⟨x18, l18, e18, h18⟩ := lcons h17
  subst e18
  obtain ⟨x19, l19, e19, h19⟩ := lcons h18
  subst e19
  obtain ⟨x20, l20, e20, h20⟩ := lcons h19
  subst e20
  obtain ⟨x21, l21, e21, h21⟩ := lcons h20
  subst e21
  obtain ⟨x22, l22, e22, h22⟩ := lcons h21
  subst e22
  obtain ⟨x23, l23, e23, h23⟩ := lcons h22
  subst e23
  obtain ⟨x24, l24, e24, h24⟩ := lcons h23
  subst e24
  obtain ⟨x25, l25, e25, h25⟩ := lcons h24
  subst e25
  obtain ⟨x26, l26, e26, h26⟩ := lcons h25
  subst e26
  obtain ⟨x27, l27, e27, h27⟩ := lcons h26
  subst e27
  obtain ⟨x28, l28, e28, h28⟩ := lcons h27
  subst e28
  obtain ⟨x29, l29, e29, h29⟩ := lcons h28
  subst e29
  obtain ⟨x30, l30, e30, h30⟩ := lcons h29
  subst e30
  obtain ⟨x31, l31, e31, h31⟩ := lcons h30
  subst e31
  obtain ⟨x32, l32, e32, h32⟩ := lcons h31
  subst e32
  obtain ⟨x33, l33, e33, h33⟩ := lcons h32
  subst e33
  obtain ⟨x34, l34, e34, h34⟩ := lcons h33
  subst e34
  obtain ⟨x35, l35, e35, h35⟩ := lcons h34
  subst e35
  obtain ⟨x36, l36, e36, h36⟩ := lcons h35
  subst e36
  obtain ⟨x37, l37, e37, h37⟩ := lcons h36
  subst e37
  obtain ⟨x38, l38, e38, h38⟩ := lcons h37
  subst e38
  obtain ⟨x39, l39, e39, h39⟩ := lcons h38
  subst e39
  obtain ⟨x40, l40, e40, h40⟩ := lcons h39
  subst e40
  obtain ⟨x41, l41, e41, h41⟩ := lcons h40
  subst e41
  obtain rfl := List.length_eq_zero_iff.1 h41
  exact ⟨x0, x1, x2, x3, x4, x5, x6, x7, x8, x9, x10, x11, x12, x13, x14, x15, x16, x17, x18, x19, x20, x21, x22, x23, x24, x25, x26, x27, x28, x29, x30, x31, x32, x33, x34, x35, x36, x37, x38, x39, x40, x41, rfl⟩

set_option maxRecDepth 100000 in
set_option maxHeartbeats 4000000 in
theorem fine_any (q : QQ) (v : Value) (w : World) (h : QAt w q v) (b : Bool) (hf : decide (fineN q < 300) = b) :
    Calls Try.prog 5 #[v] w fun e w' => e = .returned (.bool b) ∧ Below w.heap.size w w' := by
  obtain ⟨t, ss, kd, lm, ls, ns, gs, sk, o, ky, wi⟩ := q
  obtain ⟨op, nm, tx, num, a, n, c, sa, sn, sc, na, nn, nc, ga, gn, gc, oop, onm, otx, onum, oa, on, oc, rfl, ht, hs, hn, hg, ho⟩ := h
  obtain ⟨sa, sc, e1, hsl, hsk⟩ := hs
  injection e1 with e1 e2 e3
  subst e1 e2 e3
  obtain ⟨na, nc, e1, hnl, _⟩ := hn
  injection e1 with e1 e2 e3
  subst e1 e2 e3
  obtain ⟨ga, gc, e1, hgl, _⟩ := hg
  injection e1 with e1 e2 e3
  subst e1 e2 e3
  simp only at ht ho hsl hnl hgl hsk hf
  unfold qVal
  unfold fineN at hf
  simp only at hf
  have HZT := Lib.hid fun W (hb : Below w.heap.size w W) => lawsize_aux _ _ _ W (Nat.lt_succ_self _) (TAt.later hb _ _ ht)
  have HZO := Lib.hid fun W (hb : Below w.heap.size w W) => lawsize_aux _ _ _ W (Nat.lt_succ_self _) (TAt.later hb _ _ ho)
  have HK := Lib.hid hsk
  have HB0 := Lib.hid ((Below.refl _ w).alloc (Nat.le_refl _) (.cells #[.int .i64 op, .string ⟨nm.toArray⟩, .string ⟨tx.toArray⟩, .int .i64 num, .slice a n c, .slice sa ss.length sc, .int .i64 kd, .int .i64 lm, .bool ls, .slice na ns.length nc, .slice ga gs.length gc, .int .i64 sk, .int .i64 oop, .string ⟨onm.toArray⟩, .string ⟨otx.toArray⟩, .int .i64 onum, .slice oa on oc, .string ⟨ky.toArray⟩, .int .i64 wi] 29))
  have hw0 : w.heap.size < (w.alloc (.cells #[.int .i64 op, .string ⟨nm.toArray⟩, .string ⟨tx.toArray⟩, .int .i64 num, .slice a n c, .slice sa ss.length sc, .int .i64 kd, .int .i64 lm, .bool ls, .slice na ns.length nc, .slice ga gs.length gc, .int .i64 sk, .int .i64 oop, .string ⟨onm.toArray⟩, .string ⟨otx.toArray⟩, .int .i64 onum, .slice oa on oc, .string ⟨ky.toArray⟩, .int .i64 wi] 29)).heap.size := by simp
  have HC1 : Hid (∀ i u, (#[.int .i64 op, .string ⟨nm.toArray⟩, .string ⟨tx.toArray⟩, .int .i64 num, .slice a n c, .slice sa ss.length sc, .int .i64 kd, .int .i64 lm, .bool ls, .slice na ns.length nc, .slice ga gs.length gc, .int .i64 sk, .int .i64 oop, .string ⟨onm.toArray⟩, .string ⟨otx.toArray⟩, .int .i64 onum, .slice oa on oc, .string ⟨ky.toArray⟩, .int .i64 wi] : Array Value)[i]? = some u → (w.alloc (.cells #[.int .i64 op, .string ⟨nm.toArray⟩, .string ⟨tx.toArray⟩, .int .i64 num, .slice a n c, .slice sa ss.length sc, .int .i64 kd, .int .i64 lm, .bool ls, .slice na ns.length nc, .slice ga gs.length gc, .int .i64 sk, .int .i64 oop, .string ⟨onm.toArray⟩, .string ⟨otx.toArray⟩, .int .i64 onum, .slice oa on oc, .string ⟨ky.toArray⟩, .int .i64 wi] 29)).cell? ⟨w.heap.size, i, none⟩ = some u) := Lib.hid (fun i u hu => by simp [go_sem]; simpa using hu)
  obtain ⟨w1, hw1⟩ : ∃ w1, (w.alloc (.cells #[.int .i64 op, .string ⟨nm.toArray⟩, .string ⟨tx.toArray⟩, .int .i64 num, .slice a n c, .slice sa ss.length sc, .int .i64 kd, .int .i64 lm, .bool ls, .slice na ns.length nc, .slice ga gs.length gc, .int .i64 sk, .int .i64 oop, .string ⟨onm.toArray⟩, .string ⟨otx.toArray⟩, .int .i64 onum, .slice oa on oc, .string ⟨ky.toArray⟩, .int .i64 wi] 29)) = w1 := ⟨_, rfl⟩
  rw [hw1] at HB0 hw0 HC1
  obtain ⟨zt, hzt⟩ : ∃ z, zT t = z := ⟨_, rfl⟩
  obtain ⟨zo, hzo⟩ : ∃ z, zT o = z := ⟨_, rfl⟩
  rw [hzt] at HZT hf
  rw [hzo] at HZO hf
  have HF := Lib.hid hf
  clear ht ho hsk hf hzt hzo
  go_enter Try.func5, Try.ntmps5
  go_wp2_with fail
  clear hw1
  refine wp_region_slots (by rfl) (by kernel_rfl) (by kernel_rfl) 42 [] [(1, .pointer (some ⟨w.heap.size, 0, none⟩)), (2, .bool false)] (by kernel_rfl) (fun W => Below w1.heap.size w1 W) (fun _ _ => True) (fun k v _ => v = (#[.pointer (some ⟨w.heap.size, 0, none⟩), .agg #[.int .i64 op, .string ⟨nm.toArray⟩, .string ⟨tx.toArray⟩, .int .i64 num, .slice a n c], .int .i64 (zt), .pointer (some ⟨w.heap.size, 12, none⟩), .agg #[.int .i64 oop, .string ⟨onm.toArray⟩, .string ⟨otx.toArray⟩, .int .i64 onum, .slice oa on oc], .int .i64 (zo), .int .i64 (IntKind.i64.wrap (zt + zo)), .pointer (some ⟨w.heap.size, 9, none⟩), .slice na ns.length nc, .int .i64 ((ns.length : Int)), .int .i64 (IntKind.i64.wrap (IntKind.i64.wrap (zt + zo) + (ns.length : Int))), .pointer (some ⟨w.heap.size, 10, none⟩), .slice ga gs.length gc, .int .i64 ((gs.length : Int)), .int .i64 (IntKind.i64.wrap (IntKind.i64.wrap (IntKind.i64.wrap (zt + zo) + (ns.length : Int)) + (gs.length : Int))), .int .i64 (IntKind.i64.wrap (IntKind.i64.wrap (IntKind.i64.wrap (zt + zo) + (ns.length : Int)) + (gs.length : Int)))] : Array Value)[k]!) (fun _ _ _ _ _ h => h) ?_ ?_ ⟨rfl, rfl, fun s v hs => ?_, (Below.refl _ _).drew⟩
  case refine_1 =>
    intro i o ho ac W hB hd K hK
    have hi16 : i < 16 := (Array.getElem?_eq_some_iff.1 ho).1
    have h1 : ac.tmps.getD 1 undef = .pointer (some ⟨w.heap.size, 0, none⟩) := hB.fixed 1 _ (by simp)
    have hBW : Below w1.heap.size w1 W := hB.inv
    have HBW := Lib.hid (HB0.out.trans (hBW.mono (Nat.le_of_lt hw0)))
    have HCW := Lib.hid fun i u hu => (hBW.cell (p := ⟨w.heap.size, i, none⟩) hw0).trans (HC1.out i u hu)
    have HKK := Lib.hid hK
    clear hK
    have HBB := Lib.hid hBW
    clear hBW
    rcases (show i = 0 ∨ i = 1 ∨ i = 2 ∨ i = 3 ∨ i = 4 ∨ i = 5 ∨ i = 6 ∨ i = 7 ∨ i = 8 ∨ i = 9 ∨ i = 10 ∨ i = 11 ∨ i = 12 ∨ i = 13 ∨ i = 14 ∨ i = 15 by omega) with rfl | rfl | rfl | rfl | rfl | rfl | rfl | rfl | rfl | rfl | rfl | rfl | rfl | rfl | rfl | rfl
    · obtain rfl := Option.some.inj ho
      go_simp
      exact HKK.out _ _ trivial HBB.out rfl
    · obtain rfl := Option.some.inj ho
      have hd0 : ac.tmps.getD 5 undef = .pointer (some ⟨w.heap.size, 0, none⟩) := hd ⟨0, .data⟩ (by simp) rfl
      have c0 : W.cell? ⟨w.heap.size, 0, none⟩ = some (.int .i64 op) := HCW.out 0 _ rfl
      have c1 : W.cell? ⟨w.heap.size, 1, none⟩ = some (.string ⟨nm.toArray⟩) := HCW.out 1 _ rfl
      have c2 : W.cell? ⟨w.heap.size, 2, none⟩ = some (.string ⟨tx.toArray⟩) := HCW.out 2 _ rfl
      have c3 : W.cell? ⟨w.heap.size, 3, none⟩ = some (.int .i64 num) := HCW.out 3 _ rfl
      have c4 : W.cell? ⟨w.heap.size, 4, none⟩ = some (.slice a n c) := HCW.out 4 _ rfl
      go_simp
      exact HKK.out _ _ trivial HBB.out rfl
    · obtain rfl := Option.some.inj ho
      have hd1 : ac.tmps.getD 6 undef = .agg #[.int .i64 op, .string ⟨nm.toArray⟩, .string ⟨tx.toArray⟩, .int .i64 num, .slice a n c] := hd ⟨1, .data⟩ (by simp) rfl
      go_simp
      refine (HZT.out W HBW.out).mono ?_
      rintro e w2 ⟨rfl, hb2⟩
      exact HKK.out _ _ trivial (HBB.out.trans (hb2.mono HBB.out.size)) rfl
    · obtain rfl := Option.some.inj ho
      go_simp
      exact HKK.out _ _ trivial HBB.out rfl
    · obtain rfl := Option.some.inj ho
      have hd3 : ac.tmps.getD 8 undef = .pointer (some ⟨w.heap.size, 12, none⟩) := hd ⟨3, .data⟩ (by simp) rfl
      have c12 : W.cell? ⟨w.heap.size, 12, none⟩ = some (.int .i64 oop) := HCW.out 12 _ rfl
      have c13 : W.cell? ⟨w.heap.size, 13, none⟩ = some (.string ⟨onm.toArray⟩) := HCW.out 13 _ rfl
      have c14 : W.cell? ⟨w.heap.size, 14, none⟩ = some (.string ⟨otx.toArray⟩) := HCW.out 14 _ rfl
      have c15 : W.cell? ⟨w.heap.size, 15, none⟩ = some (.int .i64 onum) := HCW.out 15 _ rfl
      have c16 : W.cell? ⟨w.heap.size, 16, none⟩ = some (.slice oa on oc) := HCW.out 16 _ rfl
      go_simp
      exact HKK.out _ _ trivial HBB.out rfl
    · obtain rfl := Option.some.inj ho
      have hd4 : ac.tmps.getD 9 undef = .agg #[.int .i64 oop, .string ⟨onm.toArray⟩, .string ⟨otx.toArray⟩, .int .i64 onum, .slice oa on oc] := hd ⟨4, .data⟩ (by simp) rfl
      go_simp
      refine (HZO.out W HBW.out).mono ?_
      rintro e w2 ⟨rfl, hb2⟩
      exact HKK.out _ _ trivial (HBB.out.trans (hb2.mono HBB.out.size)) rfl
    · obtain rfl := Option.some.inj ho
      have hd2 : ac.tmps.getD 7 undef = .int .i64 (zt) := hd ⟨2, .data⟩ (by simp) rfl
      have hd5 : ac.tmps.getD 10 undef = .int .i64 (zo) := hd ⟨5, .data⟩ (by simp) rfl
      go_simp
      exact HKK.out _ _ trivial HBB.out rfl
    · obtain rfl := Option.some.inj ho
      go_simp
      exact HKK.out _ _ trivial HBB.out rfl
    · obtain rfl := Option.some.inj ho
      have hd7 : ac.tmps.getD 12 undef = .pointer (some ⟨w.heap.size, 9, none⟩) := hd ⟨7, .data⟩ (by simp) rfl
      have c9 : W.cell? ⟨w.heap.size, 9, none⟩ = some (.slice na ns.length nc) := HCW.out 9 _ rfl
      go_simp
      exact HKK.out _ _ trivial HBB.out rfl
    · obtain rfl := Option.some.inj ho
      have hd8 : ac.tmps.getD 13 undef = .slice na ns.length nc := hd ⟨8, .data⟩ (by simp) rfl
      go_simp
      exact HKK.out _ _ trivial HBB.out rfl
    · obtain rfl := Option.some.inj ho
      have hd6 : ac.tmps.getD 11 undef = .int .i64 (IntKind.i64.wrap (zt + zo)) := hd ⟨6, .data⟩ (by simp) rfl
      have hd9 : ac.tmps.getD 14 undef = .int .i64 ((ns.length : Int)) := hd ⟨9, .data⟩ (by simp) rfl
      go_simp
      exact HKK.out _ _ trivial HBB.out rfl
    · obtain rfl := Option.some.inj ho
      go_simp
      exact HKK.out _ _ trivial HBB.out rfl
    · obtain rfl := Option.some.inj ho
      have hd11 : ac.tmps.getD 16 undef = .pointer (some ⟨w.heap.size, 10, none⟩) := hd ⟨11, .data⟩ (by simp) rfl
      have c10 : W.cell? ⟨w.heap.size, 10, none⟩ = some (.slice ga gs.length gc) := HCW.out 10 _ rfl
      go_simp
      exact HKK.out _ _ trivial HBB.out rfl
    · obtain rfl := Option.some.inj ho
      have hd12 : ac.tmps.getD 17 undef = .slice ga gs.length gc := hd ⟨12, .data⟩ (by simp) rfl
      go_simp
      exact HKK.out _ _ trivial HBB.out rfl
    · obtain rfl := Option.some.inj ho
      have hd10 : ac.tmps.getD 15 undef = .int .i64 (IntKind.i64.wrap (IntKind.i64.wrap (zt + zo) + (ns.length : Int))) := hd ⟨10, .data⟩ (by simp) rfl
      have hd13 : ac.tmps.getD 18 undef = .int .i64 ((gs.length : Int)) := hd ⟨13, .data⟩ (by simp) rfl
      go_simp
      exact HKK.out _ _ trivial HBB.out rfl
    · obtain rfl := Option.some.inj ho
      have hd14 : ac.tmps.getD 19 undef = .int .i64 (IntKind.i64.wrap (IntKind.i64.wrap (IntKind.i64.wrap (zt + zo) + (ns.length : Int)) + (gs.length : Int))) := hd ⟨14, .data⟩ (by simp) rfl
      go_simp
      exact HKK.out _ _ trivial HBB.out rfl
  case refine_2 =>
    intro ac W hB hG
    obtain ⟨tm, df⟩ := ac
    obtain ⟨x0, x1, x2, x3, x4, x5, x6, x7, x8, x9, x10, x11, x12, x13, x14, x15, x16, x17, x18, x19, x20, x21, x22, x23, x24, x25, x26, x27, x28, x29, x30, x31, x32, x33, x34, x35, x36, x37, x38, x39, x40, x41, rfl⟩ := arr42 tm hB.size
    obtain rfl : df = [] := hB.defers
    obtain rfl : x1 = .pointer (some ⟨w.heap.size, 0, none⟩) := hB.fixed 1 _ (by simp)
    obtain rfl : x2 = .bool false := hB.fixed 2 _ (by simp)
    have e3 : x3 = .int .i64 (IntKind.i64.wrap (IntKind.i64.wrap (IntKind.i64.wrap (zt + zo) + (ns.length : Int)) + (gs.length : Int))) := hG 15 (by decide)
    have HB := Lib.hid hB.inv
    clear hB hG
    simp only [IntWalk.i64_left] at e3
    have hf := HF.out
    obtain ⟨z, hz⟩ : ∃ z, wrap64 (wrap64 (wrap64 (zt + zo) + (ns.length : Int)) + (gs.length : Int)) = z := ⟨_, rfl⟩
    rw [hz] at e3 hf
    subst e3
    have HF2 := Lib.hid hf
    clear hf hz HF
    go_wp2_with fail
    go_loopw [3, 4] (fun n i wr => ∃ (m : Int) (k : Nat), n = .int .i64 m ∧ i = .int .i64 k ∧ k ≤ ss.length ∧ decide (fineS m (ss.drop k) < 300) = b ∧ Below w1.heap.size w1 wr) (fun _ i _ => ss.length - (intOf i).toNat)
    case atStart => exact ⟨z, 0, rfl, rfl, by omega, HF2.out, HB.out⟩
    case round =>
      obtain ⟨m, k, rfl, rfl, hkl, hq, hb⟩ := hrel
      have HQ := Lib.hid hq
      have HBR := Lib.hid hb
      have HBW := Lib.hid (HB0.out.trans (hb.mono (Nat.le_of_lt hw0)))
      have cb : wr.cell? ⟨w.heap.size, 5, none⟩ = some (.slice sa ss.length sc) := (hb.cell (p := ⟨w.heap.size, 5, none⟩) hw0).trans (HC1.out 5 _ rfl)
      clear hq hb
      by_cases hlt : k < ss.length
      · have HST := Lib.hid (fineS_step hlt m)
        have i1 : (k : Int) < (ss.length : Int) := by omega
        have i2 : (0 : Int) ≤ (k : Int) := by omega
        by_cases h60 : m < 300
        · obtain ⟨blk, off, ex, src, op', nm', tx', num', a', n', c', rfl, hl, _, _, c0, c1, c2, c3, c4, _, _, ht⟩ := HK.out k hlt
          have e0 := (HBW.out.cell (p := ⟨blk, off + k * 7 + 2, none⟩) hl).trans c0
          have e1 : wr.cell? ⟨blk, off + k * 7 + 2 + 1, none⟩ = _ := (HBW.out.cell (p := ⟨blk, off + k * 7 + 3, none⟩) hl).trans c1
          have e2 : wr.cell? ⟨blk, off + k * 7 + 2 + 2, none⟩ = _ := (HBW.out.cell (p := ⟨blk, off + k * 7 + 4, none⟩) hl).trans c2
          have e3 : wr.cell? ⟨blk, off + k * 7 + 2 + 3, none⟩ = _ := (HBW.out.cell (p := ⟨blk, off + k * 7 + 5, none⟩) hl).trans c3
          have e4 : wr.cell? ⟨blk, off + k * 7 + 2 + 4, none⟩ = _ := (HBW.out.cell (p := ⟨blk, off + k * 7 + 6, none⟩) hl).trans c4
          have HI := Lib.hid (lawsize_aux _ _ _ wr (Nat.lt_succ_self _) (TAt.later HBW.out _ _ ht))
          have HZ := Lib.hid (show decide (fineS (wrap64 (m + zT ss[k].t)) (ss.drop (k + 1)) < 300) = b by rw [← HQ.out, HST.out, if_pos h60])
          obtain ⟨s, hs2⟩ : ∃ s, zT ss[k].t = s := ⟨_, rfl⟩
          rw [hs2] at HI HZ
          clear c0 c1 c2 c3 c4 ht hs2
          have z1 : decide (m < 300) = true := decide_eq_true h60
          go_wp2_with fail
          refine HI.out.mono ?_
          rintro e w2 ⟨rfl, hb2⟩
          have HB3 := Lib.hid (HBR.out.trans (hb2.mono HBR.out.size))
          go_wp2_with fail
          go_roundw
          case rel => exact ⟨_, k + 1, rfl, by go_num, by omega, HZ.out, HB3.out⟩
          case measure => simp [intOf]; omega
        · have HZ := Lib.hid (show decide (m < 300) = b by rw [← HQ.out, HST.out, if_neg h60])
          have z1 : decide (m < 300) = false := decide_eq_false h60
          go_wp2_with fail
          all_goals
            go_ret
            exact ⟨ret_bool (by rw [← HZ.out, z1]), HBW.out⟩
      · obtain rfl : k = ss.length := by omega
        have HZ := Lib.hid (show decide (m < 300) = b by rw [← HQ.out, List.drop_length, fineS])
        by_cases h60 : m < 300
        · have z1 : decide (m < 300) = true := decide_eq_true h60
          go_wp2_with fail
          all_goals
            go_ret
            exact ⟨ret_bool (by rw [← HZ.out, z1]), HBW.out⟩
        · have z1 : decide (m < 300) = false := decide_eq_false h60
          go_wp2_with fail
          all_goals
            go_ret
            exact ⟨ret_bool (by rw [← HZ.out, z1]), HBW.out⟩
  · simp only [List.mem_cons, Prod.mk.injEq, List.not_mem_nil, or_false] at hs
    rcases hs with ⟨rfl, rfl⟩ | ⟨rfl, rfl⟩ <;> rfl

end Go.Proofs.Ytmcnhphmglmmeaa

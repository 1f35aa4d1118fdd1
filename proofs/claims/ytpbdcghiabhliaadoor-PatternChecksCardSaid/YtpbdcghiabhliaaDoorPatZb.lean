/-
  PatternChecks: for every node and every list of choices the law's answer is yes.
-/
import Derived.Test.YtpbdcghiabhliaaDoorPatYh
import Derived.Test.YtpbdcghiabhliaaDoorPatT
import Derived.Test.YtpbdcghiabhliaaDoorFactsG
namespace Go.Proofs.YtpbdcghiabhliaaDoor
open Go.RowKit

/-- The first kid of a node, in memory. -/
theorem kid0 {F : Nat → Prop} {w : World} {kids : List NT} {a : Option Addr} {n c : Nat} (h : RW F 6 (KR F w) w kids (.slice a n c)) {op : Int} {rs : List (UInt8 × UInt8)} {nm : List UInt8} {ks : List NT} {mn mx : Int} {rest : List NT} (hk : kids = .node op rs nm ks mn mx :: rest) :
    ∃ blk off, a = some ⟨blk, off, none⟩ ∧ blk < w.heap.size ∧ w.cell? ⟨blk, off + 2, none⟩ = some (.string ⟨nm.toArray⟩) := by
  subst hk
  obtain ⟨a', c', e, _, hk⟩ := h
  obtain ⟨blk, off, rfl, hl, _, hc⟩ := hk (by simp)
  obtain ⟨us, hu, hcell, hr⟩ := hc 0 (by simp)
  obtain ⟨op', rs', nm', ks', mn', mx', ra, rc, aa, cc, ht, hv, _⟩ := NG.open hr
  injection ht with e1 e2 e3
  injection e with e4
  refine ⟨blk, off, e4, hl, ?_⟩
  have h2 := hcell 2 (by omega)
  have hus : us = [.int .i64 op', .slice ra rs'.length rc, .string ⟨nm'.toArray⟩, .slice aa ks'.length cc, .int .i64 mn', .int .i64 mx'] := by
    injection hv with hv
    have := congrArg Array.toList hv
    simpa using this
  rw [hus] at h2
  rw [e3]
  simpa using h2

set_option maxHeartbeats 2000000 in
set_option maxRecDepth 1000000 in
theorem aw_any (w : World) (hk : Kinds w) : Calls Tryd.prog 6 #[] w fun e w' => e = .returned (.bool true) ∧ Below w.heap.size w w' := by
  have HA := Lib.hid (awake_any w hk)
  clear hk
  go_enter Tryd.func6, Tryd.ntmps6
  go_wp2_with fail
  refine HA.out.mono ?_
  rintro e w2 ⟨v, rfl, hT, hb⟩
  have HB := Lib.hid hb
  obtain ⟨op, rs, nm, kids, mn, mx, ra, rc, a, cc, ht, rfl, _, _, hkr⟩ := hT.open
  unfold awT at ht
  injection ht with e1 e2 e3 e4 e5 e6
  subst e1 e2 e3 e5 e6
  obtain ⟨blk, off, rfl, hl, hc⟩ := kid0 hkr e4.symm
  have hkl : kids.length = 3 := by rw [← e4]; rfl
  rw [hkl]
  have HB2 := Lib.hid (hb.trans ((al_below w2 (.cells #[.int .i64 2, .slice ra 0 rc, .string ⟨#[]⟩, .slice (some ⟨blk, off, none⟩) 3 cc, .int .i64 0, .int .i64 0] 25)).mono hb.size))
  have hc2 : (w2.alloc (.cells #[.int .i64 2, .slice ra 0 rc, .string ⟨#[]⟩, .slice (some ⟨blk, off, none⟩) 3 cc, .int .i64 0, .int .i64 0] 25)).cell? ⟨blk, off + 2, none⟩ = some (.string ⟨#[110]⟩) := ((al_below w2 _).cell (p := ⟨blk, off + 2, none⟩) hl).trans hc
  clear hT hkr e4 hkl hc hb hl
  go_wp2_with fail
  go_ret
  exact ⟨rfl, HB2.out⟩
end Go.Proofs.YtpbdcghiabhliaaDoor
namespace Go.Proofs.YtpbdcghiabhliaaDoor
open Go.RowKit

/-- What the operations of the list of nodes leave. -/
def LG (g : Nat) (ns ps : List Value) (k : Nat) (v : Value) (W : World) : Prop :=
  match k with
  | 0 => v = .agg ns.toArray
  | 1 => v = .agg ps.toArray
  | 2 => v = .pointer (some ⟨g, 0, none⟩)
  | 3 => v = .agg ps.toArray
  | 4 => ∃ t, NG (fun k => k ≠ g) W t v
  | 5 => v = .pointer (some ⟨g, 0, none⟩)
  | 6 => v = .pointer (some ⟨g, 0, none⟩)
  | 7 => v = .agg ps.toArray
  | 8 => ∃ t, NG (fun k => k ≠ g) W t v ∧ Sm 1001 t
  | 9 => ∃ t, NG (fun k => k ≠ g) W t v
  | 10 => ∃ (q : Nat) (us2 us3 : List Value) (t2 t3 : NT), v = .slice (some ⟨q, 0, none⟩) 4 4 ∧ q ≠ g ∧ q < W.heap.size ∧ W.heap[q]? = some (.cells (ns ++ (ps ++ (us2 ++ us3))).toArray 25 (0, 0)) ∧ us2.length = 6 ∧ us3.length = 6 ∧ KR (fun k => k ≠ g) W t2 us2 ∧ KR (fun k => k ≠ g) W t3 us3
  | 11 => v = .int .i64 4
  | 12 => v = .int .i64 0
  | _ => True
theorem ap_stay {g : Nat} {W W' : World} (h : Apart g W W') : Stay (fun k => k ≠ g) (fun k => k ≠ g) W W' := ⟨h.1.size, fun _ hk hl => ⟨hk, h.block hk hl⟩⟩
theorem LG.keep (g : Nat) (ns ps : List Value) : ∀ k v W W', Apart g W W' → LG g ns ps k v W → LG g ns ps k v W' := by
  intro k v W W' hR h
  have hs := ap_stay hR
  unfold LG at *
  split at h
  · exact h
  · exact h
  · exact h
  · exact h
  · obtain ⟨t, h⟩ := h
    exact ⟨t, NG.go hs _ _ h⟩
  · exact h
  · exact h
  · exact h
  · obtain ⟨t, h, h9⟩ := h
    exact ⟨t, NG.go hs _ _ h, h9⟩
  · obtain ⟨t, h⟩ := h
    exact ⟨t, NG.go hs _ _ h⟩
  · obtain ⟨q, us2, us3, t2, t3, h1, h2, h3, h4, h5, h6, h7, h8⟩ := h
    exact ⟨q, us2, us3, t2, t3, h1, h2, Nat.lt_of_lt_of_le h3 hR.1.size, (hR.block h2 h3).trans h4, h5, h6, KR.go hs _ _ h7, KR.go hs _ _ h8⟩
  · exact h
  · exact h
  · trivial
theorem lcons {l : List Value} {n : Nat} (h : l.length = n + 1) : ∃ x t, l = x :: t ∧ t.length = n := by
  cases l with
  | nil => simp at h
  | cons x t => exact ⟨x, t, rfl, by simpa using h⟩
theorem arr44 (a : Array Value) (h : a.size = 44) : ∃ x0 x1 x2 x3 x4 x5 x6 x7 x8 x9 x10 x11 x12 x13 x14 x15 x16 x17 x18 x19 x20 x21 x22 x23 x24 x25 x26 x27 x28 x29 x30 x31 x32 x33 x34 x35 x36 x37 x38 x39 x40 x41 x42 x43 : Value, a = (x0 :: x1 :: x2 :: x3 :: x4 :: x5 :: x6 :: x7 :: x8 :: x9 :: x10 :: x11 :: x12 :: x13 :: x14 :: x15 :: x16 :: x17 :: x18 :: x19 :: x20 :: x21 :: x22 :: x23 :: x24 :: x25 :: x26 :: x27 :: x28 :: x29 :: x30 :: x31 :: x32 :: x33 :: x34 :: x35 :: x36 :: x37 :: x38 :: x39 :: x40 :: x41 :: x42 :: x43 :: []).toArray := by
  obtain ⟨l⟩ := a
  simp only [List.size_toArray] at h
  obtain ⟨x0, l0, e0, h0⟩ := lcons h
  subst e0
  obtain ⟨x1, l1, e1, h1⟩ := lcons h0
  subst e1
  obtain ⟨x2, l2, e2, h2⟩ := lcons h1
  subst e2
  obtain ⟨x3, l3, e3, h3⟩ := lcons h2
  subst e3
  obtain ⟨x4, l4, e4, h4⟩ := lcons h3
  subst e4
  obtain ⟨x5, l5, e5, h5⟩ := lcons h4
  subst e5
  obtain ⟨x6, l6, e6, h6⟩ := lcons h5
  subst e6
  obtain ⟨x7, l7, e7, h7⟩ := lcons h6
  subst e7
  obtain ⟨x8, l8, e8, h8⟩ := lcons h7
  subst e8
  obtain ⟨x9, l9, e9, h9⟩ := lcons h8
  subst e9
  obtain ⟨x10, l10, e10, h10⟩ := lcons h9
  subst e10
  obtain ⟨x11, l11, e11, h11⟩ := lcons h10
  subst e11
  obtain ⟨x12, l12, e12, h12⟩ := lcons h11
  subst e12
  obtain ⟨x13, l13, e13, h13⟩ := lcons h12
  subst e13
  obtain ⟨x14, l14, e14, h14⟩ := lcons h13
  subst e14
  obtain ⟨x15, l15, e15, h15⟩ := lcons h14
  subst e15
  obtain ⟨x16, l16, e16, h16⟩ := lcons h15
  subst e16
  obtain ⟨x17, l17, e17, h17⟩ := lcons h16
  subst e17
  obtain ⟨x18, l18, e18, h18⟩ := lcons h17
  subst e18
  obtain ⟨x19, l19, e19, h19⟩ := lcons h18
  subst e19
  obtain ⟨x20, l20, e20, h20⟩ := lcons h19
  subst e20
  obtain ⟨x21, l21, e21, h21⟩ := lcons h20
  subst e21
  obtain ⟨x22, l22, e22, h22⟩ := lcons h21
  subst e22
  obtain ⟨x23, l23, e23, h23⟩ := lcons h22
  subst e23
  obtain ⟨x24, l24, e24, h24⟩ := lcons h23
  subst e24
  obtain ⟨x25, l25, e25, h25⟩ := lcons h24
  subst e25
  obtain ⟨x26, l26, e26, h26⟩ := lcons h25
  subst e26
  obtain ⟨x27, l27, e27, h27⟩ := lcons h26
  subst e27
  obtain ⟨x28, l28, e28, h28⟩ := lcons h27
  subst e28
  obtain ⟨x29, l29, e29, h29⟩ := lcons h28
  subst e29
  obtain ⟨x30, l30, e30, h30⟩ := lcons h29
  subst e30
  obtain ⟨x31, l31, e31, h31⟩ := lcons h30
  subst e31
  obtain ⟨x32, l32, e32, h32⟩ := lcons h31
  subst e32
  obtain ⟨x33, l33, e33, h33⟩ := lcons h32
  subst e33
  obtain ⟨x34, l34, e34, h34⟩ := lcons h33
  subst e34
  obtain ⟨x35, l35, e35, h35⟩ := lcons h34
  subst e35
  obtain ⟨x36, l36, e36, h36⟩ := lcons h35
  subst e36
  obtain ⟨x37, l37, e37, h37⟩ := lcons h36
  subst e37
  obtain ⟨x38, l38, e38, h38⟩ := lcons h37
  subst e38
  obtain ⟨x39, l39, e39, h39⟩ := lcons h38
  subst e39
  obtain ⟨x40, l40, e40, h40⟩ := lcons h39
  subst e40
  obtain ⟨x41, l41, e41, h41⟩ := lcons h40
  subst e41
  obtain ⟨x42, l42, e42, h42⟩ := lcons h41
  subst e42
  obtain ⟨x43, l43, e43, h43⟩ := lcons h42
  subst e43
  obtain rfl := List.length_eq_zero_iff.1 h43
  exact ⟨x0, x1, x2, x3, x4, x5, x6, x7, x8, x9, x10, x11, x12, x13, x14, x15, x16, x17, x18, x19, x20, x21, x22, x23, x24, x25, x26, x27, x28, x29, x30, x31, x32, x33, x34, x35, x36, x37, x38, x39, x40, x41, x42, x43, rfl⟩
/-- A node out of a block. -/
theorem KR.lits {F : Nat → Prop} {w : World} {t : NT} {us : List Value} (h : KR F w t us) : ∃ op rs nm ks mn mx ra rc a c, us = [.int .i64 op, .slice ra (rs : List (UInt8 × UInt8)).length rc, .string ⟨(nm : List UInt8).toArray⟩, .slice a (ks : List NT).length c, .int .i64 mn, .int .i64 mx] := by
  obtain ⟨op, rs, nm, ks, mn, mx, ra, rc, a, c, _, hv, _⟩ := NG.open h
  refine ⟨op, rs, nm, ks, mn, mx, ra, rc, a, c, ?_⟩
  injection hv with hv
  have := congrArg Array.toList hv
  simpa using this

/-- The k-th node of the list. -/
def EL (q k : Nat) (W : World) : Prop := ∃ (t : NT) (op : Int) (rs : List (UInt8 × UInt8)) (nm : List UInt8) (ks : List NT) (mn mx : Int) (ra : Option Addr) (rc : Nat) (a : Option Addr) (c : Nat),
  (W.cell? ⟨q, k * 6, none⟩ = some (.int .i64 op) ∧ W.cell? ⟨q, k * 6 + 1, none⟩ = some (.slice ra rs.length rc) ∧ W.cell? ⟨q, k * 6 + 2, none⟩ = some (.string ⟨nm.toArray⟩) ∧ W.cell? ⟨q, k * 6 + 3, none⟩ = some (.slice a ks.length c) ∧ W.cell? ⟨q, k * 6 + 4, none⟩ = some (.int .i64 mn) ∧ W.cell? ⟨q, k * 6 + 5, none⟩ = some (.int .i64 mx)) ∧
  NAt W t (.agg #[.int .i64 op, .slice ra rs.length rc, .string ⟨nm.toArray⟩, .slice a ks.length c, .int .i64 mn, .int .i64 mx])
theorem EL.on {q k : Nat} {W W' : World} (h : EL q k W) (hb : Below W.heap.size W W') (hq : q < W.heap.size) : EL q k W' := by
  obtain ⟨t, op, rs, nm, ks, mn, mx, ra, rc, a, c, ⟨h0, h1, h2, h3, h4, h5⟩, hn⟩ := h
  have hc : ∀ i, W'.cell? ⟨q, i, none⟩ = W.cell? ⟨q, i, none⟩ := fun i => hb.cell (p := ⟨q, i, none⟩) hq
  exact ⟨t, op, rs, nm, ks, mn, mx, ra, rc, a, c, ⟨(hc _).trans h0, (hc _).trans h1, (hc _).trans h2, (hc _).trans h3, (hc _).trans h4, (hc _).trans h5⟩, NAt.later hb _ _ hn⟩
theorem el_row {q : Nat} {W : World} {us0 us1 us2 us3 : List Value} {ty : TypeId} (hr : W.heap[q]? = some (.cells (us0 ++ (us1 ++ (us2 ++ us3))).toArray ty (0, 0)))
    (h : ∀ us, us = us0 ∨ us = us1 ∨ us = us2 ∨ us = us3 → ∃ (t : NT) (op : Int) (rs : List (UInt8 × UInt8)) (nm : List UInt8) (ks : List NT) (mn mx : Int) (ra : Option Addr) (rc : Nat) (a : Option Addr) (c : Nat), us = [.int .i64 op, .slice ra rs.length rc, .string ⟨nm.toArray⟩, .slice a ks.length c, .int .i64 mn, .int .i64 mx] ∧ NAt W t (.agg us.toArray)) : ∀ k, k < 4 → EL q k W := by
  have hc : ∀ i, W.cell? ⟨q, i, none⟩ = (us0 ++ (us1 ++ (us2 ++ us3)))[i]? := fun i => by rw [cell_of_row _ _ _ _ _ _ hr]; simp
  obtain ⟨t0, op0, rs0, nm0, ks0, mn0, mx0, ra0, rc0, a0, c0, rfl, n0⟩ := h us0 (by simp)
  obtain ⟨t1, op1, rs1, nm1, ks1, mn1, mx1, ra1, rc1, a1, c1, rfl, n1⟩ := h us1 (by simp)
  obtain ⟨t2, op2, rs2, nm2, ks2, mn2, mx2, ra2, rc2, a2, c2, rfl, n2⟩ := h us2 (by simp)
  obtain ⟨t3, op3, rs3, nm3, ks3, mn3, mx3, ra3, rc3, a3, c3, rfl, n3⟩ := h us3 (by simp)
  intro k hk
  match k, hk with
  | 0, _ => exact ⟨t0, op0, rs0, nm0, ks0, mn0, mx0, ra0, rc0, a0, c0, ⟨(hc _).trans rfl, (hc _).trans rfl, (hc _).trans rfl, (hc _).trans rfl, (hc _).trans rfl, (hc _).trans rfl⟩, n0⟩
  | 1, _ => exact ⟨t1, op1, rs1, nm1, ks1, mn1, mx1, ra1, rc1, a1, c1, ⟨(hc _).trans rfl, (hc _).trans rfl, (hc _).trans rfl, (hc _).trans rfl, (hc _).trans rfl, (hc _).trans rfl⟩, n1⟩
  | 2, _ => exact ⟨t2, op2, rs2, nm2, ks2, mn2, mx2, ra2, rc2, a2, c2, ⟨(hc _).trans rfl, (hc _).trans rfl, (hc _).trans rfl, (hc _).trans rfl, (hc _).trans rfl, (hc _).trans rfl⟩, n2⟩
  | 3, _ => exact ⟨t3, op3, rs3, nm3, ks3, mn3, mx3, ra3, rc3, a3, c3, ⟨(hc _).trans rfl, (hc _).trans rfl, (hc _).trans rfl, (hc _).trans rfl, (hc _).trans rfl, (hc _).trans rfl⟩, n3⟩

set_option maxRecDepth 100000 in
set_option maxHeartbeats 4000000 in
theorem law_any (tn : NT) (vn vc : Value) (cs : List UInt8) (w : World) (hn : NAt w tn vn) (hc : BS w vc cs) (hk : Kinds w) :
    Calls Tryd.prog 3 #[vn, vc] w fun e w' => e = .returned (.bool true) ∧ Below w.heap.size w w' := by
  have HN := Lib.hid hn
  have HCS := Lib.hid hc
  obtain ⟨op1, rs1, nm1, ks1, mn1, mx1, ra1, rc1, a1, c1, _, rfl, _⟩ := hn.open
  clear hc
  have HBK1 := Lib.hid (nE_new w op1 ra1 rs1.length rc1 nm1 a1 ks1.length c1 mn1 mx1)
  have HB0 := Lib.hid (al_below w (.cells #[.int .i64 op1, .slice ra1 rs1.length rc1, .string ⟨nm1.toArray⟩, .slice a1 ks1.length c1, .int .i64 mn1, .int .i64 mx1] 25))
  have HK := Lib.hid hk
  have hs0 : w.heap.size + 1 = (w.alloc (.cells #[.int .i64 op1, .slice ra1 rs1.length rc1, .string ⟨nm1.toArray⟩, .slice a1 ks1.length c1, .int .i64 mn1, .int .i64 mx1] 25)).heap.size := by simp
  obtain ⟨W0, hW0⟩ : ∃ W0, w.alloc (.cells #[.int .i64 op1, .slice ra1 rs1.length rc1, .string ⟨nm1.toArray⟩, .slice a1 ks1.length c1, .int .i64 mn1, .int .i64 mx1] 25) = W0 := ⟨_, rfl⟩
  rw [hW0] at HBK1 HB0 hs0
  clear hk
  go_enter Tryd.func3, Tryd.ntmps3
  go_wp2_with fail
  clear hW0
  refine (aw_any _ (HK.out.below HB0.out)).mono ?_
  rintro e w1 ⟨rfl, hb1⟩
  have HB1 := Lib.hid hb1
  clear hb1
  go_wp2_with fail
  refine (new_any vc cs 200 w1 (HCS.out.below (HB0.out.trans (HB1.out.mono (by omega)))) (by omega)).mono ?_
  rintro e w2 ⟨rfl, hca, hb2⟩
  obtain ⟨g, hg⟩ : ∃ g, g = w1.heap.size := ⟨_, rfl⟩
  have hgW : W0.heap.size ≤ g := by have := HB1.out.size; omega
  have HB2 := Lib.hid (HB1.out.trans (hb2.mono HB1.out.size))
  rw [← hg] at hca ⊢
  have HCA := Lib.hid hca
  clear hg hb2 hca
  go_wp2_with fail
  refine (node_any 4 (by omega) g w2 HCA.out).mono ?_
  rintro e w3 ⟨vp, tp, rfl, hT, hgd, hsm⟩
  have HSM := Lib.hid hsm
  have hg2 : g < w2.heap.size := HCA.out.1
  have HT3 : Hid (NG (fun k => k ≠ g) w3 tp vp) := Lib.hid (NG.go ⟨Nat.le_refl _, fun k hk _ => ⟨by omega, rfl⟩⟩ _ _ hT)
  obtain ⟨op2, rs2, nm2, ks2, mn2, mx2, ra2, rc2, a2, c2, _, rfl, _⟩ := hT.open
  have HG3 := Lib.hid hgd
  clear hT hgd hsm
  have HBK2 := Lib.hid (nE_new w3 op2 ra2 rs2.length rc2 nm2 a2 ks2.length c2 mn2 mx2)
  have HG4 := Lib.hid (HG3.out.al (.cells #[.int .i64 op2, .slice ra2 rs2.length rc2, .string ⟨nm2.toArray⟩, .slice a2 ks2.length c2, .int .i64 mn2, .int .i64 mx2] 25))
  have HT4 := Lib.hid (NG.go (ap_stay (Apart.of_below (al_below w3 (.cells #[.int .i64 op2, .slice ra2 rs2.length rc2, .string ⟨nm2.toArray⟩, .slice a2 ks2.length c2, .int .i64 mn2, .int .i64 mx2] 25)) HG3.out.codes.1)) _ _ HT3.out)
  have hq2 : w3.heap.size < (w3.alloc (.cells #[.int .i64 op2, .slice ra2 rs2.length rc2, .string ⟨nm2.toArray⟩, .slice a2 ks2.length c2, .int .i64 mn2, .int .i64 mx2] 25)).heap.size := by simp
  have hg3 : g < w3.heap.size := HG3.out.codes.1
  obtain ⟨w4, hw4⟩ : ∃ w4, w3.alloc (.cells #[.int .i64 op2, .slice ra2 rs2.length rc2, .string ⟨nm2.toArray⟩, .slice a2 ks2.length c2, .int .i64 mn2, .int .i64 mx2] 25) = w4 := ⟨_, rfl⟩
  rw [hw4] at HBK2 HG4 HT4 hq2
  have HBK1' := Lib.hid ((HBK1.out.on HB2.out (by omega)).go HG4.out.ap (by omega))
  have HV4 := Lib.hid (HB0.out.trans ((Apart.below HB2.out HG4.out.ap hgW).mono (by omega)))
  have HC4 := Lib.hid HG4.out.codes
  clear HG3 HT3 HBK1 HG4
  go_wp2_with fail
  clear hw4
  refine wp_region_slots (by rfl) (by kernel_rfl) (by kernel_rfl) 44 [] [(2, .pointer (some ⟨w.heap.size, 0, none⟩)), (5, .pointer (some ⟨g, 0, none⟩)), (6, .pointer (some ⟨w3.heap.size, 0, none⟩))] (by kernel_rfl) (GD g w4) (Apart g) (LG g [.int .i64 op1, .slice ra1 rs1.length rc1, .string ⟨nm1.toArray⟩, .slice a1 ks1.length c1, .int .i64 mn1, .int .i64 mx1] [.int .i64 op2, .slice ra2 rs2.length rc2, .string ⟨nm2.toArray⟩, .slice a2 ks2.length c2, .int .i64 mn2, .int .i64 mx2]) (LG.keep g _ _) ?_ ?_ ⟨rfl, rfl, fun s v hs => ?_, (GD.start HC4.out).dr⟩
  case refine_1 =>
    intro i o ho ac W hB hd K hK
    have hi13 : i < 13 := (Array.getElem?_eq_some_iff.1 ho).1
    have h2 : ac.tmps.getD 2 undef = .pointer (some ⟨w.heap.size, 0, none⟩) := hB.fixed 2 _ (by simp)
    have h5 : ac.tmps.getD 5 undef = .pointer (some ⟨g, 0, none⟩) := hB.fixed 5 _ (by simp)
    have h6 : ac.tmps.getD 6 undef = .pointer (some ⟨w3.heap.size, 0, none⟩) := hB.fixed 6 _ (by simp)
    have HI := Lib.hid hB.inv
    have HTW := Lib.hid (NG.go (ap_stay HI.out.ap) _ _ HT4.out)
    have HKA := Lib.hid (HBK1'.out.go HI.out.ap (by omega))
    have HKP := Lib.hid (HBK2.out.go HI.out.ap (by omega))
    have HKK := Lib.hid hK
    clear hK
    rcases (show i = 0 ∨ i = 1 ∨ i = 2 ∨ i = 3 ∨ i = 4 ∨ i = 5 ∨ i = 6 ∨ i = 7 ∨ i = 8 ∨ i = 9 ∨ i = 10 ∨ i = 11 ∨ i = 12 by omega) with rfl | rfl | rfl | rfl | rfl | rfl | rfl | rfl | rfl | rfl | rfl | rfl | rfl
    · obtain rfl := Option.some.inj ho
      obtain ⟨q0, q1, q2, q3, q4, q5⟩ := bkn HKA.out
      go_simp
      exact HKK.out _ _ (Apart.refl g W) HI.out rfl
    · obtain rfl := Option.some.inj ho
      obtain ⟨q0, q1, q2, q3, q4, q5⟩ := bkn HKP.out
      go_simp
      exact HKK.out _ _ (Apart.refl g W) HI.out rfl
    · obtain rfl := Option.some.inj ho
      go_simp
      exact HKK.out _ _ (Apart.refl g W) HI.out rfl
    · obtain rfl := Option.some.inj ho
      obtain ⟨q0, q1, q2, q3, q4, q5⟩ := bkn HKP.out
      go_simp
      exact HKK.out _ _ (Apart.refl g W) HI.out rfl
    · obtain rfl := Option.some.inj ho
      have hd2 : LG g [.int .i64 op1, .slice ra1 rs1.length rc1, .string ⟨nm1.toArray⟩, .slice a1 ks1.length c1, .int .i64 mn1, .int .i64 mx1] [.int .i64 op2, .slice ra2 rs2.length rc2, .string ⟨nm2.toArray⟩, .slice a2 ks2.length c2, .int .i64 mn2, .int .i64 mx2] 2 (ac.tmps.getD 17 undef) W := hd ⟨2, .data⟩ (by simp) rfl
      simp only [LG] at hd2
      have hd3 : LG g [.int .i64 op1, .slice ra1 rs1.length rc1, .string ⟨nm1.toArray⟩, .slice a1 ks1.length c1, .int .i64 mn1, .int .i64 mx1] [.int .i64 op2, .slice ra2 rs2.length rc2, .string ⟨nm2.toArray⟩, .slice a2 ks2.length c2, .int .i64 mn2, .int .i64 mx2] 3 (ac.tmps.getD 18 undef) W := hd ⟨3, .data⟩ (by simp) rfl
      simp only [LG] at hd3
      go_simp
      refine (spoil_any tp _ (fun k => k ≠ g) 1000 g W (fun _ h => h) HI.out.codes HTW.out HSM.out (by omega)).mono ?_
      rintro e W2 ⟨v, t, rfl, hT, hg9, hsm⟩
      exact HKK.out _ _ hg9.ap (HI.out.go hg9.ap hg9.codes) ⟨t, NG.go ⟨Nat.le_refl _, fun k hk _ => ⟨hk.elim id (fun h => by have := HI.out.codes.1; omega), rfl⟩⟩ _ _ hT⟩
    · obtain rfl := Option.some.inj ho
      go_simp
      exact HKK.out _ _ (Apart.refl g W) HI.out rfl
    · obtain rfl := Option.some.inj ho
      go_simp
      exact HKK.out _ _ (Apart.refl g W) HI.out rfl
    · obtain rfl := Option.some.inj ho
      obtain ⟨q0, q1, q2, q3, q4, q5⟩ := bkn HKP.out
      go_simp
      exact HKK.out _ _ (Apart.refl g W) HI.out rfl
    · obtain rfl := Option.some.inj ho
      have hd6 : LG g [.int .i64 op1, .slice ra1 rs1.length rc1, .string ⟨nm1.toArray⟩, .slice a1 ks1.length c1, .int .i64 mn1, .int .i64 mx1] [.int .i64 op2, .slice ra2 rs2.length rc2, .string ⟨nm2.toArray⟩, .slice a2 ks2.length c2, .int .i64 mn2, .int .i64 mx2] 6 (ac.tmps.getD 21 undef) W := hd ⟨6, .data⟩ (by simp) rfl
      simp only [LG] at hd6
      have hd7 : LG g [.int .i64 op1, .slice ra1 rs1.length rc1, .string ⟨nm1.toArray⟩, .slice a1 ks1.length c1, .int .i64 mn1, .int .i64 mx1] [.int .i64 op2, .slice ra2 rs2.length rc2, .string ⟨nm2.toArray⟩, .slice a2 ks2.length c2, .int .i64 mn2, .int .i64 mx2] 7 (ac.tmps.getD 22 undef) W := hd ⟨7, .data⟩ (by simp) rfl
      simp only [LG] at hd7
      go_simp
      refine (spoil_any tp _ (fun k => k ≠ g) 1000 g W (fun _ h => h) HI.out.codes HTW.out HSM.out (by omega)).mono ?_
      rintro e W2 ⟨v, t, rfl, hT, hg9, hsm⟩
      exact HKK.out _ _ hg9.ap (HI.out.go hg9.ap hg9.codes) ⟨t, NG.go ⟨Nat.le_refl _, fun k hk _ => ⟨hk.elim id (fun h => by have := HI.out.codes.1; omega), rfl⟩⟩ _ _ hT, hsm⟩
    · obtain rfl := Option.some.inj ho
      have hd5 : LG g [.int .i64 op1, .slice ra1 rs1.length rc1, .string ⟨nm1.toArray⟩, .slice a1 ks1.length c1, .int .i64 mn1, .int .i64 mx1] [.int .i64 op2, .slice ra2 rs2.length rc2, .string ⟨nm2.toArray⟩, .slice a2 ks2.length c2, .int .i64 mn2, .int .i64 mx2] 5 (ac.tmps.getD 20 undef) W := hd ⟨5, .data⟩ (by simp) rfl
      simp only [LG] at hd5
      have hd8 : LG g [.int .i64 op1, .slice ra1 rs1.length rc1, .string ⟨nm1.toArray⟩, .slice a1 ks1.length c1, .int .i64 mn1, .int .i64 mx1] [.int .i64 op2, .slice ra2 rs2.length rc2, .string ⟨nm2.toArray⟩, .slice a2 ks2.length c2, .int .i64 mn2, .int .i64 mx2] 8 (ac.tmps.getD 23 undef) W := hd ⟨8, .data⟩ (by simp) rfl
      simp only [LG] at hd8
      obtain ⟨t8, ht8, hs8⟩ := hd8
      obtain ⟨op3, rs3, nm3, ks3, mn3, mx3, ra3, rc3, a3, c3, _, hv, _⟩ := ht8.open
      rw [hv] at ht8
      have hv2 : ac.tmps[23]?.getD undef = .agg #[.int .i64 op3, .slice ra3 rs3.length rc3, .string ⟨nm3.toArray⟩, .slice a3 ks3.length c3, .int .i64 mn3, .int .i64 mx3] := by rw [← Array.getD_eq_getD_getElem?]; exact hv
      have HT8 := Lib.hid ht8
      have HS8 := Lib.hid hs8
      clear ht8 hs8
      go_simp
      refine (spoil_any t8 _ (fun k => k ≠ g) 1001 g W (fun _ h => h) HI.out.codes HT8.out HS8.out (by omega)).mono ?_
      rintro e W2 ⟨v, t, rfl, hT, hg9, hsm⟩
      exact HKK.out _ _ hg9.ap (HI.out.go hg9.ap hg9.codes) ⟨t, NG.go ⟨Nat.le_refl _, fun k hk _ => ⟨hk.elim id (fun h => by have := HI.out.codes.1; omega), rfl⟩⟩ _ _ hT⟩
    · obtain rfl := Option.some.inj ho
      have hd0 : LG g [.int .i64 op1, .slice ra1 rs1.length rc1, .string ⟨nm1.toArray⟩, .slice a1 ks1.length c1, .int .i64 mn1, .int .i64 mx1] [.int .i64 op2, .slice ra2 rs2.length rc2, .string ⟨nm2.toArray⟩, .slice a2 ks2.length c2, .int .i64 mn2, .int .i64 mx2] 0 (ac.tmps.getD 15 undef) W := hd ⟨0, .data⟩ (by simp) rfl
      simp only [LG] at hd0
      have hd1 : LG g [.int .i64 op1, .slice ra1 rs1.length rc1, .string ⟨nm1.toArray⟩, .slice a1 ks1.length c1, .int .i64 mn1, .int .i64 mx1] [.int .i64 op2, .slice ra2 rs2.length rc2, .string ⟨nm2.toArray⟩, .slice a2 ks2.length c2, .int .i64 mn2, .int .i64 mx2] 1 (ac.tmps.getD 16 undef) W := hd ⟨1, .data⟩ (by simp) rfl
      simp only [LG] at hd1
      have hd4 : LG g [.int .i64 op1, .slice ra1 rs1.length rc1, .string ⟨nm1.toArray⟩, .slice a1 ks1.length c1, .int .i64 mn1, .int .i64 mx1] [.int .i64 op2, .slice ra2 rs2.length rc2, .string ⟨nm2.toArray⟩, .slice a2 ks2.length c2, .int .i64 mn2, .int .i64 mx2] 4 (ac.tmps.getD 19 undef) W := hd ⟨4, .data⟩ (by simp) rfl
      simp only [LG] at hd4
      have hd9 : LG g [.int .i64 op1, .slice ra1 rs1.length rc1, .string ⟨nm1.toArray⟩, .slice a1 ks1.length c1, .int .i64 mn1, .int .i64 mx1] [.int .i64 op2, .slice ra2 rs2.length rc2, .string ⟨nm2.toArray⟩, .slice a2 ks2.length c2, .int .i64 mn2, .int .i64 mx2] 9 (ac.tmps.getD 24 undef) W := hd ⟨9, .data⟩ (by simp) rfl
      simp only [LG] at hd9
      obtain ⟨t4, ht4⟩ := hd4
      obtain ⟨op3, rs3, nm3, ks3, mn3, mx3, ra3, rc3, a3, c3, _, hv4, _⟩ := ht4.open
      rw [hv4] at ht4
      obtain ⟨t9, ht9⟩ := hd9
      obtain ⟨op4, rs4, nm4, ks4, mn4, mx4, ra4, rc4, a4, c4, _, hv9, _⟩ := ht9.open
      rw [hv9] at ht9
      have HT4 := Lib.hid ht4
      have HT9 := Lib.hid ht9
      have e0 : ac.tmps[15]?.getD undef = .agg #[.int .i64 op1, .slice ra1 rs1.length rc1, .string ⟨nm1.toArray⟩, .slice a1 ks1.length c1, .int .i64 mn1, .int .i64 mx1] := by rw [← Array.getD_eq_getD_getElem?]; exact hd0
      have e1 : ac.tmps[16]?.getD undef = .agg #[.int .i64 op2, .slice ra2 rs2.length rc2, .string ⟨nm2.toArray⟩, .slice a2 ks2.length c2, .int .i64 mn2, .int .i64 mx2] := by rw [← Array.getD_eq_getD_getElem?]; exact hd1
      have e4 : ac.tmps[19]?.getD undef = .agg #[.int .i64 op3, .slice ra3 rs3.length rc3, .string ⟨nm3.toArray⟩, .slice a3 ks3.length c3, .int .i64 mn3, .int .i64 mx3] := by rw [← Array.getD_eq_getD_getElem?]; exact hv4
      have e9 : ac.tmps[24]?.getD undef = .agg #[.int .i64 op4, .slice ra4 rs4.length rc4, .string ⟨nm4.toArray⟩, .slice a4 ks4.length c4, .int .i64 mn4, .int .i64 mx4] := by rw [← Array.getD_eq_getD_getElem?]; exact hv9
      clear ht4 ht9
      go_simp
      have hap := Apart.of_below (al_below W (.cells #[.int .i64 op1, .slice ra1 rs1.length rc1, .string ⟨nm1.toArray⟩, .slice a1 ks1.length c1, .int .i64 mn1, .int .i64 mx1, .int .i64 op2, .slice ra2 rs2.length rc2, .string ⟨nm2.toArray⟩, .slice a2 ks2.length c2, .int .i64 mn2, .int .i64 mx2, .int .i64 op3, .slice ra3 rs3.length rc3, .string ⟨nm3.toArray⟩, .slice a3 ks3.length c3, .int .i64 mn3, .int .i64 mx3, .int .i64 op4, .slice ra4 rs4.length rc4, .string ⟨nm4.toArray⟩, .slice a4 ks4.length c4, .int .i64 mn4, .int .i64 mx4] 25)) HI.out.codes.1
      exact HKK.out _ _ hap (HI.out.al _) ⟨W.heap.size, [.int .i64 op3, .slice ra3 rs3.length rc3, .string ⟨nm3.toArray⟩, .slice a3 ks3.length c3, .int .i64 mn3, .int .i64 mx3], [.int .i64 op4, .slice ra4 rs4.length rc4, .string ⟨nm4.toArray⟩, .slice a4 ks4.length c4, .int .i64 mn4, .int .i64 mx4], t4, t9, rfl, Nat.ne_of_gt HI.out.codes.1, by simp, heap_alloc_new W _, rfl, rfl, KR.go (ap_stay hap) _ _ HT4.out, KR.go (ap_stay hap) _ _ HT9.out⟩
    · obtain rfl := Option.some.inj ho
      have hd10 : LG g [.int .i64 op1, .slice ra1 rs1.length rc1, .string ⟨nm1.toArray⟩, .slice a1 ks1.length c1, .int .i64 mn1, .int .i64 mx1] [.int .i64 op2, .slice ra2 rs2.length rc2, .string ⟨nm2.toArray⟩, .slice a2 ks2.length c2, .int .i64 mn2, .int .i64 mx2] 10 (ac.tmps.getD 25 undef) W := hd ⟨10, .data⟩ (by simp) rfl
      simp only [LG] at hd10
      obtain ⟨q, us2, us3, t2, t3, hv, _⟩ := hd10
      have hv2 : ac.tmps[25]?.getD undef = .slice (some ⟨q, 0, none⟩) 4 4 := by rw [← Array.getD_eq_getD_getElem?]; exact hv
      go_simp
      exact HKK.out _ _ (Apart.refl g W) HI.out rfl
    · obtain rfl := Option.some.inj ho
      go_simp
      exact HKK.out _ _ (Apart.refl g W) HI.out rfl
  case refine_2 =>
    intro ac W hB hG
    have HI := Lib.hid hB.inv
    have h10 : LG g [.int .i64 op1, .slice ra1 rs1.length rc1, .string ⟨nm1.toArray⟩, .slice a1 ks1.length c1, .int .i64 mn1, .int .i64 mx1] [.int .i64 op2, .slice ra2 rs2.length rc2, .string ⟨nm2.toArray⟩, .slice a2 ks2.length c2, .int .i64 mn2, .int .i64 mx2] 10 (ac.tmps.getD 25 undef) W := hG 10 (by decide)
    have hs26 : ac.tmps.getD 26 undef = .int .i64 4 := hG 11 (by decide)
    have hs27 : ac.tmps.getD 27 undef = .int .i64 0 := hG 12 (by decide)
    simp only [LG] at h10
    obtain ⟨q, us2, us3, t2, t3, hs25, hqg, hql, hrow, _, _, hr2, hr3⟩ := h10
    have HVW := Lib.hid (Apart.below HV4.out HI.out.ap (by omega))
    have HEL := Lib.hid (el_row hrow (fun us hus => by
      rcases hus with rfl | rfl | rfl | rfl
      · exact ⟨tn, op1, rs1, nm1, ks1, mn1, mx1, ra1, rc1, a1, c1, rfl, NAt.later HVW.out _ _ HN.out⟩
      · exact ⟨tp, op2, rs2, nm2, ks2, mn2, mx2, ra2, rc2, a2, c2, rfl, (NG.go (ap_stay HI.out.ap) _ _ HT4.out).at⟩
      · obtain ⟨op, rs, nm, ks, mn, mx, ra, rc, a, c, e⟩ := hr2.lits
        exact ⟨t2, op, rs, nm, ks, mn, mx, ra, rc, a, c, e, NG.at _ _ hr2⟩
      · obtain ⟨op, rs, nm, ks, mn, mx, ra, rc, a, c, e⟩ := hr3.lits
        exact ⟨t3, op, rs, nm, ks, mn, mx, ra, rc, a, c, e, NG.at _ _ hr3⟩))
    clear hG hrow hr2 hr3
    obtain ⟨tm, df⟩ := ac
    obtain ⟨x0, x1, x2, x3, x4, x5, x6, x7, x8, x9, x10, x11, x12, x13, x14, x15, x16, x17, x18, x19, x20, x21, x22, x23, x24, x25, x26, x27, x28, x29, x30, x31, x32, x33, x34, x35, x36, x37, x38, x39, x40, x41, x42, x43, rfl⟩ := arr44 tm hB.size
    obtain rfl : df = [] := hB.defers
    simp at hs25 hs26 hs27
    subst hs25 hs26 hs27
    clear hB
    go_wp2_with fail
    go_loopw [8, 27] (fun _ i wr => ∃ k : Nat, i = .int .i64 k ∧ k ≤ 4 ∧ Hid (Below W.heap.size W wr)) (fun _ i _ => 4 - (intOf i).toNat)
    case atStart => exact ⟨0, rfl, by omega, Lib.hid (Below.refl _ _)⟩
    case round =>
      obtain ⟨k, rfl, hk4, HBR⟩ := hrel
      by_cases hlt : k < 4
      · have z1 : decide ((k : Int) < 4) = true := decide_eq_true (by omega)
        have y1 : decide (k < 4) = true := decide_eq_true hlt
        have i1 : (k : Int) < 4 := by omega
        have i2 : (0 : Int) ≤ (k : Int) := by omega
        have hw1 : IntKind.i64.wrap ((k : Int) + 1) = (k : Int) + 1 := IntWalk.i64_in _ (by omega)
        obtain ⟨t5, op5, rs5, nm5, ks5, mn5, mx5, ra5, rc5, a5, c5, ⟨h0, h1, h2, h3, h4, h5⟩, hn5⟩ := (HEL.out k hlt).on HBR.out hql
        have HN5 := Lib.hid (NAt.later (al_below wr (.cells #[.int .i64 op5, .slice ra5 rs5.length rc5, .string ⟨nm5.toArray⟩, .slice a5 ks5.length c5, .int .i64 mn5, .int .i64 mx5] 25)) _ _ hn5)
        have HKX := Lib.hid (nE_new wr op5 ra5 rs5.length rc5 nm5 a5 ks5.length c5 mn5 mx5)
        have HB6 := Lib.hid (HBR.out.trans ((al_below wr (.cells #[.int .i64 op5, .slice ra5 rs5.length rc5, .string ⟨nm5.toArray⟩, .slice a5 ks5.length c5, .int .i64 mn5, .int .i64 mx5] 25)).mono HBR.out.size))
        have hx6 : wr.heap.size < (wr.alloc (.cells #[.int .i64 op5, .slice ra5 rs5.length rc5, .string ⟨nm5.toArray⟩, .slice a5 ks5.length c5, .int .i64 mn5, .int .i64 mx5] 25)).heap.size := by simp
        obtain ⟨w6, hw6⟩ : ∃ w6, wr.alloc (.cells #[.int .i64 op5, .slice ra5 rs5.length rc5, .string ⟨nm5.toArray⟩, .slice a5 ks5.length c5, .int .i64 mn5, .int .i64 mx5] 25) = w6 := ⟨_, rfl⟩
        rw [hw6] at HN5 HKX HB6 hx6
        have HKD := Lib.hid ((HK.out.below HVW.out).below HB6.out)
        clear hn5
        go_wp2_with fail
        clear hw6 h0 h1 h2 h3 h4 h5
        obtain ⟨E1, hE1⟩ : ∃ z, ckE t5 = z := ⟨_, rfl⟩
        have HE1 := Lib.hid hE1
        obtain ⟨S1, hS1⟩ : ∃ z, nSz t5 = z := ⟨_, rfl⟩
        have HS1 := Lib.hid hS1
        clear hE1 hS1
        refine wp_region_slotsG (by rfl) (by kernel_rfl) (by kernel_rfl) 44 [] [(0, x0), (1, x1), (2, x2), (3, x3), (5, x5), (6, x6), (7, x7), (8, .pointer (some ⟨wr.heap.size, 0, none⟩)), (9, x9), (10, x10), (11, x11), (12, x12), (13, x13), (14, x14), (15, x15), (16, x16), (17, x17), (18, x18), (19, x19), (20, x20), (21, x21), (22, x22), (23, x23), (24, x24), (25, .slice (some ⟨q, 0, none⟩) 4 4), (26, .int .i64 4), (27, .int .i64 (k : Int))] (by kernel_rfl) (fun W2 => Below w6.heap.size w6 W2) (fun _ _ => True) (fun k v _ => v = (#[.agg #[.int .i64 op5, .slice ra5 rs5.length rc5, .string ⟨nm5.toArray⟩, .slice a5 ks5.length c5, .int .i64 mn5, .int .i64 mx5], .int .i64 E1, .agg #[.int .i64 op5, .slice ra5 rs5.length rc5, .string ⟨nm5.toArray⟩, .slice a5 ks5.length c5, .int .i64 mn5, .int .i64 mx5], .int .i64 E1, .bool false, .bool false, .agg #[.int .i64 op5, .slice ra5 rs5.length rc5, .string ⟨nm5.toArray⟩, .slice a5 ks5.length c5, .int .i64 mn5, .int .i64 mx5], .int .i64 S1, .agg #[.int .i64 op5, .slice ra5 rs5.length rc5, .string ⟨nm5.toArray⟩, .slice a5 ks5.length c5, .int .i64 mn5, .int .i64 mx5], .int .i64 S1, .bool false, .bool false] : Array Value)[k]!) (fun _ _ _ _ _ h => h) ?_ ?_ ?_ ⟨rfl, rfl, fun s v hs => ?_, (Below.refl _ _).drew⟩
        case refine_1 =>
          intro i o j want ho hgd v W2 hv
          have hi12 : i < 12 := (Array.getElem?_eq_some_iff.1 ho).1
          rcases (show i = 0 ∨ i = 1 ∨ i = 2 ∨ i = 3 ∨ i = 4 ∨ i = 5 ∨ i = 6 ∨ i = 7 ∨ i = 8 ∨ i = 9 ∨ i = 10 ∨ i = 11 by omega) with rfl | rfl | rfl | rfl | rfl | rfl | rfl | rfl | rfl | rfl | rfl | rfl
          all_goals
            obtain rfl := Option.some.inj ho
            first
            | (cases hgd; done)
            | (obtain ⟨rfl, rfl⟩ := Prod.mk.inj (Option.some.inj hgd); exact hv)
        case refine_2 =>
          intro i o ho ac2 W2 hB hd K hK
          have hi12 : i < 12 := (Array.getElem?_eq_some_iff.1 ho).1
          have hs8 : ac2.tmps.getD 8 undef = .pointer (some ⟨wr.heap.size, 0, none⟩) := hB.fixed 8 _ (by simp)
          have HBB : Hid (Below w6.heap.size w6 W2) := Lib.hid hB.inv
          have HN2 := Lib.hid (NAt.later HBB.out _ _ HN5.out)
          have HKX2 := Lib.hid (HKX.out.on HBB.out hx6)
          have HKD2 := Lib.hid (HKD.out.below HBB.out)
          have HKK := Lib.hid hK
          clear hK hB
          rcases (show i = 0 ∨ i = 1 ∨ i = 2 ∨ i = 3 ∨ i = 4 ∨ i = 5 ∨ i = 6 ∨ i = 7 ∨ i = 8 ∨ i = 9 ∨ i = 10 ∨ i = 11 by omega) with rfl | rfl | rfl | rfl | rfl | rfl | rfl | rfl | rfl | rfl | rfl | rfl
          · obtain rfl := Option.some.inj ho
            obtain ⟨q0, q1, q2, q3, q4, q5⟩ := bkn HKX2.out
            go_simp
            exact HKK.out _ _ trivial HBB.out rfl
          · obtain rfl := Option.some.inj ho
            have hd0 : ac2.tmps.getD 31 undef = .agg #[.int .i64 op5, .slice ra5 rs5.length rc5, .string ⟨nm5.toArray⟩, .slice a5 ks5.length c5, .int .i64 mn5, .int .i64 mx5] := hd ⟨0, .data⟩ (by simp) rfl
            go_simp
            refine (check_any t5 _ W2 HN2.out HKD2.out).mono ?_
            rintro e W3 ⟨rfl, hb3⟩
            exact HKK.out _ _ trivial (HBB.out.trans (hb3.mono HBB.out.size)) (by rw [HE1.out]; rfl)
          · obtain rfl := Option.some.inj ho
            obtain ⟨q0, q1, q2, q3, q4, q5⟩ := bkn HKX2.out
            go_simp
            exact HKK.out _ _ trivial HBB.out rfl
          · obtain rfl := Option.some.inj ho
            have hd2 : ac2.tmps.getD 33 undef = .agg #[.int .i64 op5, .slice ra5 rs5.length rc5, .string ⟨nm5.toArray⟩, .slice a5 ks5.length c5, .int .i64 mn5, .int .i64 mx5] := hd ⟨2, .data⟩ (by simp) rfl
            go_simp
            refine (rcheck_any t5 _ W2 HN2.out).mono ?_
            rintro e W3 ⟨rfl, hb3⟩
            exact HKK.out _ _ trivial (HBB.out.trans (hb3.mono HBB.out.size)) (by rw [HE1.out]; rfl)
          · obtain rfl := Option.some.inj ho
            have hd1 : ac2.tmps.getD 32 undef = .int .i64 E1 := hd ⟨1, .data⟩ (by simp) rfl
            have hd3 : ac2.tmps.getD 34 undef = .int .i64 E1 := hd ⟨3, .data⟩ (by simp) rfl
            go_simp
            exact HKK.out _ _ trivial HBB.out rfl
          · obtain rfl := Option.some.inj ho
            have hd4 : ac2.tmps.getD 35 undef = .bool false := hd ⟨4, .data⟩ (by simp) rfl
            go_simp
            exact HKK.out _ _ trivial HBB.out rfl
          · obtain rfl := Option.some.inj ho
            obtain ⟨q0, q1, q2, q3, q4, q5⟩ := bkn HKX2.out
            go_simp
            exact HKK.out _ _ trivial HBB.out rfl
          · obtain rfl := Option.some.inj ho
            have hd6 : ac2.tmps.getD 37 undef = .agg #[.int .i64 op5, .slice ra5 rs5.length rc5, .string ⟨nm5.toArray⟩, .slice a5 ks5.length c5, .int .i64 mn5, .int .i64 mx5] := hd ⟨6, .data⟩ (by simp) rfl
            go_simp
            refine (nsize_aux _ t5 _ W2 (Nat.lt_succ_self _) HN2.out).mono ?_
            rintro e W3 ⟨rfl, hb3⟩
            exact HKK.out _ _ trivial (HBB.out.trans (hb3.mono HBB.out.size)) (by rw [HS1.out]; rfl)
          · obtain rfl := Option.some.inj ho
            obtain ⟨q0, q1, q2, q3, q4, q5⟩ := bkn HKX2.out
            go_simp
            exact HKK.out _ _ trivial HBB.out rfl
          · obtain rfl := Option.some.inj ho
            have hd8 : ac2.tmps.getD 39 undef = .agg #[.int .i64 op5, .slice ra5 rs5.length rc5, .string ⟨nm5.toArray⟩, .slice a5 ks5.length c5, .int .i64 mn5, .int .i64 mx5] := hd ⟨8, .data⟩ (by simp) rfl
            go_simp
            refine (nref_size t5 _ W2 HN2.out).mono ?_
            rintro e W3 ⟨rfl, hb3⟩
            exact HKK.out _ _ trivial (HBB.out.trans (hb3.mono HBB.out.size)) (by rw [HS1.out]; rfl)
          · obtain rfl := Option.some.inj ho
            have hd7 : ac2.tmps.getD 38 undef = .int .i64 S1 := hd ⟨7, .data⟩ (by simp) rfl
            have hd9 : ac2.tmps.getD 40 undef = .int .i64 S1 := hd ⟨9, .data⟩ (by simp) rfl
            go_simp
            exact HKK.out _ _ trivial HBB.out rfl
          · obtain rfl := Option.some.inj ho
            have hd5 : ac2.tmps.getD 36 undef = .bool false := hd ⟨5, .data⟩ (by simp) rfl
            have hd10 : ac2.tmps.getD 41 undef = .bool false := hd ⟨10, .data⟩ (by simp) rfl
            go_simp
            exact HKK.out _ _ trivial HBB.out rfl
        case refine_3 =>
          intro ac2 W2 hB hG
          have HBB : Hid (Below w6.heap.size w6 W2) := Lib.hid hB.inv
          have hs0 : ac2.tmps.getD 0 undef = x0 := hB.fixed 0 _ (by simp)
          have hs1 : ac2.tmps.getD 1 undef = x1 := hB.fixed 1 _ (by simp)
          have hs2 : ac2.tmps.getD 2 undef = x2 := hB.fixed 2 _ (by simp)
          have hs3 : ac2.tmps.getD 3 undef = x3 := hB.fixed 3 _ (by simp)
          have hs5 : ac2.tmps.getD 5 undef = x5 := hB.fixed 5 _ (by simp)
          have hs6 : ac2.tmps.getD 6 undef = x6 := hB.fixed 6 _ (by simp)
          have hs7 : ac2.tmps.getD 7 undef = x7 := hB.fixed 7 _ (by simp)
          have hs8 : ac2.tmps.getD 8 undef = .pointer (some ⟨wr.heap.size, 0, none⟩) := hB.fixed 8 _ (by simp)
          have hs9 : ac2.tmps.getD 9 undef = x9 := hB.fixed 9 _ (by simp)
          have hs10 : ac2.tmps.getD 10 undef = x10 := hB.fixed 10 _ (by simp)
          have hs11 : ac2.tmps.getD 11 undef = x11 := hB.fixed 11 _ (by simp)
          have hs12 : ac2.tmps.getD 12 undef = x12 := hB.fixed 12 _ (by simp)
          have hs13 : ac2.tmps.getD 13 undef = x13 := hB.fixed 13 _ (by simp)
          have hs14 : ac2.tmps.getD 14 undef = x14 := hB.fixed 14 _ (by simp)
          have hs15 : ac2.tmps.getD 15 undef = x15 := hB.fixed 15 _ (by simp)
          have hs16 : ac2.tmps.getD 16 undef = x16 := hB.fixed 16 _ (by simp)
          have hs17 : ac2.tmps.getD 17 undef = x17 := hB.fixed 17 _ (by simp)
          have hs18 : ac2.tmps.getD 18 undef = x18 := hB.fixed 18 _ (by simp)
          have hs19 : ac2.tmps.getD 19 undef = x19 := hB.fixed 19 _ (by simp)
          have hs20 : ac2.tmps.getD 20 undef = x20 := hB.fixed 20 _ (by simp)
          have hs21 : ac2.tmps.getD 21 undef = x21 := hB.fixed 21 _ (by simp)
          have hs22 : ac2.tmps.getD 22 undef = x22 := hB.fixed 22 _ (by simp)
          have hs23 : ac2.tmps.getD 23 undef = x23 := hB.fixed 23 _ (by simp)
          have hs24 : ac2.tmps.getD 24 undef = x24 := hB.fixed 24 _ (by simp)
          have hs25 : ac2.tmps.getD 25 undef = .slice (some ⟨q, 0, none⟩) 4 4 := hB.fixed 25 _ (by simp)
          have hs26 : ac2.tmps.getD 26 undef = .int .i64 4 := hB.fixed 26 _ (by simp)
          have hs27 : ac2.tmps.getD 27 undef = .int .i64 (k : Int) := hB.fixed 27 _ (by simp)
          have hs42 : ac2.tmps.getD 42 undef = .bool false := hG 11 (by decide)
          clear hG
          obtain ⟨tm, df⟩ := ac2
          obtain ⟨y0, y1, y2, y3, y4, y5, y6, y7, y8, y9, y10, y11, y12, y13, y14, y15, y16, y17, y18, y19, y20, y21, y22, y23, y24, y25, y26, y27, y28, y29, y30, y31, y32, y33, y34, y35, y36, y37, y38, y39, y40, y41, y42, y43, rfl⟩ := arr44 tm hB.size
          obtain rfl : df = [] := hB.defers
          obtain rfl : x0 = y0 := by simpa using hs0.symm
          obtain rfl : x1 = y1 := by simpa using hs1.symm
          obtain rfl : x2 = y2 := by simpa using hs2.symm
          obtain rfl : x3 = y3 := by simpa using hs3.symm
          obtain rfl : x5 = y5 := by simpa using hs5.symm
          obtain rfl : x6 = y6 := by simpa using hs6.symm
          obtain rfl : x7 = y7 := by simpa using hs7.symm
          obtain rfl : Value.pointer (some ⟨wr.heap.size, 0, none⟩) = y8 := by simpa using hs8.symm
          obtain rfl : x9 = y9 := by simpa using hs9.symm
          obtain rfl : x10 = y10 := by simpa using hs10.symm
          obtain rfl : x11 = y11 := by simpa using hs11.symm
          obtain rfl : x12 = y12 := by simpa using hs12.symm
          obtain rfl : x13 = y13 := by simpa using hs13.symm
          obtain rfl : x14 = y14 := by simpa using hs14.symm
          obtain rfl : x15 = y15 := by simpa using hs15.symm
          obtain rfl : x16 = y16 := by simpa using hs16.symm
          obtain rfl : x17 = y17 := by simpa using hs17.symm
          obtain rfl : x18 = y18 := by simpa using hs18.symm
          obtain rfl : x19 = y19 := by simpa using hs19.symm
          obtain rfl : x20 = y20 := by simpa using hs20.symm
          obtain rfl : x21 = y21 := by simpa using hs21.symm
          obtain rfl : x22 = y22 := by simpa using hs22.symm
          obtain rfl : x23 = y23 := by simpa using hs23.symm
          obtain rfl : x24 = y24 := by simpa using hs24.symm
          obtain rfl : Value.slice (some ⟨q, 0, none⟩) 4 4 = y25 := by simpa using hs25.symm
          obtain rfl : Value.int .i64 4 = y26 := by simpa using hs26.symm
          obtain rfl : Value.int .i64 (k : Int) = y27 := by simpa using hs27.symm
          obtain rfl : Value.bool false = y42 := by simpa using hs42.symm
          clear hB
          go_wp2_with fail
          refine ⟨⟨k + 1, by go_num, by omega, Lib.hid (HB6.out.trans (HBB.out.mono HB6.out.size))⟩, by simp [intOf]; omega⟩
        case refine_4 =>
          simp only [List.mem_cons, Prod.mk.injEq, List.not_mem_nil, or_false] at hs
          rcases hs with ⟨rfl, rfl⟩ | ⟨rfl, rfl⟩ | ⟨rfl, rfl⟩ | ⟨rfl, rfl⟩ | ⟨rfl, rfl⟩ | ⟨rfl, rfl⟩ | ⟨rfl, rfl⟩ | ⟨rfl, rfl⟩ | ⟨rfl, rfl⟩ | ⟨rfl, rfl⟩ | ⟨rfl, rfl⟩ | ⟨rfl, rfl⟩ | ⟨rfl, rfl⟩ | ⟨rfl, rfl⟩ | ⟨rfl, rfl⟩ | ⟨rfl, rfl⟩ | ⟨rfl, rfl⟩ | ⟨rfl, rfl⟩ | ⟨rfl, rfl⟩ | ⟨rfl, rfl⟩ | ⟨rfl, rfl⟩ | ⟨rfl, rfl⟩ | ⟨rfl, rfl⟩ | ⟨rfl, rfl⟩ | ⟨rfl, rfl⟩ | ⟨rfl, rfl⟩ | ⟨rfl, rfl⟩ <;> rfl
      · have z1 : decide ((k : Int) < 4) = false := decide_eq_false (by omega)
        have y1 : decide (k < 4) = false := decide_eq_false hlt
        go_wp2_with fail
        go_ret
        exact ⟨rfl, HVW.out.trans (HBR.out.mono HVW.out.size)⟩
  case refine_3 =>
    simp only [List.mem_cons, Prod.mk.injEq, List.not_mem_nil, or_false] at hs
    rcases hs with ⟨rfl, rfl⟩ | ⟨rfl, rfl⟩ | ⟨rfl, rfl⟩ <;> rfl
end Go.Proofs.YtpbdcghiabhliaaDoor

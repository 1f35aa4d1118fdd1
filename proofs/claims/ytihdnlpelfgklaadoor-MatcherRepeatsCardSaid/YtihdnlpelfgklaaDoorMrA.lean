/-
 Joined: MtH, MtCo, MtDa, MtDb, MtEa, MtEb, MtEc, MtEd, MtEe.
-/
import Derived.Test.YtihdnlpelfgklaaDoorMcM
namespace Go.Proofs.YtihdnlpelfgklaaDoor.Mt
section
variable {D : List Nm → Nat → Nat → List Out} {fn : List Nm → List Nm} (h : MkF D fn)
include h
end
theorem times_comp (p : NT) : ∀ k b ns, times (compH [p]) k b ns = compL (List.replicate k p) b ns
 | 0, b, ns => by rw [List.replicate_zero, compL]; rfl
 | k + 1, b, ns => by
  rw [List.replicate_succ, compL, times, compH, times_comp p k]
end Go.Proofs.YtihdnlpelfgklaaDoor.Mt
namespace Go.Proofs.YtihdnlpelfgklaaDoor
open Go.RowKit
theorem MaB.on {t : NT} {en : Bool} {s : List UInt8} {F : Nat → Prop} {g fa : Nat} {w w' : World} (h : MaB t en s F g fa w) (hb : Below w.heap.size w w') : MaB t en s F g fa w' := h.go (GoF.below hb).same (h.ft.keep (fun b hl => hb.block b hl) (fun b hF => ⟨Nat.lt_of_lt_of_le (h.ft.bnd b hF) hb.size, fun _ => hF⟩))
end Go.Proofs.YtihdnlpelfgklaaDoor
namespace Go.Proofs.YtihdnlpelfgklaaDoor
open Go.RowKit
def litU (r : Nat) : List Value := [.int .i64 1, .slice (some ⟨r, 0, none⟩) 1 1, .string ⟨#[]⟩, .slice none 0 0, .int .i64 0, .int .i64 0]
def LitR (B : Nat) (w : World) (b : UInt8) (us : List Value) : Prop := ∃ r, us = litU r ∧ B ≤ r ∧ w.heap[r]? = some (.cells #[.int .u8 (b.toNat : Int), .int .u8 (b.toNat : Int)] 47 (0, 0))
end Go.Proofs.YtihdnlpelfgklaaDoor
namespace Go.Proofs.YtihdnlpelfgklaaDoor
open Go.RowKit
theorem LitR.go {B : Nat} {w w' : World} (hs : ∀ r x, B ≤ r → w.heap[r]? = some (.cells x 47 (0, 0)) → w'.heap[r]? = w.heap[r]?) (b : UInt8) (us : List Value) (h : LitR B w b us) : LitR B w' b us := by
 obtain ⟨r, e, hB, hr⟩ := h
 exact ⟨r, e, hB, (hs r _ hB hr).trans hr⟩
end Go.Proofs.YtihdnlpelfgklaaDoor
namespace Go.Proofs.YtihdnlpelfgklaaDoor.Gz
open Go.RowKit
def Sz : Nat → NT → Prop
 | 0, _ => False
 | D + 1, .node _ rs _ ks _ _ => rs.length ≤ 1000 ∧ ks.length ≤ 3 ∧ ∀ k ∈ ks, Sz D k
theorem Sz.node {D : Nat} {op : Int} {rs : List (UInt8 × UInt8)} {nm : List UInt8} {ks : List NT} {mn mx : Int} (h1 : rs.length ≤ 1000) (h2 : ks.length ≤ 3) (h3 : ∀ k ∈ ks, Sz D k) : Sz (D + 1) (.node op rs nm ks mn mx) := ⟨h1, h2, h3⟩
def NP (D g : Nat) (w : World) (e : Ending) (w' : World) : Prop := ∃ v t, e = .returned v ∧ NG (fun k => w.heap.size ≤ k) w' t v ∧ GD g w w' ∧ Sz D t
theorem node_ret {D : Nat} {fn : Func} {P : Tmp} (hfn : fn.results = #[.cell P 29]) {w W : World} {g : Nat} (hS : NS g w W) (tmps : Array Value) (df : _) (hdf : df = []) (hp : tmps.getD P undef = .pointer (some ⟨w.heap.size, 0, none⟩)) {v0 v1 v2 v3 v4 v5 : Value} {t : NT}
  (hT : NG (fun k => w.heap.size < k) W t (.agg #[v0, v1, v2, v3, v4, v5])) (hk : Sz D t) :
  bodyPost Tryd.prog fn (NP D g w) Exit.ret { tmps := tmps, defers := df } (setL W w.heap.size [v0, v1, v2, v3, v4, v5] 0) := by
 have hb := setL_below (B := w.heap.size) (b := w.heap.size) (Nat.le_refl _) [v0, v1, v2, v3, v4, v5] W 0
 have hc := setL_at (b := w.heap.size) [v0, v1, v2, v3, v4, v5] W 0 (fun j _ hj => ⟨_, hS.bk.ev j (by simpa using hj)⟩)
 refine bodyPost_ret (results_item (ty := 29) hfn tmps _ w.heap.size [v0, v1, v2, v3, v4, v5] _ hp (fun j v hv => by have := hc j v hv; rwa [Nat.zero_add] at this) Tryd.underlying29 rfl (by kernel_rfl)) hdf ⟨_, t, rfl, NG.go ⟨hb.size, fun j hj _ => ⟨Nat.le_of_lt hj, setL_heap _ (Nat.ne_of_gt hj) _ _⟩⟩ _ _ hT, hS.gd.on hb, hk⟩
set_option maxRecDepth 100000 in
set_option maxHeartbeats 8000000 in
theorem leaf_any (D g : Nat) (w : World) (hc : CodesAt w g) : Calls Tryd.prog 18 #[.pointer (some ⟨g, 0, none⟩)] w (NP (D + 1) g w) := by
 have HS0 := Lib.hid (NS.start hc)
 clear hc
 go_enter Tryd.func18, Tryd.ntmps18
 go_wp2_with fail
 refine (next_any g 10 _ HS0.out.gd.codes (by omega) (by omega)).mono ?_
 rintro e w1 ⟨q, hq, rfl, hca, hap⟩
 have HS := Lib.hid (HS0.out.go hap hca)
 clear hca hap HS0
 obtain ⟨k0, k1, k2, k3, k4, k5, f0, f1, f2, f3, f4, f5⟩ := bk6 HS.out.bk
 have hlt := HS.out.lt
 rcases (show q = 0 ∨ q = 1 ∨ q = 2 ∨ q = 3 ∨ q = 4 ∨ q = 5 ∨ 6 ≤ q by omega) with rfl | rfl | rfl | rfl | rfl | rfl | hq6
 ·go_wp2_with fail
  rw [nest6 w1]
  exact node_ret (P := 2) rfl HS.out _ _ rfl (by rfl) (NG.node (rs := []) RW.nil RW.nil 0 [] 0 0 (by simp)) (Sz.node (by simp) (by simp) (by simp))
 ·go_wp2_with fail
  rw [nest6 w1]
  exact node_ret (P := 2) rfl HS.out _ _ rfl (by rfl) (NG.node (rs := []) RW.nil RW.nil 6 [] 0 0 (by simp)) (Sz.node (by simp) (by simp) (by simp))
 ·go_wp2_with fail
  rw [nest6 w1]
  exact node_ret (P := 2) rfl HS.out _ _ rfl (by rfl) (NG.node (rs := []) RW.nil RW.nil 7 [] 0 0 (by simp)) (Sz.node (by simp) (by simp) (by simp))
 ·have HSA := Lib.hid (HS.out.al (.cells #[.int .u8 48, .int .u8 57] 47))
  have HR := Lib.hid (rg_lit (fun k => w.heap.size < k) w1 [((48 : UInt8), (57 : UInt8))] #[.int .u8 48, .int .u8 57] (by simp) hlt (fun i hi => by
   match i, hi with
   | 0, _ => exact ⟨rfl, rfl⟩) 47)
  have hne : w.heap.size ≠ w1.heap.size := Nat.ne_of_lt hlt
  go_wp2_with fail
  rw [nest6 w1, setL_alloc _ _ _ _ hlt]
  exact node_ret (P := 2) rfl HSA.out _ _ rfl (by rfl) (NG.node HR.out RW.nil 1 [] 0 0 (by simp)) (Sz.node (by simp) (by simp) (by simp))
 ·have HSA := Lib.hid (HS.out.al (.cells #[.int .u8 0, .int .u8 9, .int .u8 11, .int .u8 255] 47))
  have HR := Lib.hid (rg_lit (fun k => w.heap.size < k) w1 [((0 : UInt8), (9 : UInt8)), ((11 : UInt8), (255 : UInt8))] #[.int .u8 0, .int .u8 9, .int .u8 11, .int .u8 255] (by simp) hlt (fun i hi => by
   match i, hi with
   | 0, _ => exact ⟨rfl, rfl⟩
   | 1, _ => exact ⟨rfl, rfl⟩) 47)
  have hne : w.heap.size ≠ w1.heap.size := Nat.ne_of_lt hlt
  go_wp2_with fail
  rw [nest6 w1, setL_alloc _ _ _ _ hlt]
  exact node_ret (P := 2) rfl HSA.out _ _ rfl (by rfl) (NG.node HR.out RW.nil 1 [] 0 0 (by simp)) (Sz.node (by simp) (by simp) (by simp))
 ·have HSA := Lib.hid (HS.out.al (.cells #[.int .u8 97, .int .u8 99, .int .u8 120, .int .u8 122] 47))
  have HR := Lib.hid (rg_lit (fun k => w.heap.size < k) w1 [((97 : UInt8), (99 : UInt8)), ((120 : UInt8), (122 : UInt8))] #[.int .u8 97, .int .u8 99, .int .u8 120, .int .u8 122] (by simp) hlt (fun i hi => by
   match i, hi with
   | 0, _ => exact ⟨rfl, rfl⟩
   | 1, _ => exact ⟨rfl, rfl⟩) 47)
  have hne : w.heap.size ≠ w1.heap.size := Nat.ne_of_lt hlt
  go_wp2_with fail
  rw [nest6 w1, setL_alloc _ _ _ _ hlt]
  exact node_ret (P := 2) rfl HSA.out _ _ rfl (by rfl) (NG.node HR.out RW.nil 1 [] 0 0 (by simp)) (Sz.node (by simp) (by simp) (by simp))
 ·have z0 : ((q : Int) == 0) = false := by rw [beq_eq_false_iff_ne]; omega
  have z1 : ((q : Int) == 1) = false := by rw [beq_eq_false_iff_ne]; omega
  have z2 : ((q : Int) == 2) = false := by rw [beq_eq_false_iff_ne]; omega
  have z3 : ((q : Int) == 3) = false := by rw [beq_eq_false_iff_ne]; omega
  have z4 : ((q : Int) == 4) = false := by rw [beq_eq_false_iff_ne]; omega
  have z5 : ((q : Int) == 5) = false := by rw [beq_eq_false_iff_ne]; omega
  have HSA := Lib.hid (HS.out.al leafO)
  go_wp2_with fail
  refine (next_any g 8 _ HSA.out.gd.codes (by omega) (by omega)).mono ?_
  rintro e w2 ⟨k, hk, rfl, hca, hap⟩
  obtain ⟨x, hx, hcell⟩ := leaf_at k hk
  have hgl : g < w1.heap.size := HS.out.gd.codes.1
  have hc2 : w2.cell? ⟨w1.heap.size, k, none⟩ = some (.int .i64 (x : Int)) := (hap.cell (p := ⟨w1.heap.size, k, none⟩) (by show w1.heap.size ≠ g; omega) (by simp)).trans (hcell w1)
  have HS2 := Lib.hid (HSA.out.go hap hca)
  have i1 : (k : Int) < 8 := by omega
  have i2 : (0 : Int) ≤ (k : Int) := by omega
  clear hca hap hcell k0 k1 k2 k3 k4 k5 f0 f1 f2 f3 f4 f5 HS HSA
  obtain ⟨k0, k1, k2, k3, k4, k5, f0, f1, f2, f3, f4, f5⟩ := bk6 HS2.out.bk
  have hlt2 := HS2.out.lt
  have HSB := Lib.hid (HS2.out.al (.cells #[.int .u8 (x : Int), .int .u8 (x : Int)] 47))
  have HR := Lib.hid (rg_lit (fun k => w.heap.size < k) w2 [(UInt8.ofNat x, UInt8.ofNat x)] #[.int .u8 (x : Int), .int .u8 (x : Int)] (by simp) hlt2 (fun i hi => by
   match i, hi with
   | 0, _ => simp [Asc.ofNat_toNat8 hx]) 47)
  have hne : w.heap.size ≠ w2.heap.size := Nat.ne_of_lt hlt2
  have x1 : (x : Int) < 256 := by omega
  have x2 : (0 : Int) ≤ (x : Int) := by omega
  go_wp2_with fail
  rw [nest6 w2, setL_alloc _ _ _ _ hlt2]
  exact node_ret (P := 2) rfl HSB.out _ _ rfl (by rfl) (NG.node HR.out RW.nil 1 [] 0 0 (by simp)) (Sz.node (by simp) (by simp) (by simp))
def Cres (D b0 : Nat) (W : World) : Prop := ∃ (op : Int) (ra : Option Addr) (rn rc : Nat) (nm : List UInt8) (a : Option Addr) (n cp : Nat) (mn mx : Int) (t : NT), BK b0 6 (nE op ra rn rc nm a n cp mn mx) W ∧ NG (fun k => b0 < k) W t (.agg #[.int .i64 op, .slice ra rn rc, .string ⟨nm.toArray⟩, .slice a n cp, .int .i64 mn, .int .i64 mx]) ∧ Sz D t
def CRr (D : Nat) (w W W' : World) : Prop := UP w.heap.size W W' ∧ (Cres D w.heap.size W → Cres D w.heap.size W')
theorem Cres.up {D b0 : Nat} {W W' : World} (h : Cres D b0 W) (hu : UP b0 W W') (hb : W'.heap[b0]? = W.heap[b0]?) : Cres D b0 W' := by
 obtain ⟨op, ra, rn, rc, nm, a, n, cp, mn, mx, t, h1, h2, h3⟩ := h
 exact ⟨op, ra, rn, rc, nm, a, n, cp, mn, mx, t, h1.keep hb hu.1, NG.go hu.stay _ _ h2, h3⟩
theorem CRr.refl {D : Nat} (w W : World) : CRr D w W W := ⟨UP.refl _ _, id⟩
theorem CRr.al {D g : Nat} {w W : World} (h : CI g w W) (o : Obj) : CRr D w W (W.alloc o) := ⟨UP.al _ _ _, fun c => c.up (UP.al _ _ _) (((Below.refl _ W).alloc (Nat.le_refl _) o).block _ h.lt)⟩
theorem CRr.ap {D g : Nat} {w W W' : World} (h : CI g w W) (ha : Apart g W W') : CRr D w W W' := ⟨UP.ap ha (Nat.le_of_lt h.1.hg), fun c => c.up (UP.ap ha (Nat.le_of_lt h.1.hg)) (ha.block (by have := h.1.hg; omega) h.lt)⟩
theorem node_ret2 {D : Nat} {fn : Func} {P : Tmp} (hfn : fn.results = #[.cell P 29]) {w W : World} {g : Nat} (hG : GD g w W) (hC : Cres D w.heap.size W) (a : Act) (hdf : a.defers = []) (hp : a.tmps.getD P undef = .pointer (some ⟨w.heap.size, 0, none⟩)) :
  bodyPost Tryd.prog fn (NP D g w) Exit.ret a W := by
 obtain ⟨op, ra, rn, rc, nm, ad, n, cp, mn, mx, t, hB, hT, hn⟩ := hC
 have hc : ∀ j v, [Value.int .i64 op, .slice ra rn rc, .string ⟨nm.toArray⟩, .slice ad n cp, .int .i64 mn, .int .i64 mx][j]? = some v → W.cell? ⟨w.heap.size, j, none⟩ = some v := fun j v hv => by
  have hj : j < 6 := (List.getElem?_eq_some_iff.1 hv).1
  rw [hB.ev j hj]
  match j, hj with
  | 0, _ => exact hv
  | 1, _ => exact hv
  | 2, _ => exact hv
  | 3, _ => exact hv
  | 4, _ => exact hv
  | 5, _ => exact hv
 obtain ⟨tmps, df⟩ := a
 exact bodyPost_ret (results_item (ty := 29) hfn tmps _ w.heap.size [.int .i64 op, .slice ra rn rc, .string ⟨nm.toArray⟩, .slice ad n cp, .int .i64 mn, .int .i64 mx] _ hp hc Tryd.underlying29 rfl (by kernel_rfl)) hdf ⟨_, t, rfl, NG.go ⟨Nat.le_refl _, fun k hk _ => ⟨Nat.le_of_lt hk, rfl⟩⟩ _ _ hT, hG, hn⟩
def CG (g : Nat) (w : World) (d : Nat) (k : Nat) (v : Value) (W : World) : Prop :=
 match k with
 | 0 => v = .pointer (some ⟨g, 0, none⟩)
 | 1 => ∃ k : Nat, k < 26 ∧ v = .int .i64 k
 | 2 => ∃ k : Nat, k < 26 ∧ v = .int .i64 (97 + (k : Int))
 | 3 => ∃ x : UInt8, v = .int .u8 (x.toNat : Int)
 | 4 => v = .pointer (some ⟨g, 0, none⟩)
 | 5 => ∃ k : Nat, k < 26 ∧ v = .int .i64 k
 | 6 => ∃ k : Nat, k < 26 ∧ v = .int .i64 (97 + (k : Int))
 | 7 => ∃ x : UInt8, v = .int .u8 (x.toNat : Int)
 | 8 => ∃ (q : Nat) (x y : UInt8), v = .slice (some ⟨q, 0, none⟩) 2 2 ∧ Blk w.heap.size W q (.cells #[.int .u8 (x.toNat : Int), .int .u8 (y.toNat : Int)] 5)
 | 9 => ∃ y : List UInt8, y.length ≤ 1000 ∧ v = .string ⟨y.toArray⟩
 | 10 => v = .pointer (some ⟨g, 0, none⟩)
 | 11 => v = .int .i64 (d + 1 : Nat)
 | 12 => v = .int .i64 (d : Int)
 | 13 => ∃ t, NG (fun k => w.heap.size < k) W t v ∧ Sz (d + 1) t
 | 14 => ∃ (q : Nat) (t : NT), v = .slice (some ⟨q, 0, none⟩) 1 1 ∧ RW (fun k => w.heap.size < k) 6 (KR (fun k => w.heap.size < k) W) W [t] v ∧ Sz (d + 1) t
 | 15 => ∃ (y : List UInt8) (q : Nat) (t : NT), v = .agg #[.int .i64 5, .slice none 0 0, .string ⟨y.toArray⟩, .slice (some ⟨q, 0, none⟩) 1 1, .int .i64 0, .int .i64 0] ∧ NG (fun k => w.heap.size < k) W t v ∧ Sz (d + 2) t
 | 16 => Cres (d + 2) w.heap.size W
 | _ => True
theorem CG.keep (g : Nat) (w : World) (d : Nat) : ∀ k v W W', CRr (d + 2) w W W' → CG g w d k v W → CG g w d k v W' := by
 intro k v W W' hR h
 have hs := hR.1.stay
 unfold CG at *
 split at h
 ·exact h
 ·exact h
 ·exact h
 ·exact h
 ·exact h
 ·exact h
 ·exact h
 ·exact h
 ·obtain ⟨q, x, y, h1, h2⟩ := h
  exact ⟨q, x, y, h1, h2.up hR.1⟩
 ·exact h
 ·exact h
 ·exact h
 ·exact h
 ·obtain ⟨t, h, h9⟩ := h
  exact ⟨t, NG.go hs _ _ h, h9⟩
 ·obtain ⟨q, t, h1, h2, h9⟩ := h
  exact ⟨q, t, h1, h2.go hs (fun _ _ h => NG.go hs _ _ h), h9⟩
 ·obtain ⟨y, q, t, h1, h2, h9⟩ := h
  exact ⟨y, q, t, h1, NG.go hs _ _ h2, h9⟩
 ·exact hR.2 h
 ·trivial
set_option maxRecDepth 100000 in
set_option maxHeartbeats 40000000 in
theorem node_aux (depth : Nat) (hd : depth ≤ 4) (IH : ∀ d, d + 1 = depth → ∀ (g : Nat) (w : World), CodesAt w g → Calls Tryd.prog 8 #[.pointer (some ⟨g, 0, none⟩), .int .i64 d] w (NP (d + 1) g w))
  (g : Nat) (w : World) (hc : CodesAt w g) : Calls Tryd.prog 8 #[.pointer (some ⟨g, 0, none⟩), .int .i64 depth] w (NP (depth + 1) g w) := by
 have HS0 := Lib.hid (NS.start hc)
 have HIH := Lib.hid IH
 have HLF := Lib.hid (leaf_any depth)
 clear hc IH
 go_enter Tryd.func8, Tryd.ntmps8
 by_cases hz : depth = 0
 ·subst hz
  go_wp2_with fail
  refine (HLF.out g _ HS0.out.gd.codes).mono ?_
  rintro e wl ⟨v, t, rfl, hT, hgl, hsm⟩
  have HSL := Lib.hid (HS0.out.go hgl.ap hgl.codes)
  have HTL := Lib.hid (NG.go (F' := (fun k => w.heap.size < k)) (w' := wl) ⟨Nat.le_refl _, fun k hk _ => ⟨Nat.lt_of_lt_of_le HS0.out.bk.lt hk, rfl⟩⟩ _ _ hT)
  obtain ⟨op, rs, nm, kids, mn, mx, ra, rc, a, c, rfl, rfl, _⟩ := hT.open
  have HKL := Lib.hid hsm
  clear hT hgl hsm
  obtain ⟨k0, k1, k2, k3, k4, k5, f0, f1, f2, f3, f4, f5⟩ := bk6 HSL.out.bk
  go_wp2_with fail
  rw [nest6 wl]
  exact node_ret (P := 4) rfl HSL.out _ _ rfl (by rfl) HTL.out HKL.out
 ·obtain ⟨d, rfl⟩ : ∃ d, depth = d + 1 := ⟨depth - 1, by omega⟩
  have hd1 : ((d + 1 : Nat) : Int) - 1 = (d : Int) := by omega
  have z0 : decide (((d + 1 : Nat) : Int) ≤ 0) = false := decide_eq_false (by omega)
  have z0b : decide ((d : Int) + 1 ≤ 0) = false := decide_eq_false (by omega)
  clear hz
  go_wp2_with fail
  refine (next_any g 3 _ HS0.out.gd.codes (by omega) (by omega)).mono ?_
  rintro e w1 ⟨q, hq, rfl, hca, hap⟩
  have HS1 := Lib.hid (HS0.out.go hap hca)
  clear hca hap
  by_cases q0 : q = 0
  ·subst q0
   go_wp2_with fail
   refine (HLF.out g _ HS1.out.gd.codes).mono ?_
   rintro e wl ⟨v, t, rfl, hT, hgl, hsm⟩
   have HSL := Lib.hid (HS1.out.go hgl.ap hgl.codes)
   have HTL := Lib.hid (NG.go (F' := (fun k => w.heap.size < k)) (w' := wl) ⟨Nat.le_refl _, fun k hk _ => ⟨Nat.lt_of_lt_of_le HS1.out.bk.lt hk, rfl⟩⟩ _ _ hT)
   obtain ⟨op, rs, nm, kids, mn, mx, ra, rc, a, c, rfl, rfl, _⟩ := hT.open
   have HKL := Lib.hid hsm
   clear hT hgl hsm
   obtain ⟨k0, k1, k2, k3, k4, k5, f0, f1, f2, f3, f4, f5⟩ := bk6 HSL.out.bk
   go_wp2_with fail
   rw [nest6 wl]
   exact node_ret (P := 4) rfl HSL.out _ _ rfl (by rfl) HTL.out HKL.out
  ·have y0 : ((q : Int) == 0) = false := by rw [beq_eq_false_iff_ne]; omega
   clear q0
   go_wp2_with fail
   refine (next_any g 7 _ HS1.out.gd.codes (by omega) (by omega)).mono ?_
   rintro e w2 ⟨r, hr, rfl, hca, hap⟩
   have HS := Lib.hid (HS1.out.go hap hca)
   clear hca hap HS1 HS0 y0 hq
   rcases (show (r = 0 ∨ r = 1 ∨ r = 2) ∨ r = 3 ∨ r = 4 ∨ 5 ≤ r by omega) with h012 | rfl | rfl | h5
   ·go_upto_if 21 with fail
    go_cut [21] (fun b wx => b = .bool true ∧ w2 = wx)
    case first =>
     rcases h012 with rfl | rfl | rfl
     all_goals
      go_wp2_with fail
      go_meet
      exact ⟨rfl, rfl⟩
    case rest =>
    obtain ⟨rfl, rfl⟩ := hcut
    have HK1 : Hid (KL KR (fun k => w.heap.size < k ∧ k ≠ w2.heap.size) w2.heap.size 6 (nE 2 none 0 0 [] none 0 0 0 0) 3 (w2.heap.size + 1) 29 6 [] (.slice none 0 0) (w2.alloc (.cells #[.int .i64 2, .slice none 0 0, .string ⟨#[]⟩, .slice none 0 0, .int .i64 0, .int .i64 0] 29))) := Lib.hid ⟨(nE_new w2 2 none 0 0 [] none 0 0 0 0).cong (fun i hi => by
     match i, hi with
     | 0, _ => rfl
     | 1, _ => rfl
     | 2, _ => rfl
     | 3, _ => rfl
     | 4, _ => rfl
     | 5, _ => rfl), OR.nil, Nat.lt_succ_self _, by simp⟩
    have HS1 := Lib.hid (HS.out.al (.cells #[.int .i64 2, .slice none 0 0, .string ⟨#[]⟩, .slice none 0 0, .int .i64 0, .int .i64 0] 29))
    obtain ⟨b, hb⟩ : ∃ b, w2.heap.size = b := ⟨_, rfl⟩
    have HGB := Lib.hid (show g < b from hb ▸ HS.out.gd.codes.1)
    have HBL := Lib.hid (show w.heap.size < b from hb ▸ HS.out.bk.lt)
    have HNG : Hid (¬ (w.heap.size < g ∧ g ≠ b)) := Lib.hid (by have := HS.out.gd.hg; omega)
    rw [hb] at HK1
    go_wp2_with fail
    (try rw [hb])
    clear hb
    refine (next_any g 2 _ HS1.out.gd.codes (by omega) (by omega)).mono ?_
    rintro e w3 ⟨m, hm, rfl, hca, hap⟩
    have HS2 := Lib.hid (HS1.out.go hap hca)
    have HK2 := Lib.hid (HK1.out.go hap HGB.out HNG.out (fun _ _ _ _ h => KR.go h))
    clear hca hap HS1 HK1
    go_wp2_with fail
    go_loopw [6] (fun i wr => ∃ (j : Nat) (kids : List NT) (v : Value), i = .int .i64 j ∧ j + kids.length ≤ 3 ∧ Hid (∀ k ∈ kids, Sz (d + 1) k) ∧ NS g w wr ∧ KL KR (fun k => w.heap.size < k ∧ k ≠ b) b 6 (nE 2 none 0 0 [] none 0 0 0 0) 3 (b + 1) 29 6 kids v wr) (fun i _ => (intOf i).toNat)
    case atStart => exact ⟨2 + m, [], _, by go_num, by simp; omega, Lib.hid (by simp), HS2.out, HK2.out⟩
    case round =>
     obtain ⟨j, kids, v, rfl, hjk, HSM, hS, hK⟩ := hrel
     have HSR := Lib.hid hS
     have HKR := Lib.hid hK
     clear hS hK HS2 HK2 HS
     cases j with
     | zero =>
      have HRW := Lib.hid (HKR.out.row.rw (F := (fun k => w.heap.size < k)) (R := _) (fun b hb => by have := HBL.out; omega))
      have HRW2 : Hid (RW (fun k => w.heap.size < k) 6 (KR (fun k => w.heap.size < k) wr) wr kids v) := Lib.hid (HRW.out.go ⟨Nat.le_refl _, fun k hk _ => ⟨hk, rfl⟩⟩ (fun t us h => NG.go ⟨Nat.le_refl _, fun k hk _ => ⟨hk.1.1, rfl⟩⟩ _ _ h))
      obtain ⟨k0, k1, k2, k3, k4, k5, f0, f1, f2, f3, f4, f5⟩ := bk6 HSR.out.bk
      obtain ⟨a, c, rfl, _⟩ := HRW2.out
      have b0 : wr.cell? ⟨b, 0, none⟩ = some (.int .i64 2) := HKR.out.bk.ev 0 (by omega)
      have b1 : wr.cell? ⟨b, 1, none⟩ = some (.slice none 0 0) := HKR.out.bk.ev 1 (by omega)
      have b2 : wr.cell? ⟨b, 2, none⟩ = some (.string ⟨#[]⟩) := HKR.out.bk.ev 2 (by omega)
      have b3 : wr.cell? ⟨b, 3, none⟩ = some (.slice a kids.length c) := HKR.out.bk.ev 3 (by omega)
      have b4 : wr.cell? ⟨b, 4, none⟩ = some (.int .i64 0) := HKR.out.bk.ev 4 (by omega)
      have b5 : wr.cell? ⟨b, 5, none⟩ = some (.int .i64 0) := HKR.out.bk.ev 5 (by omega)
      have hbne : b ≠ w.heap.size := Nat.ne_of_gt HBL.out
      go_wp2_with fail
      rw [nest6 wr]
      exact node_ret (P := 4) rfl HSR.out _ _ rfl (by rfl) (NG.node (rs := []) RW.nil HRW2.out 2 [] 0 0 (by simp)) (Sz.node (by simp) (by omega) HSM.out)
     | succ j =>
      have hj0 : (0 : Int) < (j : Int) + 1 := by omega
      have hwd : IntKind.i64.wrap (d : Int) = (d : Int) := (IntWalk.i64_left _).trans (IntWalk.wrap64_in _ (by omega))
      have hc0 : wr.drew.cell? ⟨b, 3, none⟩ = some v := HKR.out.cell (by decide)
      have hf0 : wr.drew.frozen? ⟨b, 3, none⟩ = false := HKR.out.bk.fz 3
      have HSD := Lib.hid HSR.out.dr
      have HKD := Lib.hid (HKR.out.go (Apart.of_below (Below.refl _ wr).drew HSR.out.gd.codes.1) HGB.out HNG.out (fun _ _ _ _ h => KR.go h))
      obtain ⟨i0, hi, hz0, hz1, hz2⟩ := info_parts infoN
      go_wp2_with fail
      go_region_law (first
       | (refine step_append_lies _ (by rfl) _ _ _ (by rfl) (b + 1) 29 i0 (.agg #[.int .i64 0, .slice none 0 0, .string ⟨#[]⟩, .slice none 0 0, .int .i64 0, .int .i64 0]) 6 88 Tryd.underlying27 hi hz0 hz1 hz2 rfl (by decide) _ _ _ (by rfl) (hown4.alloc _) ⟨w4.heap.size, 0, none⟩ 1 1 [.int .i64 op, .slice ra rs.length rc, .string ⟨nm.toArray⟩, .slice a kk.length c, .int .i64 mn, .int .i64 mx] (by rfl) rfl (World.news_of_block (heap_alloc_new w4 _)) (node_one _ _ _ _ _ _ _ _ _ _) (by omega) (by unfold maxLen; omega) (by omega) (Nat.le_trans HK4.out.BW (by simp)) _ rfl ?_; intro g' cap' w5 hown5 hgrow5 hat5 hlt5; obtain ⟨hP5, hc5, hf5⟩ := nkids_push HS4.out HBL.out HK4.out cs hown4 HPU.out hgrow5 hat5 _ rfl rfl HTR.out (by omega) hown5; have HP5 := Lib.hid hP5; clear hP5 hown5 hgrow5)
       | (go_simp; go_at_call 8; (try rw [hwd]); refine (HIH.out d rfl g _ HSD.out.gd.codes).mono ?_; rintro e w4 ⟨x, t, rfl, hT, hg4, hsm4⟩; have HSM4 := Lib.hid hsm4; clear hsm4; have HS4 := Lib.hid (HSD.out.go hg4.ap hg4.codes); have HK4 := Lib.hid (HKD.out.go hg4.ap HGB.out HNG.out (fun _ _ _ _ h => KR.go h)); have hc4 : w4.cell? ⟨b, 3, none⟩ = some v := HK4.out.cell (by decide); have hf4 : w4.frozen? ⟨b, 3, none⟩ = false := HK4.out.bk.fz 3; have hca4 : ∀ o, (w4.alloc o).cell? ⟨b, 3, none⟩ = some v := (fun o => HK4.out.cellA (by decide) o); have hfa4 : ∀ o, (w4.alloc o).frozen? ⟨b, 3, none⟩ = false := (fun o => HK4.out.fzA 3 o); obtain ⟨op, rs, nm, kk, mn, mx, ra, rc, a, c, rfl, rfl, _⟩ := hT.open; obtain ⟨cs, hown4, hpush⟩ := HK4.out.row.cells; have HPU := Lib.hid hpush; have HTR : Hid (KR (FF (fun k => w.heap.size < k ∧ k ≠ b) v) w4 (.node op rs nm kk mn mx) [.int .i64 op, .slice ra rs.length rc, .string ⟨nm.toArray⟩, .slice a kk.length c, .int .i64 mn, .int .i64 mx]) := Lib.hid (nff_new HKD.out HBL.out hT); clear hpush hT hg4))
      all_goals (go_wp2_with fail)
      all_goals refine ⟨⟨j, kids ++ [_], _, by go_num, by simp; omega, Lib.hid (fun k hk => (List.mem_append.1 hk).elim (HSM.out k) (fun h => by rw [List.mem_singleton.1 h]; exact HSM4.out)), HP5.out.1, HP5.out.2⟩, by simp [intOf]⟩
   ·clear hr
    have HK1 : Hid (KL KR (fun k => w.heap.size < k ∧ k ≠ w2.heap.size) w2.heap.size 6 (nE 3 none 0 0 [] none 0 0 0 0) 3 (w2.heap.size + 1) 29 6 [] (.slice none 0 0) (w2.alloc (.cells #[.int .i64 3, .slice none 0 0, .string ⟨#[]⟩, .slice none 0 0, .int .i64 0, .int .i64 0] 29))) := Lib.hid ⟨(nE_new w2 3 none 0 0 [] none 0 0 0 0).cong (fun i hi => by
     match i, hi with
     | 0, _ => rfl
     | 1, _ => rfl
     | 2, _ => rfl
     | 3, _ => rfl
     | 4, _ => rfl
     | 5, _ => rfl), OR.nil, Nat.lt_succ_self _, by simp⟩
    have HS1 := Lib.hid (HS.out.al (.cells #[.int .i64 3, .slice none 0 0, .string ⟨#[]⟩, .slice none 0 0, .int .i64 0, .int .i64 0] 29))
    obtain ⟨b, hb⟩ : ∃ b, w2.heap.size = b := ⟨_, rfl⟩
    have HGB := Lib.hid (show g < b from hb ▸ HS.out.gd.codes.1)
    have HBL := Lib.hid (show w.heap.size < b from hb ▸ HS.out.bk.lt)
    have HNG : Hid (¬ (w.heap.size < g ∧ g ≠ b)) := Lib.hid (by have := HS.out.gd.hg; omega)
    rw [hb] at HK1
    go_wp2_with fail
    (try rw [hb])
    clear hb
    refine (next_any g 2 _ HS1.out.gd.codes (by omega) (by omega)).mono ?_
    rintro e w3 ⟨m, hm, rfl, hca, hap⟩
    have HS2 := Lib.hid (HS1.out.go hap hca)
    have HK2 := Lib.hid (HK1.out.go hap HGB.out HNG.out (fun _ _ _ _ h => KR.go h))
    clear hca hap HS1 HK1
    go_wp2_with fail
    go_loopw [8] (fun i wr => ∃ (j : Nat) (kids : List NT) (v : Value), i = .int .i64 j ∧ j + kids.length ≤ 3 ∧ Hid (∀ k ∈ kids, Sz (d + 1) k) ∧ NS g w wr ∧ KL KR (fun k => w.heap.size < k ∧ k ≠ b) b 6 (nE 3 none 0 0 [] none 0 0 0 0) 3 (b + 1) 29 6 kids v wr) (fun i _ => (intOf i).toNat)
    case atStart => exact ⟨2 + m, [], _, by go_num, by simp; omega, Lib.hid (by simp), HS2.out, HK2.out⟩
    case round =>
     obtain ⟨j, kids, v, rfl, hjk, HSM, hS, hK⟩ := hrel
     have HSR := Lib.hid hS
     have HKR := Lib.hid hK
     clear hS hK HS2 HK2 HS
     cases j with
     | zero =>
      have HRW := Lib.hid (HKR.out.row.rw (F := (fun k => w.heap.size < k)) (R := _) (fun b hb => by have := HBL.out; omega))
      have HRW2 : Hid (RW (fun k => w.heap.size < k) 6 (KR (fun k => w.heap.size < k) wr) wr kids v) := Lib.hid (HRW.out.go ⟨Nat.le_refl _, fun k hk _ => ⟨hk, rfl⟩⟩ (fun t us h => NG.go ⟨Nat.le_refl _, fun k hk _ => ⟨hk.1.1, rfl⟩⟩ _ _ h))
      obtain ⟨k0, k1, k2, k3, k4, k5, f0, f1, f2, f3, f4, f5⟩ := bk6 HSR.out.bk
      obtain ⟨a, c, rfl, _⟩ := HRW2.out
      have b0 : wr.cell? ⟨b, 0, none⟩ = some (.int .i64 3) := HKR.out.bk.ev 0 (by omega)
      have b1 : wr.cell? ⟨b, 1, none⟩ = some (.slice none 0 0) := HKR.out.bk.ev 1 (by omega)
      have b2 : wr.cell? ⟨b, 2, none⟩ = some (.string ⟨#[]⟩) := HKR.out.bk.ev 2 (by omega)
      have b3 : wr.cell? ⟨b, 3, none⟩ = some (.slice a kids.length c) := HKR.out.bk.ev 3 (by omega)
      have b4 : wr.cell? ⟨b, 4, none⟩ = some (.int .i64 0) := HKR.out.bk.ev 4 (by omega)
      have b5 : wr.cell? ⟨b, 5, none⟩ = some (.int .i64 0) := HKR.out.bk.ev 5 (by omega)
      have hbne : b ≠ w.heap.size := Nat.ne_of_gt HBL.out
      go_wp2_with fail
      rw [nest6 wr]
      exact node_ret (P := 4) rfl HSR.out _ _ rfl (by rfl) (NG.node (rs := []) RW.nil HRW2.out 3 [] 0 0 (by simp)) (Sz.node (by simp) (by omega) HSM.out)
     | succ j =>
      have hj0 : (0 : Int) < (j : Int) + 1 := by omega
      have hwd : IntKind.i64.wrap (d : Int) = (d : Int) := (IntWalk.i64_left _).trans (IntWalk.wrap64_in _ (by omega))
      have hc0 : wr.drew.cell? ⟨b, 3, none⟩ = some v := HKR.out.cell (by decide)
      have hf0 : wr.drew.frozen? ⟨b, 3, none⟩ = false := HKR.out.bk.fz 3
      have HSD := Lib.hid HSR.out.dr
      have HKD := Lib.hid (HKR.out.go (Apart.of_below (Below.refl _ wr).drew HSR.out.gd.codes.1) HGB.out HNG.out (fun _ _ _ _ h => KR.go h))
      obtain ⟨i0, hi, hz0, hz1, hz2⟩ := info_parts infoN
      go_wp2_with fail
      go_region_law (first
       | (refine step_append_lies _ (by rfl) _ _ _ (by rfl) (b + 1) 29 i0 (.agg #[.int .i64 0, .slice none 0 0, .string ⟨#[]⟩, .slice none 0 0, .int .i64 0, .int .i64 0]) 6 88 Tryd.underlying27 hi hz0 hz1 hz2 rfl (by decide) _ _ _ (by rfl) (hown4.alloc _) ⟨w4.heap.size, 0, none⟩ 1 1 [.int .i64 op, .slice ra rs.length rc, .string ⟨nm.toArray⟩, .slice a kk.length c, .int .i64 mn, .int .i64 mx] (by rfl) rfl (World.news_of_block (heap_alloc_new w4 _)) (node_one _ _ _ _ _ _ _ _ _ _) (by omega) (by unfold maxLen; omega) (by omega) (Nat.le_trans HK4.out.BW (by simp)) _ rfl ?_; intro g' cap' w5 hown5 hgrow5 hat5 hlt5; obtain ⟨hP5, hc5, hf5⟩ := nkids_push HS4.out HBL.out HK4.out cs hown4 HPU.out hgrow5 hat5 _ rfl rfl HTR.out (by omega) hown5; have HP5 := Lib.hid hP5; clear hP5 hown5 hgrow5)
       | (go_simp; go_at_call 8; (try rw [hwd]); refine (HIH.out d rfl g _ HSD.out.gd.codes).mono ?_; rintro e w4 ⟨x, t, rfl, hT, hg4, hsm4⟩; have HSM4 := Lib.hid hsm4; clear hsm4; have HS4 := Lib.hid (HSD.out.go hg4.ap hg4.codes); have HK4 := Lib.hid (HKD.out.go hg4.ap HGB.out HNG.out (fun _ _ _ _ h => KR.go h)); have hc4 : w4.cell? ⟨b, 3, none⟩ = some v := HK4.out.cell (by decide); have hf4 : w4.frozen? ⟨b, 3, none⟩ = false := HK4.out.bk.fz 3; have hca4 : ∀ o, (w4.alloc o).cell? ⟨b, 3, none⟩ = some v := (fun o => HK4.out.cellA (by decide) o); have hfa4 : ∀ o, (w4.alloc o).frozen? ⟨b, 3, none⟩ = false := (fun o => HK4.out.fzA 3 o); obtain ⟨op, rs, nm, kk, mn, mx, ra, rc, a, c, rfl, rfl, _⟩ := hT.open; obtain ⟨cs, hown4, hpush⟩ := HK4.out.row.cells; have HPU := Lib.hid hpush; have HTR : Hid (KR (FF (fun k => w.heap.size < k ∧ k ≠ b) v) w4 (.node op rs nm kk mn mx) [.int .i64 op, .slice ra rs.length rc, .string ⟨nm.toArray⟩, .slice a kk.length c, .int .i64 mn, .int .i64 mx]) := Lib.hid (nff_new HKD.out HBL.out hT); clear hpush hT hg4))
      all_goals (go_wp2_with fail)
      all_goals refine ⟨⟨j, kids ++ [_], _, by go_num, by simp; omega, Lib.hid (fun k hk => (List.mem_append.1 hk).elim (HSM.out k) (fun h => by rw [List.mem_singleton.1 h]; exact HSM4.out)), HP5.out.1, HP5.out.2⟩, by simp [intOf]⟩
   ·clear hr
    go_wp2_with fail
    refine wp_region_slots (by rfl) (by kernel_rfl) (by kernel_rfl) 104 [] [(0, .pointer (some ⟨g, 0, none⟩)), (1, .int .i64 ((d + 1 : Nat) : Int)), (4, .pointer (some ⟨w.heap.size, 0, none⟩))] (by kernel_rfl) (CI g w) (CRr (d + 2) w) (CG g w d) (CG.keep g w d) ?_ ?_ ?_
    case refine_1 =>
     intro i o ho ac W hB hd K hK
     have hi : i < 17 := (Array.getElem?_eq_some_iff.1 ho).1
     have hs0 : ac.tmps.getD 0 undef = .pointer (some ⟨g, 0, none⟩) := hB.fixed 0 _ (by simp)
     have hs1 : ac.tmps.getD 1 undef = .int .i64 ((d + 1 : Nat) : Int) := hB.fixed 1 _ (by simp)
     have hs4 : ac.tmps.getD 4 undef = .pointer (some ⟨w.heap.size, 0, none⟩) := hB.fixed 4 _ (by simp)
     have HKK := Lib.hid hK
     clear hK
     rcases (show i = 0 ∨ i = 1 ∨ i = 2 ∨ i = 3 ∨ i = 4 ∨ i = 5 ∨ i = 6 ∨ i = 7 ∨ i = 8 ∨ i = 9 ∨ i = 10 ∨ i = 11 ∨ i = 12 ∨ i = 13 ∨ i = 14 ∨ i = 15 ∨ i = 16 by omega) with rfl | rfl | rfl | rfl | rfl | rfl | rfl | rfl | rfl | rfl | rfl | rfl | rfl | rfl | rfl | rfl | rfl
     ·obtain rfl := Option.some.inj ho
      go_simp
      exact HKK.out _ _ (CRr.refl w W) hB.inv rfl
     ·obtain rfl := Option.some.inj ho
      have hd0 : CG g w d 0 (ac.tmps.getD 65 undef) W := hd ⟨0, .data⟩ (by simp) rfl
      simp only [CG] at hd0
      go_simp
      refine (next_any g 26 _ hB.inv.1.codes (by omega) (by omega)).mono ?_
      rintro e W2 ⟨k, hk, rfl, hca, hap⟩
      exact HKK.out _ _ (CRr.ap hB.inv hap) (hB.inv.ap hap hca) ⟨k, hk, rfl⟩
     ·obtain rfl := Option.some.inj ho
      have hd1 : CG g w d 1 (ac.tmps.getD 66 undef) W := hd ⟨1, .data⟩ (by simp) rfl
      simp only [CG] at hd1
      obtain ⟨k, hk, hv⟩ := hd1
      have hwr : IntKind.i64.wrap (97 + (k : Int)) = 97 + (k : Int) := IntWalk.i64_in _ (by omega)
      go_simp
      exact HKK.out _ _ (CRr.refl w W) hB.inv ⟨k, hk, rfl⟩
     ·obtain rfl := Option.some.inj ho
      have hd2 : CG g w d 2 (ac.tmps.getD 67 undef) W := hd ⟨2, .data⟩ (by simp) rfl
      simp only [CG] at hd2
      obtain ⟨k, hk, hv⟩ := hd2
      obtain ⟨x, hx⟩ : ∃ x : UInt8, x.toNat = 97 + k := ⟨UInt8.ofNat (97 + k), Asc.ofNat_toNat8 (by omega)⟩
      have HE : Hid (IntKind.u8.wrap (97 + (k : Int)) = (x.toNat : Int)) := Lib.hid (by rw [IntWalk.u8_in _ (by omega)]; omega)
      clear hx
      go_simp
      exact HKK.out _ _ (CRr.refl w W) hB.inv ⟨x, congrArg (Value.int .u8) HE.out⟩
     ·obtain rfl := Option.some.inj ho
      go_simp
      exact HKK.out _ _ (CRr.refl w W) hB.inv rfl
     ·obtain rfl := Option.some.inj ho
      have hd4 : CG g w d 4 (ac.tmps.getD 69 undef) W := hd ⟨4, .data⟩ (by simp) rfl
      simp only [CG] at hd4
      go_simp
      refine (next_any g 26 _ hB.inv.1.codes (by omega) (by omega)).mono ?_
      rintro e W2 ⟨k, hk, rfl, hca, hap⟩
      exact HKK.out _ _ (CRr.ap hB.inv hap) (hB.inv.ap hap hca) ⟨k, hk, rfl⟩
     ·obtain rfl := Option.some.inj ho
      have hd5 : CG g w d 5 (ac.tmps.getD 70 undef) W := hd ⟨5, .data⟩ (by simp) rfl
      simp only [CG] at hd5
      obtain ⟨k, hk, hv⟩ := hd5
      have hwr : IntKind.i64.wrap (97 + (k : Int)) = 97 + (k : Int) := IntWalk.i64_in _ (by omega)
      go_simp
      exact HKK.out _ _ (CRr.refl w W) hB.inv ⟨k, hk, rfl⟩
     ·obtain rfl := Option.some.inj ho
      have hd6 : CG g w d 6 (ac.tmps.getD 71 undef) W := hd ⟨6, .data⟩ (by simp) rfl
      simp only [CG] at hd6
      obtain ⟨k, hk, hv⟩ := hd6
      obtain ⟨x, hx⟩ : ∃ x : UInt8, x.toNat = 97 + k := ⟨UInt8.ofNat (97 + k), Asc.ofNat_toNat8 (by omega)⟩
      have HE : Hid (IntKind.u8.wrap (97 + (k : Int)) = (x.toNat : Int)) := Lib.hid (by rw [IntWalk.u8_in _ (by omega)]; omega)
      clear hx
      go_simp
      exact HKK.out _ _ (CRr.refl w W) hB.inv ⟨x, congrArg (Value.int .u8) HE.out⟩
     ·obtain rfl := Option.some.inj ho
      have hd3 : CG g w d 3 (ac.tmps.getD 68 undef) W := hd ⟨3, .data⟩ (by simp) rfl
      simp only [CG] at hd3
      have hd7 : CG g w d 7 (ac.tmps.getD 72 undef) W := hd ⟨7, .data⟩ (by simp) rfl
      simp only [CG] at hd7
      obtain ⟨x, hx⟩ := hd3
      obtain ⟨y, hy⟩ := hd7
      have hx2 : ac.tmps[68]?.getD undef = .int .u8 (x.toNat : Int) := by rw [← Array.getD_eq_getD_getElem?]; exact hx
      have hy2 : ac.tmps[72]?.getD undef = .int .u8 (y.toNat : Int) := by rw [← Array.getD_eq_getD_getElem?]; exact hy
      go_simp
      exact HKK.out _ _ (CRr.al hB.inv _) (hB.inv.al _) ⟨_, x, y, rfl, Blk.new hB.inv.lt _⟩
     ·obtain rfl := Option.some.inj ho
      have hd8 : CG g w d 8 (ac.tmps.getD 73 undef) W := hd ⟨8, .data⟩ (by simp) rfl
      simp only [CG] at hd8
      obtain ⟨q, x, y, hv, hb⟩ := hd8
      have hcv := conv2 W q x y hb.2.2
      go_simp
      exact HKK.out _ _ (CRr.refl w W) hB.inv ⟨[x, y], by simp, rfl⟩
     ·obtain rfl := Option.some.inj ho
      go_simp
      exact HKK.out _ _ (CRr.refl w W) hB.inv rfl
     ·obtain rfl := Option.some.inj ho
      go_simp
      exact HKK.out _ _ (CRr.refl w W) hB.inv rfl
     ·obtain rfl := Option.some.inj ho
      have hd11 : CG g w d 11 (ac.tmps.getD 76 undef) W := hd ⟨11, .data⟩ (by simp) rfl
      simp only [CG] at hd11
      have hwd : IntKind.i64.wrap (d : Int) = (d : Int) := IntWalk.i64_in _ (by omega)
      have hws : IntKind.i64.wrap (((d + 1 : Nat) : Int) - 1) = (d : Int) := by rw [hd1]; exact hwd
      go_simp
      exact HKK.out _ _ (CRr.refl w W) hB.inv rfl
     ·obtain rfl := Option.some.inj ho
      have hd10 : CG g w d 10 (ac.tmps.getD 75 undef) W := hd ⟨10, .data⟩ (by simp) rfl
      simp only [CG] at hd10
      have hd12 : CG g w d 12 (ac.tmps.getD 77 undef) W := hd ⟨12, .data⟩ (by simp) rfl
      simp only [CG] at hd12
      go_simp
      refine (HIH.out d rfl g W hB.inv.1.codes).mono ?_
      rintro e W2 ⟨v, t, rfl, hT, hg4, hsm⟩
      exact HKK.out _ _ (CRr.ap hB.inv hg4.ap) (hB.inv.ap hg4.ap hg4.codes) ⟨t, NG.go ⟨Nat.le_refl _, fun k hk _ => ⟨Nat.lt_of_lt_of_le hB.inv.lt hk, rfl⟩⟩ _ _ hT, hsm⟩
     ·obtain rfl := Option.some.inj ho
      have hd13 : CG g w d 13 (ac.tmps.getD 78 undef) W := hd ⟨13, .data⟩ (by simp) rfl
      simp only [CG] at hd13
      obtain ⟨t, ht, hsm⟩ := hd13
      obtain ⟨op, rs, nm, kids, mn, mx, ra, rc, a, c, _, hv, _⟩ := ht.open
      rw [hv] at ht
      have hlt := hB.inv.lt
      have hv2 : ac.tmps[78]?.getD undef = .agg #[.int .i64 op, .slice ra rs.length rc, .string ⟨nm.toArray⟩, .slice a kids.length c, .int .i64 mn, .int .i64 mx] := by rw [← Array.getD_eq_getD_getElem?]; exact hv
      go_simp
      refine HKK.out _ _ (CRr.al hB.inv _) (hB.inv.al _) ⟨W.heap.size, t, rfl, ?_, hsm⟩
      exact (OR.lit (B := W.heap.size) (e := 29) (k := 6) (R := KR (fun k => w.heap.size < k) (W.alloc (.cells #[.int .i64 op, .slice ra rs.length rc, .string ⟨nm.toArray⟩, .slice a kids.length c, .int .i64 mn, .int .i64 mx] 29))) W t [.int .i64 op, .slice ra rs.length rc, .string ⟨nm.toArray⟩, .slice a kids.length c, .int .i64 mn, .int .i64 mx] (Nat.le_refl _) rfl (NG.go ⟨by simp, fun k hk h2 => ⟨hk, ((Below.refl _ W).alloc (Nat.le_refl _) _).block k h2⟩⟩ _ _ ht)).rw (F := fun k => w.heap.size < k) (fun b hb => Nat.lt_of_lt_of_le hlt hb)
     ·obtain rfl := Option.some.inj ho
      have hd9 : CG g w d 9 (ac.tmps.getD 74 undef) W := hd ⟨9, .data⟩ (by simp) rfl
      simp only [CG] at hd9
      have hd14 : CG g w d 14 (ac.tmps.getD 79 undef) W := hd ⟨14, .data⟩ (by simp) rfl
      simp only [CG] at hd14
      obtain ⟨y, hy, hv9⟩ := hd9
      obtain ⟨q, t, hv, hrw, hsm⟩ := hd14
      rw [hv] at hrw
      have hv2 : ac.tmps[79]?.getD undef = .slice (some ⟨q, 0, none⟩) 1 1 := by rw [← Array.getD_eq_getD_getElem?]; exact hv
      have hv3 : ac.tmps[74]?.getD undef = .string ⟨y.toArray⟩ := by rw [← Array.getD_eq_getD_getElem?]; exact hv9
      go_simp
      exact HKK.out _ _ (CRr.refl w W) hB.inv ⟨y, q, .node 5 [] y [t] 0 0, rfl, NG.node (rs := []) RW.nil hrw 5 y 0 0 hy, Sz.node (by simp) (by simp) (by simpa using hsm)⟩
     ·obtain rfl := Option.some.inj ho
      have hd15 : CG g w d 15 (ac.tmps.getD 80 undef) W := hd ⟨15, .data⟩ (by simp) rfl
      simp only [CG] at hd15
      obtain ⟨y, q, t, hv, ht, hsm⟩ := hd15
      rw [hv] at ht
      obtain ⟨E, hE⟩ := hB.inv.2
      obtain ⟨k0, k1, k2, k3, k4, k5, f0, f1, f2, f3, f4, f5⟩ := bk6 hE
      go_simp
      have hfin := bk_set6 hE 5 none 0 0 y (some ⟨q, 0, none⟩) 1 1 0 0
      have hUP : UP w.heap.size W (setL W w.heap.size [.int .i64 5, .slice none 0 0, .string ⟨y.toArray⟩, .slice (some ⟨q, 0, none⟩) 1 1, .int .i64 0, .int .i64 0] 0) := ⟨by rw [setL_size]; exact Nat.le_refl _, fun k h1 _ => setL_heap _ (by omega) _ _⟩
      have hres : Cres _ w.heap.size (setL W w.heap.size [.int .i64 5, .slice none 0 0, .string ⟨y.toArray⟩, .slice (some ⟨q, 0, none⟩) 1 1, .int .i64 0, .int .i64 0] 0) := ⟨5, none, 0, 0, y, some ⟨q, 0, none⟩, 1, 1, 0, 0, t, hfin, NG.go hUP.stay _ _ ht, hsm⟩
      exact HKK.out undef (setL W w.heap.size [.int .i64 5, .slice none 0 0, .string ⟨y.toArray⟩, .slice (some ⟨q, 0, none⟩) 1 1, .int .i64 0, .int .i64 0] 0) ⟨hUP, fun _ => hres⟩ ⟨hB.inv.1.on (setL_below (Nat.le_refl _) _ _ _), _, hfin⟩ hres
    case refine_2 =>
     intro ac W hB hF
     have h16 : CG g w d 16 undef W := hF 16 (by decide)
     simp only [CG] at h16
     go_wp2_with fail
     exact node_ret2 (P := 4) rfl hB.inv.1 h16 ac hB.defers (hB.fixed 4 _ (by simp))
    case refine_3 =>
     refine ⟨rfl, rfl, fun s v hs => ?_, HS.out.gd.dr, _, HS.out.bk.dr⟩
     simp only [List.mem_cons, Prod.mk.injEq, List.not_mem_nil, or_false] at hs
     rcases hs with ⟨rfl, rfl⟩ | ⟨rfl, rfl⟩ | ⟨rfl, rfl⟩ <;> rfl
   ·have y0 : ((r : Int) == 0) = false := by rw [beq_eq_false_iff_ne]; omega
    have y1 : ((r : Int) == 1) = false := by rw [beq_eq_false_iff_ne]; omega
    have y2 : ((r : Int) == 2) = false := by rw [beq_eq_false_iff_ne]; omega
    have y3 : ((r : Int) == 3) = false := by rw [beq_eq_false_iff_ne]; omega
    have y4 : ((r : Int) == 4) = false := by rw [beq_eq_false_iff_ne]; omega
    clear hr h5
    go_wp2_with fail
    refine (HIH.out d rfl g w2 HS.out.gd.codes).mono ?_
    rintro e w3 ⟨v, t, rfl, hT, hg2, hsm⟩
    have HSM := Lib.hid hsm
    clear hsm
    have HS3 := Lib.hid (HS.out.go hg2.ap hg2.codes)
    have HT3 := Lib.hid (NG.go (F' := fun k => w.heap.size < k) (w' := w3) ⟨Nat.le_refl _, fun k hk _ => ⟨Nat.lt_of_lt_of_le HS.out.bk.lt hk, rfl⟩⟩ _ _ hT)
    clear hT hg2
    obtain ⟨op, rs, nm, kids, mn, mx, ra, rc, a, c, _, rfl, _⟩ := HT3.out.open
    have HSA := Lib.hid (HS3.out.al (.cells #[.int .i64 op, .slice ra rs.length rc, .string ⟨nm.toArray⟩, .slice a kids.length c, .int .i64 mn, .int .i64 mx] 29))
    have HR := Lib.hid ((OR.lit (B := w3.heap.size) (e := 29) (k := 6) (R := KR (fun k => w.heap.size < k) (w3.alloc (.cells #[.int .i64 op, .slice ra rs.length rc, .string ⟨nm.toArray⟩, .slice a kids.length c, .int .i64 mn, .int .i64 mx] 29))) w3 t [.int .i64 op, .slice ra rs.length rc, .string ⟨nm.toArray⟩, .slice a kids.length c, .int .i64 mn, .int .i64 mx] (Nat.le_refl _) rfl (NG.go ⟨by simp, fun k hk h2 => ⟨hk, ((Below.refl _ w3).alloc (Nat.le_refl _) _).block k h2⟩⟩ _ _ HT3.out)).rw (F := fun k => w.heap.size < k) (fun b hb => Nat.lt_of_lt_of_le HS3.out.bk.lt hb))
    go_wp2_with fail
    refine (next_any g 3 _ HSA.out.gd.codes (by omega) (by omega)).mono ?_
    rintro e w4 ⟨m, hm, rfl, hca, hap⟩
    have HS4 := Lib.hid (HSA.out.go hap hca)
    have HI0 : Hid (BI g w w4.heap.size (some ⟨w3.heap.size, 0, none⟩) m t (w4.alloc (.cells #[.int .i64 4, .slice none 0 0, .string ⟨#[]⟩, .slice (some ⟨w3.heap.size, 0, none⟩) 1 1, .int .i64 (m : Int), .int .i64 0] 29))) := Lib.hid (by
     have hS : Stay (fun k => w.heap.size < k) (FB w w4.heap.size) (w3.alloc (.cells #[.int .i64 op, .slice ra rs.length rc, .string ⟨nm.toArray⟩, .slice a kids.length c, .int .i64 mn, .int .i64 mx] 29)) (w4.alloc (.cells #[.int .i64 4, .slice none 0 0, .string ⟨#[]⟩, .slice (some ⟨w3.heap.size, 0, none⟩) 1 1, .int .i64 (m : Int), .int .i64 0] 29)) :=
      ⟨Nat.le_trans hap.1.size (by simp), fun k hk hl => ⟨⟨hk, by have := hap.1.size; omega⟩, (((Below.refl _ w4).alloc (Nat.le_refl _) _).block k (Nat.lt_of_lt_of_le hl hap.1.size)).trans (hap.block (by have := HS.out.gd.hg; omega) hl)⟩⟩
     exact ⟨HS4.out.al _, ⟨0, nE_new w4 4 none 0 0 [] _ 1 1 (m : Int) 0⟩, HR.out.go hS (fun _ _ h => NG.go hS _ _ h), HS4.out.lt⟩)
    clear hca hap HSA HR HT3 HS3
    go_wp2_with fail
    obtain ⟨b, hb⟩ : ∃ b, w4.heap.size = b := ⟨_, rfl⟩
    rw [hb] at HI0 ⊢
    clear hb
    refine wp_region_slots (by rfl) (by kernel_rfl) (by kernel_rfl) 104 [] [(0, .pointer (some ⟨g, 0, none⟩)), (4, .pointer (some ⟨w.heap.size, 0, none⟩)), (9, .pointer (some ⟨b, 0, none⟩))] (by kernel_rfl) (BI g w b (some ⟨w3.heap.size, 0, none⟩) m t) (BRr w b) (BG g w b m) (BG.keep g w b m) ?_ ?_ ?_
    case refine_1 =>
     intro i o ho ac W hB hd K hK
     have hi : i < 15 := (Array.getElem?_eq_some_iff.1 ho).1
     have hs0 : ac.tmps.getD 0 undef = .pointer (some ⟨g, 0, none⟩) := hB.fixed 0 _ (by simp)
     have hs4 : ac.tmps.getD 4 undef = .pointer (some ⟨w.heap.size, 0, none⟩) := hB.fixed 4 _ (by simp)
     have hs9 : ac.tmps.getD 9 undef = .pointer (some ⟨b, 0, none⟩) := hB.fixed 9 _ (by simp)
     have HKK := Lib.hid hK
     clear hK
     rcases (show i = 0 ∨ i = 1 ∨ i = 2 ∨ i = 3 ∨ i = 4 ∨ i = 5 ∨ i = 6 ∨ i = 7 ∨ i = 8 ∨ i = 9 ∨ i = 10 ∨ i = 11 ∨ i = 12 ∨ i = 13 ∨ i = 14 by omega) with rfl | rfl | rfl | rfl | rfl | rfl | rfl | rfl | rfl | rfl | rfl | rfl | rfl | rfl | rfl
     ·obtain rfl := Option.some.inj ho
      go_simp
      exact HKK.out _ _ (BRr.refl w b W) hB.inv rfl
     ·obtain rfl := Option.some.inj ho
      have hd0 : BG g w b m 0 (ac.tmps.getD 89 undef) W := hd ⟨0, .data⟩ (by simp) rfl
      simp only [BG] at hd0
      obtain ⟨x0, hx0⟩ := hB.inv.bk
      have c4 : W.cell? ⟨b, 4, none⟩ = some (.int .i64 (m : Int)) := hx0.ev 4 (by omega)
      go_simp
      exact HKK.out _ _ (BRr.refl w b W) hB.inv rfl
     ·obtain rfl := Option.some.inj ho
      go_simp
      exact HKK.out _ _ (BRr.refl w b W) hB.inv rfl
     ·obtain rfl := Option.some.inj ho
      have hd2 : BG g w b m 2 (ac.tmps.getD 91 undef) W := hd ⟨2, .data⟩ (by simp) rfl
      simp only [BG] at hd2
      obtain ⟨x0, hx0⟩ := hB.inv.bk
      have c4 : W.cell? ⟨b, 4, none⟩ = some (.int .i64 (m : Int)) := hx0.ev 4 (by omega)
      go_simp
      exact HKK.out _ _ (BRr.refl w b W) hB.inv rfl
     ·obtain rfl := Option.some.inj ho
      have hd3 : BG g w b m 3 (ac.tmps.getD 92 undef) W := hd ⟨3, .data⟩ (by simp) rfl
      simp only [BG] at hd3
      go_simp
      exact HKK.out _ _ (BRr.refl w b W) hB.inv ⟨_, rfl⟩
     ·obtain rfl := Option.some.inj ho
      go_simp
      exact HKK.out _ _ (BRr.refl w b W) hB.inv rfl
     ·obtain rfl := Option.some.inj ho
      have hd5 : BG g w b m 5 (ac.tmps.getD 94 undef) W := hd ⟨5, .data⟩ (by simp) rfl
      simp only [BG] at hd5
      obtain ⟨x0, hx0⟩ := hB.inv.bk
      have c4 : W.cell? ⟨b, 4, none⟩ = some (.int .i64 (m : Int)) := hx0.ev 4 (by omega)
      go_simp
      exact HKK.out _ _ (BRr.refl w b W) hB.inv rfl
     ·obtain rfl := Option.some.inj ho
      have hd6 : BG g w b m 6 (ac.tmps.getD 95 undef) W := hd ⟨6, .data⟩ (by simp) rfl
      simp only [BG] at hd6
      go_simp
      exact HKK.out _ _ (BRr.refl w b W) hB.inv ⟨_, rfl⟩
     ·obtain rfl := Option.some.inj ho
      have hd1 : BG g w b m 1 (ac.tmps.getD 90 undef) W := hd ⟨1, .data⟩ (by simp) rfl
      simp only [BG] at hd1
      have hd4 : BG g w b m 4 (ac.tmps.getD 93 undef) W := hd ⟨4, .data⟩ (by simp) rfl
      simp only [BG] at hd4
      have hd7 : BG g w b m 7 (ac.tmps.getD 96 undef) W := hd ⟨7, .data⟩ (by simp) rfl
      simp only [BG] at hd7
      obtain ⟨y2, hy2⟩ := hd4
      obtain ⟨y3, hy3⟩ := hd7
      have hx1 : ac.tmps[90]?.getD undef = .int .i64 (m : Int) := by rw [← Array.getD_eq_getD_getElem?]; exact hd1
      have hx2 : ac.tmps[93]?.getD undef = .int .i64 y2 := by rw [← Array.getD_eq_getD_getElem?]; exact hy2
      have hx3 : ac.tmps[96]?.getD undef = .int .i64 y3 := by rw [← Array.getD_eq_getD_getElem?]; exact hy3
      have hbW : b < W.heap.size := hB.inv.bk.choose_spec.lt
      go_simp
      exact HKK.out _ _ (BRr.al w b W _) (hB.inv.al _) ⟨_, _, _, _, _, rfl, hbW, Blk.new hB.inv.ns.lt _⟩
     ·obtain rfl := Option.some.inj ho
      go_simp
      exact HKK.out _ _ (BRr.refl w b W) hB.inv rfl
     ·obtain rfl := Option.some.inj ho
      have hd9 : BG g w b m 9 (ac.tmps.getD 98 undef) W := hd ⟨9, .data⟩ (by simp) rfl
      simp only [BG] at hd9
      go_simp
      refine (next_any g 4 _ hB.inv.ns.gd.codes (by omega) (by omega)).mono ?_
      rintro e W2 ⟨k, hk, rfl, hca, hap⟩
      exact HKK.out _ _ (BRr.ap b hap hB.inv.ns.gd.hg) (hB.inv.ap hap hca) ⟨k, hk, rfl⟩
     ·obtain rfl := Option.some.inj ho
      have hd8 : BG g w b m 8 (ac.tmps.getD 97 undef) W := hd ⟨8, .data⟩ (by simp) rfl
      simp only [BG] at hd8
      have hd10 : BG g w b m 10 (ac.tmps.getD 99 undef) W := hd ⟨10, .data⟩ (by simp) rfl
      simp only [BG] at hd10
      obtain ⟨q, y0, y1, y2, y3, hv, hbq, hbl⟩ := hd8
      obtain ⟨k, hk, hv2⟩ := hd10
      have i1 : (k : Int) < 4 := by omega
      have i2 : (0 : Int) ≤ (k : Int) := by omega
      go_simp
      exact HKK.out _ _ (BRr.refl w b W) hB.inv ⟨q, k, y0, y1, y2, y3, hk, rfl, hbq, hbl⟩
     ·obtain rfl := Option.some.inj ho
      have hd11 : BG g w b m 11 (ac.tmps.getD 100 undef) W := hd ⟨11, .data⟩ (by simp) rfl
      simp only [BG] at hd11
      obtain ⟨q, k, y0, y1, y2, y3, hk, hv, hbq, hbl⟩ := hd11
      obtain ⟨y, hy⟩ := four_at hk hbl.2.2
      go_simp
      exact HKK.out _ _ (BRr.refl w b W) hB.inv ⟨y, rfl⟩
     ·obtain rfl := Option.some.inj ho
      go_simp
      exact HKK.out _ _ (BRr.refl w b W) hB.inv rfl
     ·obtain rfl := Option.some.inj ho
      have hd13 : BG g w b m 13 (ac.tmps.getD 102 undef) W := hd ⟨13, .data⟩ (by simp) rfl
      simp only [BG] at hd13
      have hd12 : BG g w b m 12 (ac.tmps.getD 101 undef) W := hd ⟨12, .data⟩ (by simp) rfl
      simp only [BG] at hd12
      obtain ⟨y, hy⟩ := hd12
      obtain ⟨x0, hx0⟩ := hB.inv.bk
      have c5 : W.cell? ⟨b, 5, none⟩ = some (.int .i64 x0) := hx0.ev 5 (by omega)
      have f5 := hx0.fz 5
      go_simp
      exact HKK.out undef _ (BRr.set w b W _) (hB.inv.set y) trivial
    case refine_2 =>
     intro ac W hB hF
     have HBI := Lib.hid hB.inv
     obtain ⟨x, hx⟩ := HBI.out.bk
     have c0 : W.cell? ⟨b, 0, none⟩ = some (.int .i64 4) := hx.ev 0 (by omega)
     have c1 : W.cell? ⟨b, 1, none⟩ = some (.slice none 0 0) := hx.ev 1 (by omega)
     have c2 : W.cell? ⟨b, 2, none⟩ = some (.string ⟨#[]⟩) := hx.ev 2 (by omega)
     have c3 : W.cell? ⟨b, 3, none⟩ = some (.slice (some ⟨w3.heap.size, 0, none⟩) 1 1) := hx.ev 3 (by omega)
     have c4 : W.cell? ⟨b, 4, none⟩ = some (.int .i64 (m : Int)) := hx.ev 4 (by omega)
     have c5 : W.cell? ⟨b, 5, none⟩ = some (.int .i64 x) := hx.ev 5 (by omega)
     obtain ⟨k0, k1, k2, k3, k4, k5, f0, f1, f2, f3, f4, f5⟩ := bk6 HBI.out.ns.bk
     have hbne : b ≠ w.heap.size := Nat.ne_of_gt HBI.out.hb
     have h4 : ac.tmps.getD 4 undef = .pointer (some ⟨w.heap.size, 0, none⟩) := hB.fixed 4 _ (by simp)
     have h9 : ac.tmps.getD 9 undef = .pointer (some ⟨b, 0, none⟩) := hB.fixed 9 _ (by simp)
     have h4b := (Array.getD_eq_getD_getElem? (xs := ac.tmps) (i := 4) (d := undef)).symm.trans h4
     have h9b := (Array.getD_eq_getD_getElem? (xs := ac.tmps) (i := 9) (d := undef)).symm.trans h9
     have hp4 : ∀ v, (ac.tmps.setIfInBounds 103 v).getD 4 undef = .pointer (some ⟨w.heap.size, 0, none⟩) := fun v => (put_other (a := ac) (d := 103) v (by decide)).trans h4
     have hp103 : ∀ v, (ac.tmps.setIfInBounds 103 v).getD 103 undef = v := fun v => put_same (a := ac) v (by have := hB.size; omega)
     have hp4b : ∀ v, (ac.tmps.setIfInBounds 103 v)[4]?.getD undef = .pointer (some ⟨w.heap.size, 0, none⟩) := fun v => (Array.getD_eq_getD_getElem? (xs := ac.tmps.setIfInBounds 103 v) (i := 4) (d := undef)).symm.trans (hp4 v)
     have hp103b : ∀ v, (ac.tmps.setIfInBounds 103 v)[103]?.getD undef = v := fun v => (Array.getD_eq_getD_getElem? (xs := ac.tmps.setIfInBounds 103 v) (i := 103) (d := undef)).symm.trans (hp103 v)
     have HRF := Lib.hid (HBI.out.row.go (F' := fun k => w.heap.size < k) (w' := W) ⟨Nat.le_refl _, fun k hk _ => ⟨hk.1, rfl⟩⟩ (R' := KR (fun k => w.heap.size < k) W) (fun _ _ h => NG.go ⟨Nat.le_refl _, fun k hk _ => ⟨hk.1, rfl⟩⟩ _ _ h))
     go_wp2_with fail
     rw [nest6 W]
     refine node_ret (P := 4) rfl HBI.out.ns _ _ hB.defers ?_ (NG.node (rs := []) RW.nil HRF.out 4 [] (m : Int) x (by simp)) (Sz.node (by simp) (by simp) (by simpa using HSM.out))
     exact (put_other (a := ac) (d := 103) _ (by decide)).trans (hB.fixed 4 _ (by simp))
    case refine_3 =>
     refine ⟨rfl, rfl, fun s v hs => ?_, HI0.out.dr⟩
     simp only [List.mem_cons, Prod.mk.injEq, List.not_mem_nil, or_false] at hs
     rcases hs with ⟨rfl, rfl⟩ | ⟨rfl, rfl⟩ | ⟨rfl, rfl⟩ <;> rfl
theorem node_any (depth : Nat) : depth ≤ 4 → ∀ (g : Nat) (w : World), CodesAt w g → Calls Tryd.prog 8 #[.pointer (some ⟨g, 0, none⟩), .int .i64 depth] w (NP (depth + 1) g w) := by
 induction depth with
 | zero => intro h g w hc; exact node_aux 0 h (fun d h => by omega) g w hc
 | succ d ih => intro h g w hc; exact node_aux (d + 1) h (fun d' h' => (show d' = d by omega) ▸ ih (by omega)) g w hc
end Go.Proofs.YtihdnlpelfgklaaDoor.Gz
namespace Go.Proofs.YtihdnlpelfgklaaDoor
open Go.RowKit
namespace Gz
def bnd : Nat → Nat
 | 0 => 0
 | D + 1 => 1 + 3 * bnd D
theorem ckNs_up (D : Nat) (ih : ∀ t, Sz D t → ∀ d c ns, (ckN t d c ns).2.2 = 0 → ∀ d' c' ns', d' + D ≤ 21 → c' + bnd D ≤ 400 → (ckN t d' c' ns').2.2 = 0 ∧ (ckN t d' c' ns').1 ≤ c' + bnd D ∧ (ckN t d' c' ns').2.1 = ns' ++ Mt.prN t) :
  ∀ ks : List NT, (∀ k ∈ ks, Sz D k) → ∀ d c ns, (ckNs ks d c ns).2.2 = 0 → ∀ d' c' ns', d' + D ≤ 21 → c' + ks.length * bnd D ≤ 400 → (ckNs ks d' c' ns').2.2 = 0 ∧ (ckNs ks d' c' ns').1 ≤ c' + ks.length * bnd D ∧ (ckNs ks d' c' ns').2.1 = ns' ++ Mt.prL ks
 | [], _, d, c, ns, _, d', c', ns', _, _ => by rw [ckNs, Mt.prL]; simp
 | k :: ks, hk, d, c, ns, h, d', c', ns', hd, hc => by
  rw [List.length_cons, Nat.succ_mul] at hc ⊢
  rw [ckNs] at h
  split at h
  ·next h1 => exact absurd h h1
  ·next h1 =>
   obtain ⟨a1, a2, a3⟩ := ih k (hk k (by simp)) d c ns (by simpa using h1) d' c' ns' hd (by omega)
   obtain ⟨b1, b2, b3⟩ := ckNs_up D ih ks (fun k h => hk k (List.mem_cons_of_mem _ h)) d _ _ h d' (ckN k d' c' ns').1 (ckN k d' c' ns').2.1 hd (by omega)
   rw [ckNs, if_neg (by simpa using a1), Mt.prL]
   exact ⟨b1, by omega, by rw [b3, a3, List.append_assoc]⟩
theorem ckN_up : ∀ (D : Nat) (t : NT), Sz D t → ∀ d c ns, (ckN t d c ns).2.2 = 0 → ∀ d' c' ns', d' + D ≤ 21 → c' + bnd D ≤ 400 → (ckN t d' c' ns').2.2 = 0 ∧ (ckN t d' c' ns').1 ≤ c' + bnd D ∧ (ckN t d' c' ns').2.1 = ns' ++ Mt.prN t
 | 0, _, h, _, _, _, _, _, _, _, _, _ => by cases h
 | D + 1, .node op rs nm ks mn mx, hs, d, c, ns, h, d', c', ns', hd, hc => by
  obtain ⟨_, h3, hk⟩ := hs
  have hb : bnd (D + 1) = 1 + 3 * bnd D := rfl
  have hm : ks.length * bnd D ≤ 3 * bnd D := Nat.mul_le_mul_right _ h3
  rw [hb] at hc ⊢
  rw [ckN] at h
  split at h
  ·cases h
  ·split at h
   ·cases h
   ·split at h
    ·next h1 => exact absurd h h1
    ·next h1 =>
     rw [ckN, if_neg (by omega), if_neg (by omega), if_neg h1, Mt.prN]
     obtain ⟨b1, b2, b3⟩ := ckNs_up D (ckN_up D) ks hk _ _ _ h (d' + 1) (c' + 1) (if op = 5 then ns' ++ [nm] else ns') (by omega) (by omega)
     refine ⟨b1, by omega, ?_⟩
     rw [b3]
     split <;> simp
end Gz
def repT (k : Nat) (p : NT) : NT := .node 4 [] [] [p] (k : Int) (k : Int)
def copT (k : Nat) (p : NT) : NT := .node 2 [] [] (List.replicate k p) 0 0
theorem prL_rep {p : NT} (h : Mt.prN p = []) : ∀ k, Mt.prL (List.replicate k p) = []
 | 0 => rfl
 | k + 1 => by rw [List.replicate_succ, Mt.prL, h, prL_rep h k]; rfl
theorem dup_nil : ¬ Dup ([] : List (List UInt8)) := by
 rintro ⟨i, hi, _⟩
 simp at hi
theorem rep_ck {p : NT} {k : Nat} (hs : Gz.Sz 3 p) (hp : ckE p = 0) (hn : Mt.prN p = []) (h2 : 2 ≤ k) (h4 : k ≤ 4) : ckE (repT k p) = 0 := by
 obtain ⟨h0, _, _⟩ := Mt.ckE_zero hp
 have hpr : Mt.prN (repT k p) = [] := by
  unfold repT
  rw [Mt.prN, Mt.prL, Mt.prL, hn]
  rfl
 refine Mt.ckE_mk ?_ (by rw [hpr]; exact dup_nil) (by rw [hpr]; exact Nat.zero_le _)
 unfold repT
 have hsh : shE 4 [] [] [p].length (k : Int) (k : Int) = 0 := by
  unfold shE
  rw [shp_4]
  have hb : badR (k : Int) (k : Int) = false := by unfold badR; simp; omega
  simp [bareB, hb]
 rw [ckN, if_neg (by omega), if_neg (by omega), if_neg (by simpa using hsh)]
 exact (Gz.ckNs_up 3 (Gz.ckN_up 3) [p] (by simpa using hs) 0 0 [] (by rw [ckNs, if_neg (by simpa using h0), ckNs]) 1 1 _ (by decide) (by show 1 + 1 * 13 ≤ 400; omega)).1
theorem cop_cks {p : NT} (hs : Gz.Sz 3 p) (h0 : (ckN p 0 0 []).2.2 = 0) : ∀ (k c : Nat) (ns : List (List UInt8)), c + k * 13 ≤ 400 → (ckNs (List.replicate k p) 1 c ns).2.2 = 0
 | 0, _, _, _ => rfl
 | k + 1, c, ns, hc => by
  rw [Nat.succ_mul] at hc
  obtain ⟨a1, a2, _⟩ := Gz.ckN_up 3 p hs 0 0 [] h0 1 c ns (by decide) (by show c + 13 ≤ 400; omega)
  have a2' : (ckN p 1 c ns).1 ≤ c + 13 := a2
  rw [List.replicate_succ, ckNs, if_neg (by simpa using a1)]
  exact cop_cks hs h0 k _ _ (by omega)
theorem cop_ck {p : NT} {k : Nat} (hs : Gz.Sz 3 p) (hp : ckE p = 0) (hn : Mt.prN p = []) (h2 : 2 ≤ k) (h4 : k ≤ 4) : ckE (copT k p) = 0 := by
 obtain ⟨h0, _, _⟩ := Mt.ckE_zero hp
 have hpr : Mt.prN (copT k p) = [] := by
  unfold copT
  rw [Mt.prN, prL_rep hn]
  rfl
 refine Mt.ckE_mk ?_ (by rw [hpr]; exact dup_nil) (by rw [hpr]; exact Nat.zero_le _)
 unfold copT
 have hsh : shE 2 [] [] (List.replicate k p).length 0 0 = 0 := by simp [shE, shpB, h2]
 rw [ckN, if_neg (by omega), if_neg (by omega), if_neg (by simpa using hsh)]
 exact cop_cks hs h0 k _ _ (by omega)
theorem costL_rep (p : NT) : ∀ k, Mt.costL (List.replicate k p) = k * Mt.costN p
 | 0 => by rw [List.replicate_zero, Mt.costL, Nat.zero_mul]
 | k + 1 => by rw [List.replicate_succ, Mt.costL, costL_rep p k, Nat.succ_mul, Nat.add_comm]
theorem cop_cost {p : NT} {k : Nat} (h4 : k ≤ 4) : Mt.costN (copT k p) ≤ 4000 ∨ 400 < Mt.costN (repT k p) := by
 unfold copT repT
 rw [Mt.costN, Mt.costN, costL_rep, Mt.costL, Mt.costL]
 have ht : (Mt.tmsI (k : Int) (k : Int)).toNat = k := by unfold Mt.tmsI; rw [if_neg (by omega)]; omega
 simp only [show ¬ (2 : Int) = 5 by decide, show ¬ (4 : Int) = 5 by decide, show ¬ ((4 : Int) = 2 ∨ (4 : Int) = 3) by decide, true_or, if_true, if_false, ht, List.length_replicate]
 have e : (Mt.costN p + 0 + 1) * k = k * Mt.costN p + k := by rw [Nat.add_zero, Nat.add_mul, Nat.one_mul, Nat.mul_comm]
 rw [e]
 omega
theorem rep_prog (k : Nat) (p : NT) (h0 : k ≠ 0) (en : Bool) : Mt.progN (repT k p) en = Mt.progN (copT k p) en := by
 have h : (Mt.compN (repT k p) 0 []).1 = (Mt.compN (copT k p) 0 []).1 := by
  unfold repT copT
  rw [Mt.compN, Mt.compN]
  simp only [show ¬ (4 : Int) = 1 by decide, show ¬ (4 : Int) = 6 by decide, show ¬ (4 : Int) = 7 by decide, show ¬ (4 : Int) = 2 by decide, show ¬ (4 : Int) = 3 by decide, show ¬ (4 : Int) = 5 by decide, show ¬ (2 : Int) = 1 by decide, show ¬ (2 : Int) = 6 by decide, show ¬ (2 : Int) = 7 by decide, if_false, if_true]
  rw [if_neg (by omega)]
  unfold Mt.rept
  rw [if_neg (by omega), Int.sub_self, Int.toNat_natCast, Mt.times_comp]
  simp [Mt.opts]
 unfold Mt.progN
 rw [h]
theorem rep_mat (s : List UInt8) (k : Nat) (p : NT) (h0 : k ≠ 0) : Mt.matR s (repT k p) false 0 = Mt.matR s (copT k p) false 0 := by
 have h1 := Mt.progN_way s (repT k p) false 0 (Nat.zero_le _) (max (Mt.nst (repT k p)) (Mt.nst (copT k p))) (Nat.le_max_left _ _)
 have h2 := Mt.progN_way s (copT k p) false 0 (Nat.zero_le _) (max (Mt.nst (repT k p)) (Mt.nst (copT k p))) (Nat.le_max_right _ _)
 rw [rep_prog k p h0] at h1
 exact Mt.Way.det _ _ _ h1 h2
theorem nat_rep {w : World} {op : Int} {p : NT} {ks : List NT} {v : List Value} {blk off c n : Nat} {mn mx : Int} (hp : NAt w p (.agg v.toArray)) (hv : v.length = 6) (hks : ∀ i (h : i < ks.length), ks[i] = p) (hn : ks.length = n) (hn4 : n ≤ 100) (hl : blk < w.heap.size) (hc : ∀ i, i < n → ∀ j, j < 6 → w.cell? ⟨blk, off + i * 6 + j, none⟩ = v[j]?) : NAt w (.node op [] [] ks mn mx) (.agg #[.int .i64 op, .slice none 0 0, .string ⟨#[]⟩, .slice (some ⟨blk, off, none⟩) n c, .int .i64 mn, .int .i64 mx]) := by
 match v, hv with
 | [v0, v1, v2, v3, v4, v5], _ =>
  rw [NAt]
  refine ⟨none, 0, some ⟨blk, off, none⟩, c, by rw [hn]; rfl, ⟨rg_nil w, by omega, by simp⟩, fun _ => ⟨blk, off, rfl, hl, fun i hi => ?_⟩⟩
  have hi' : i < n := by omega
  rw [hks i hi]
  exact ⟨v0, v1, v2, v3, v4, v5, hc i hi' 0 (by decide), hc i hi' 1 (by decide), hc i hi' 2 (by decide), hc i hi' 3 (by decide), hc i hi' 4 (by decide), hc i hi' 5 (by decide), hp⟩
set_option maxRecDepth 1000000 in
set_option maxHeartbeats 4000000 in
theorem rcaps_any (t : NT) (v : Value) (w : World) (h : NAt w t v) :
  Calls Tryd.prog 13 #[v] w fun e w' => ∃ a c, e = .returned (.slice a (ckN t 0 0 []).2.1.length c) ∧ Below w.heap.size w w' := by
 have hN := h
 obtain ⟨op, rs, nm, kids, mn, mx, ra, rc, a, cp, e0, rfl, _⟩ := h.open
 clear e0
 obtain ⟨nk, hnk⟩ : ∃ n, kids.length = n := ⟨_, rfl⟩
 obtain ⟨nr, hnr⟩ : ∃ n, rs.length = n := ⟨_, rfl⟩
 rw [hnk, hnr] at hN ⊢
 obtain ⟨Wa, hWa⟩ : ∃ Wa, w.alloc (.cells #[.int .i64 op, .slice ra nr rc, .string ⟨nm.toArray⟩, .slice a nk cp, .int .i64 mn, .int .i64 mx] 29) = Wa := ⟨_, rfl⟩
 have hb : Below w.heap.size w Wa := by rw [← hWa]; exact (Below.refl _ _).alloc (Nat.le_refl _) _
 have hsz : Wa.heap.size = w.heap.size + 1 := by rw [← hWa]; exact Deep.nblk_alloc _ _
 have hbx : Wa.heap[w.heap.size]? = some (.cells #[.int .i64 op, .slice ra nr rc, .string ⟨nm.toArray⟩, .slice a nk cp, .int .i64 mn, .int .i64 mx] 29 (0, 0)) := by rw [← hWa]; exact Deep.blk_alloc_new w _
 have HI := Lib.hid (walk_aux _ t _ w Wa (w.heap.size + 1) 0 0 [] (.slice none 0 0) (Nat.lt_succ_self _) hN hb (by omega) (by omega) (World.ownsRow_nil _ _ _ _) (by omega) (by simp) (by omega))
 obtain ⟨b0, b1, b2, b3, b4, b5⟩ := box6 hbx
 obtain ⟨R, hR⟩ : ∃ R, ckN t 0 0 [] = R := ⟨_, rfl⟩
 rw [hR] at HI ⊢
 clear hb hbx hN h hnk hnr hsz hR
 go_enter Tryd.func13, Tryd.ntmps13
 go_wp2_with fail
 refine HI.out.mono ?_
 rintro e w2 ⟨v2, rfl, hrow, hcf, hb2⟩
 obtain ⟨a2, c2, rfl⟩ : ∃ a c, v2 = .slice a R.2.1.length c := by
  obtain ⟨_, ⟨h1, h2⟩ | ⟨q, cap, cur, h1, _⟩⟩ := hrow
  ·exact ⟨none, 0, by rw [h1, h2]⟩
  ·exact ⟨_, _, h1⟩
 have HB2 := Lib.hid hb2
 clear hrow hcf hb2
 go_wp2_with fail
 go_ret
 exact ⟨a2, c2, rfl, HB2.out⟩
end Go.Proofs.YtihdnlpelfgklaaDoor
namespace Go.Proofs.YtihdnlpelfgklaaDoor
open Go.RowKit
set_option maxHeartbeats 16000000 in
set_option maxRecDepth 1000000 in
theorem repeats_any (cs : List UInt8) (vc : Value) (s : List UInt8) (b : Nat) (hb8 : b < 256) (w : World) (hc : BS w vc cs) (hk : Kinds w) :
  Calls Tryd.prog 4 #[vc, .string ⟨s.toArray⟩, .int .u8 (b : Int)] w fun e w' => e = .returned (.bool true) ∧ Below w.heap.size w w' := by
 have HAW := Lib.hid (maw_any w hk)
 have HBS := Lib.hid hc
 have HK := Lib.hid hk
 clear hc hk
 go_enter Tryd.func4, Tryd.ntmps4
 go_wp2_with fail
 refine HAW.out.mono ?_
 rintro e w1 ⟨rfl, hb1⟩
 have HB1 := Lib.hid hb1
 have HNW := Lib.hid (new_any vc cs 200 w1 (HBS.out.below hb1) (by decide))
 clear hb1
 go_wp2_with fail
 refine HNW.out.mono ?_
 rintro e w2 ⟨rfl, hc2, hb2⟩
 have HB2 : Hid (Below w.heap.size w w2) := Lib.hid (HB1.out.trans (hb2.mono HB1.out.size))
 have hg2 : w1.heap.size < w2.heap.size := hc2.1
 have hwg : w.heap.size ≤ w1.heap.size := HB1.out.size
 have HNA := Lib.hid (Gz.node_any 2 (by decide) w1.heap.size w2 hc2)
 clear hb2 hc2
 go_wp2_with fail
 refine HNA.out.mono ?_
 rintro e w3 ⟨va, p, rfl, hTa, hGa, hsz⟩
 have HTa := Lib.hid hTa
 have HGa := Lib.hid hGa
 have HSZ := Lib.hid hsz
 have hAa := NG.at _ _ hTa
 obtain ⟨o1, r1, nm1, ks1, mn1, mx1, ra1, rc1, a1, c1, e1, rfl, _⟩ := hAa.open
 clear e1
 obtain ⟨nk1, hnk1⟩ : ∃ n, ks1.length = n := ⟨_, rfl⟩
 obtain ⟨nr1, hnr1⟩ : ∃ n, r1.length = n := ⟨_, rfl⟩
 rw [hnk1, hnr1] at HTa hAa ⊢
 obtain ⟨W4, hW4⟩ : ∃ W4, w3.alloc (.cells #[.int .i64 o1, .slice ra1 nr1 rc1, .string ⟨nm1.toArray⟩, .slice a1 nk1 c1, .int .i64 mn1, .int .i64 mx1] 29) = W4 := ⟨_, rfl⟩
 have hb4 : Below w3.heap.size w3 W4 := by rw [← hW4]; exact (Below.refl _ _).alloc (Nat.le_refl _) _
 have x4 : W4.heap[w3.heap.size]? = some (.cells #[.int .i64 o1, .slice ra1 nr1 rc1, .string ⟨nm1.toArray⟩, .slice a1 nk1 c1, .int .i64 mn1, .int .i64 mx1] 29 (0, 0)) := by rw [← hW4]; exact Deep.blk_alloc_new _ _
 have HB4 := Lib.hid hb4
 have HX4 := Lib.hid x4
 obtain ⟨i0, i1, i2, i3, i4, i5⟩ := box6 x4
 have HAa := Lib.hid hAa
 have HRC := Lib.hid (rcheck_any p _ W4 (NAt.later hb4 _ _ hAa))
 obtain ⟨E, hE⟩ : ∃ E, ckE p = E := ⟨_, rfl⟩
 rw [hE] at HRC
 have HE := Lib.hid hE
 have hle3 : w2.heap.size ≤ w3.heap.size := hGa.le
 have HBW3 : Hid (Below w.heap.size w w3) := Lib.hid (HB2.out.trans (hGa.ap.1.mono hwg))
 clear hTa hGa hsz hAa hnk1 hnr1 hb4 x4 hE HNA
 go_wp2_with fail
 refine HRC.out.mono ?_
 rintro e w4 ⟨rfl, hb4'⟩
 have HBW4 : Hid (Below w3.heap.size w3 w4) := Lib.hid (HB4.out.trans (hb4'.mono HB4.out.size))
 have x4' := (hb4'.block _ (heap_lt HX4.out)).trans HX4.out
 have HX4' := Lib.hid x4'
 obtain ⟨j0, j1, j2, j3, j4, j5⟩ := box6 x4'
 clear hb4' x4'
 by_cases hE0 : E = 0
 ·subst hE0
  have HCA := Lib.hid (rcaps_any p _ w4 (NAt.later HBW4.out _ _ HAa.out))
  obtain ⟨M, hM⟩ : ∃ M, (ckN p 0 0 []).2.1.length = M := ⟨_, rfl⟩
  rw [hM] at HCA
  have HM := Lib.hid hM
  clear hM
  go_wp2_with fail
  refine HCA.out.mono ?_
  rintro e w5 ⟨ca, cc, rfl, hb5⟩
  have HBW5 : Hid (Below w3.heap.size w3 w5) := Lib.hid (HBW4.out.trans (hb5.mono HBW4.out.size))
  have x5 := (hb5.block _ (heap_lt HX4'.out)).trans HX4'.out
  have HX5 := Lib.hid x5
  obtain ⟨l0, l1, l2, l3, l4, l5⟩ := box6 x5
  have HBWw5 : Hid (Below w.heap.size w w5) := Lib.hid (HBW3.out.trans (HBW5.out.mono (by have := HBW3.out.size; omega)))
  clear hb5 x5
  by_cases hM0 : M = 0
  ·subst hM0
   obtain ⟨kk, hkk⟩ : ∃ k, 2 + b % 3 = k := ⟨_, rfl⟩
   have hk24 : 2 ≤ kk ∧ kk ≤ 4 := by omega
   have hmod : (2 : Int) + (b : Int) % 3 = (kk : Int) := by
    rw [← hkk]
    push_cast
    rfl
   have hpr : Mt.prN p = [] := by
    obtain ⟨z0, _, _⟩ := Mt.ckE_zero HE.out
    have h3 := (Gz.ckN_up 3 p HSZ.out 0 0 [] z0 0 0 [] (by decide) (by decide)).2.2
    have h4 := List.length_eq_zero_iff.1 HM.out
    rw [h4] at h3
    simpa using h3.symm
   have HPR := Lib.hid hpr
   obtain ⟨W6, hW6⟩ : ∃ W6, w5.alloc (.cells #[.int .i64 o1, .slice ra1 nr1 rc1, .string ⟨nm1.toArray⟩, .slice a1 nk1 c1, .int .i64 mn1, .int .i64 mx1] 29) = W6 := ⟨_, rfl⟩
   have s6 : W6.heap.size = w5.heap.size + 1 := by rw [← hW6]; exact Deep.nblk_alloc _ _
   obtain ⟨W7, hW7⟩ : ∃ W7, W6.alloc (.cells #[.int .i64 4, .slice none 0 0, .string ⟨#[]⟩, .slice (some ⟨w5.heap.size, 0, none⟩) 1 1, .int .i64 (2 + (b : Int) % 3), .int .i64 (2 + (b : Int) % 3)] 29) = W7 := ⟨_, rfl⟩
   have s7 : W7.heap.size = w5.heap.size + 2 := by rw [← hW7, Deep.nblk_alloc, s6]
   have x6 : W7.heap[w5.heap.size]? = some (.cells #[.int .i64 o1, .slice ra1 nr1 rc1, .string ⟨nm1.toArray⟩, .slice a1 nk1 c1, .int .i64 mn1, .int .i64 mx1] 29 (0, 0)) := by
    rw [← hW7]
    refine (Deep.blk_alloc_lt _ _ _ (by omega)).trans ?_
    rw [← hW6]
    exact Deep.blk_alloc_new _ _
   have x7 : W7.heap[w5.heap.size + 1]? = some (.cells #[.int .i64 4, .slice none 0 0, .string ⟨#[]⟩, .slice (some ⟨w5.heap.size, 0, none⟩) 1 1, .int .i64 (kk : Int), .int .i64 (kk : Int)] 29 (0, 0)) := by rw [← hW7, hmod, ← s6]; exact Deep.blk_alloc_new _ _
   have hb7 : Below w5.heap.size w5 W7 := by
    rw [← hW7, ← hW6]
    have q1 := (Below.refl w5.heap.size w5).alloc (Nat.le_refl _) (.cells #[.int .i64 o1, .slice ra1 nr1 rc1, .string ⟨nm1.toArray⟩, .slice a1 nk1 c1, .int .i64 mn1, .int .i64 mx1] 29)
    exact q1.alloc q1.size _
   have HX6 := Lib.hid x6
   have HX7 := Lib.hid x7
   have HB7 : Hid (Below w3.heap.size w3 W7) := Lib.hid (HBW5.out.trans (hb7.mono HBW5.out.size))
   have HX57 := Lib.hid ((hb7.block _ (heap_lt HX5.out)).trans HX5.out)
   have HS7 := Lib.hid s7
   have HMOD := Lib.hid hmod
   clear hb7 x6 x7 s7 hkk hpr hmod
   go_wp2_with fail
   obtain ⟨W8, hW8⟩ : ∃ W8, W7.alloc (.cells #[.int .i64 2, .slice none 0 0, .string ⟨#[]⟩, .slice none 0 0, .int .i64 0, .int .i64 0] 29) = W8 := ⟨_, rfl⟩
   rw [hW8, HMOD.out]
   have x8 : W8.heap[W7.heap.size]? = some (.cells #[.int .i64 2, .slice none 0 0, .string ⟨#[]⟩, .slice none 0 0, .int .i64 0, .int .i64 0] 29 (0, 0)) := by rw [← hW8]; exact Deep.blk_alloc_new _ _
   have hb8' : Below W7.heap.size W7 W8 := by rw [← hW8]; exact (Below.refl _ _).alloc (Nat.le_refl _) _
   have HX8 := Lib.hid x8
   have HB8 := Lib.hid hb8'
   have HS8 : Hid (W7.heap.size + 1 ≤ W8.heap.size) := Lib.hid (heap_lt x8)
   clear x8 hb8' hW8 hW7 hW6 s6
   go_loopw [12] (fun i wr => ∃ (n : Nat) (kv : Value), i = .int .i64 (n : Int) ∧ n ≤ kk ∧ Hid (wr.heap[W7.heap.size]? = some (.cells #[.int .i64 2, .slice none 0 0, .string ⟨#[]⟩, kv, .int .i64 0, .int .i64 0] 29 (0, 0))) ∧ Hid (OR (W7.heap.size + 1) 29 6 (fun (_ : NT) us => us = [.int .i64 o1, .slice ra1 nr1 rc1, .string ⟨nm1.toArray⟩, .slice a1 nk1 c1, .int .i64 mn1, .int .i64 mx1]) wr (List.replicate n p) kv) ∧ Hid (Below W7.heap.size W7 wr) ∧ Hid (W7.heap.size + 1 ≤ wr.heap.size)) (fun i _ => kk - (intOf i).toNat)
   case atStart => exact ⟨0, .slice none 0 0, rfl, by omega, HX8, Lib.hid OR.nil, HB8, HS8⟩
   case round =>
    obtain ⟨n, kv, rfl, hnk, HXn, HOR, HBn, HSn⟩ := hrel
    have hsn := HSn.out
    obtain ⟨m0, m1, m2, m3, m4, m5⟩ := box6 ((HBn.out.block _ (heap_lt HX57.out)).trans HX57.out)
    by_cases hlt : n < kk
    ·obtain ⟨i0', hi, hz0, hz1, hz2⟩ := info_parts infoN
     obtain ⟨cl, hown, hpush⟩ := HOR.out.cells
     rw [List.length_replicate] at hown hpush
     obtain ⟨W9, hW9⟩ : ∃ W9, wr.alloc (.cells #[.int .i64 o1, .slice ra1 nr1 rc1, .string ⟨nm1.toArray⟩, .slice a1 nk1 c1, .int .i64 mn1, .int .i64 mx1] 29) = W9 := ⟨_, rfl⟩
     have s9 : W9.heap.size = wr.heap.size + 1 := by rw [← hW9]; exact Deep.nblk_alloc _ _
     have hb9 : Below wr.heap.size wr W9 := by rw [← hW9]; exact (Below.refl _ _).alloc (Nat.le_refl _) _
     have hnb : W9.heap[wr.heap.size]? = some (.cells #[.int .i64 o1, .slice ra1 nr1 rc1, .string ⟨nm1.toArray⟩, .slice a1 nk1 c1, .int .i64 mn1, .int .i64 mx1] 29 (0, 0)) := by rw [← hW9]; exact Deep.blk_alloc_new _ _
     have hownd := own_block hown fun b hb => hb9.block b (own_lt hown hb)
     obtain ⟨kv', We, hrun, hown2, hgr, _, hnew⟩ := run_append_own2 (P := Tryd.prog) (w := W9) (W7.heap.size + 1) 27 27 29 i0' (.agg #[.int .i64 0, .slice none 0 0, .string ⟨#[]⟩, .slice none 0 0, .int .i64 0, .int .i64 0]) 6 88 Tryd.underlying27 hi hz0 hz1 hz2 rfl (by decide) kv n cl hownd ⟨wr.heap.size, 0, none⟩ 1 1 [.int .i64 o1, .slice ra1 nr1 rc1, .string ⟨nm1.toArray⟩, .slice a1 nk1 c1, .int .i64 mn1, .int .i64 mx1] rfl (World.news_of_block hnb) (by intro u hu; simp only [List.mem_cons, List.not_mem_nil, or_false] at hu; rcases hu with rfl | rfl | rfl | rfl | rfl | rfl <;> rfl) (by unfold maxLen; omega) (by omega) (by omega)
     obtain ⟨a5, c5, hg5⟩ : ∃ a c, kv' = .slice a (n + 1) c := by
      obtain ⟨_, ⟨h1, h2⟩ | ⟨q, cap, cur, h1, _⟩⟩ := hown2
      ·omega
      ·exact ⟨_, _, h1⟩
     subst hg5
     have hgb : ∀ b, b < W9.heap.size → kv.ownBlock ≠ some b → We.heap[b]? = W9.heap[b]? := fun b hb hne => hgr.block b hb (fun e => hne e.symm)
     have hkl : ∀ b, kv.ownBlock = some b → W7.heap.size + 1 ≤ b := fun b e => (HOR.out.lt e).1
     have hlow : ∀ b, b < W7.heap.size + 1 → We.heap[b]? = wr.heap[b]? := fun b hb => (hgb b (by omega) (fun e => by have := hkl b e; omega)).trans (hb9.block b (by omega))
     have hbx : We.heap[W7.heap.size]? = some (.cells #[.int .i64 2, .slice none 0 0, .string ⟨#[]⟩, kv, .int .i64 0, .int .i64 0] 29 (0, 0)) := (hlow _ (by omega)).trans HXn.out
     have horE : OR (W7.heap.size + 1) 29 6 (fun (_ : NT) us => us = [.int .i64 o1, .slice ra1 nr1 rc1, .string ⟨nm1.toArray⟩, .slice a1 nk1 c1, .int .i64 mn1, .int .i64 mx1]) We (List.replicate n p ++ [p]) (.slice a5 (n + 1) c5) := hpush (fun _ us => us = [.int .i64 o1, .slice ra1 nr1 rc1, .string ⟨nm1.toArray⟩, .slice a1 nk1 c1, .int .i64 mn1, .int .i64 mx1]) We p [.int .i64 o1, .slice ra1 nr1 rc1, .string ⟨nm1.toArray⟩, .slice a1 nk1 c1, .int .i64 mn1, .int .i64 mx1] _ (fun _ _ h => h) rfl rfl (by omega) hown2
     obtain ⟨W10, hW10⟩ : ∃ W10, We.setCell ⟨W7.heap.size, 3, none⟩ (.slice a5 (n + 1) c5) = W10 := ⟨_, rfl⟩
     have ho10 : ∀ b, b ≠ W7.heap.size → W10.heap[b]? = We.heap[b]? := fun b hb => by rw [← hW10]; exact Deep.blk_setCell_other _ _ _ b hb
     have s10 : W10.heap.size = We.heap.size := by rw [← hW10]; exact Deep.nblk_setCell ..
     have hgs := hgr.size
     have HX10 : Hid (W10.heap[W7.heap.size]? = some (.cells #[.int .i64 2, .slice none 0 0, .string ⟨#[]⟩, .slice a5 (n + 1) c5, .int .i64 0, .int .i64 0] 29 (0, 0))) := Lib.hid (by rw [← hW10]; exact set_at hbx 3 _)
     have HOR10 : Hid (OR (W7.heap.size + 1) 29 6 (fun (_ : NT) us => us = [.int .i64 o1, .slice ra1 nr1 rc1, .string ⟨nm1.toArray⟩, .slice a1 nk1 c1, .int .i64 mn1, .int .i64 mx1]) W10 (List.replicate (n + 1) p) (.slice a5 (n + 1) c5)) := Lib.hid (by
      rw [List.replicate_succ']
      exact horE.own (fun j hj => ho10 j (by have := (horE.lt hj).1; omega)) (fun _ _ h => h) _ (Nat.le_refl _))
     have HB10 : Hid (Below W7.heap.size W7 W10) := Lib.hid (HBn.out.trans ⟨by rw [← hW10]; exact hgr.os.trans hb9.os, by rw [← hW10]; exact hgr.tape.trans hb9.tape, by rw [← hW10]; exact hgr.output.trans hb9.output, by omega, fun b hb => (ho10 b (by omega)).trans (hlow b (by omega))⟩)
     have HS10 : Hid (W7.heap.size + 1 ≤ W10.heap.size) := Lib.hid (by omega)
     have k1 : W9.cell? ⟨W7.heap.size, 3, none⟩ = some kv := by rw [Lib.cell_of_heap ((hb9.block _ (by omega)).trans HXn.out)]; rfl
     have k0 : wr.cell? ⟨W7.heap.size, 3, none⟩ = some kv := by rw [Lib.cell_of_heap HXn.out]; rfl
     have k2 : We.cell? ⟨W7.heap.size, 3, none⟩ = some kv := by rw [Lib.cell_of_heap hbx]; rfl
     have k3 := frz0 hbx 3
     have i1 : (n : Int) < (kk : Int) := by omega
     clear hi hz0 hz1 hz2 hown hpush s9 hb9 hnb hownd hown2 hgr hnew hgb hkl hlow hbx horE ho10 s10 hgs hsn
     go_wp2_with (at_builtin; refine wpList_append_run rfl _ _ _ rfl _ _ _ rfl rfl hrun ?_)
     go_roundw
     case rel => exact ⟨n + 1, _, by go_num, by omega, HX10, HOR10, HB10, HS10⟩
     case measure => simp [intOf]; omega
    ·obtain rfl : n = kk := by omega
     obtain ⟨ka, kc, rfl⟩ : ∃ a c, kv = .slice a n c := by
      obtain ⟨a, c, e, _⟩ := HOR.out.rw (F := fun _ => True) (fun _ _ => trivial)
      rw [List.length_replicate] at e
      exact ⟨a, c, e⟩
     have HBr : Hid (Below w3.heap.size w3 wr) := Lib.hid (HB7.out.trans (HBn.out.mono HB7.out.size))
     have HTX := Lib.hid (ltext_any s w1.heap.size wr (HGa.out.codes.below HBr.out))
     clear hsn m0 m1 m2 m3 m4 m5
     go_wp2_with fail
     refine HTX.out.mono ?_
     rintro e w9 ⟨tx, htx, rfl, hc9, ha9⟩
     have hs3 : w3.heap.size ≤ W7.heap.size := HB7.out.size
     have hsr := HSn.out
     have hs5 : w3.heap.size ≤ w5.heap.size := HBW5.out.size
     have hs7 : w5.heap.size + 2 = W7.heap.size := HS7.out.symm
     have st : ∀ k, w2.heap.size ≤ k → k < wr.heap.size → w9.heap[k]? = wr.heap[k]? := fun k hk hl => ha9.block (by omega) hl
     have hP9 : NAt w9 p (.agg #[.int .i64 o1, .slice ra1 nr1 rc1, .string ⟨nm1.toArray⟩, .slice a1 nk1 c1, .int .i64 mn1, .int .i64 mx1]) := NG.at _ _ (NG.go (F' := fun k => w2.heap.size ≤ k) ⟨by have := ha9.1.size; omega, fun k hk hl => ⟨hk, (st k hk (by omega)).trans (HBr.out.block k hl)⟩⟩ _ _ HTa.out)
     have y6 := (st (w5.heap.size) (by omega) (by omega)).trans ((HBn.out.block _ (by omega)).trans HX6.out)
     have y7 := (st (w5.heap.size + 1) (by omega) (by omega)).trans ((HBn.out.block _ (by omega)).trans HX7.out)
     have y8 := (st (W7.heap.size) (by omega) (by omega)).trans HXn.out
     have hN9 : NAt w9 (repT n p) (.agg #[.int .i64 4, .slice none 0 0, .string ⟨#[]⟩, .slice (some ⟨w5.heap.size, 0, none⟩) 1 1, .int .i64 (n : Int), .int .i64 (n : Int)]) := nat_rep (v := [.int .i64 o1, .slice ra1 nr1 rc1, .string ⟨nm1.toArray⟩, .slice a1 nk1 c1, .int .i64 mn1, .int .i64 mx1]) hP9 rfl (fun i hi => by simp) rfl (by decide) (heap_lt y6) (fun i hi j hj => by
      obtain rfl : i = 0 := by omega
      rw [Lib.cell_of_heap y6]
      match j, hj with
      | 0, _ => rfl
      | 1, _ => rfl
      | 2, _ => rfl
      | 3, _ => rfl
      | 4, _ => rfl
      | 5, _ => rfl)
     have hor9 : OR (W7.heap.size + 1) 29 6 (fun (_ : NT) us => us = [.int .i64 o1, .slice ra1 nr1 rc1, .string ⟨nm1.toArray⟩, .slice a1 nk1 c1, .int .i64 mn1, .int .i64 mx1]) w9 (List.replicate n p) (.slice ka n kc) := HOR.out.own (fun j hj => st j (by have := (HOR.out.lt hj).1; omega) (HOR.out.lt hj).2) (fun _ _ h => h) _ (Nat.le_refl _)
     have hC9 : NAt w9 (copT n p) (.agg #[.int .i64 2, .slice none 0 0, .string ⟨#[]⟩, .slice ka n kc, .int .i64 0, .int .i64 0]) := by
      obtain ⟨a', c', e', hm, hkk⟩ := hor9.rw (F := fun _ => True) (fun _ _ => trivial)
      rw [List.length_replicate] at e'
      injection e' with e1 e2 e3
      subst e1 e3
      obtain ⟨blk, off, e4, hl, _, hcc⟩ := hkk (by rw [List.length_replicate]; omega)
      subst e4
      refine nat_rep (v := [.int .i64 o1, .slice ra1 nr1 rc1, .string ⟨nm1.toArray⟩, .slice a1 nk1 c1, .int .i64 mn1, .int .i64 mx1]) hP9 rfl (fun i hi => by simp) (by simp) (by omega) hl (fun i hi j hj => ?_)
      obtain ⟨us, hu, hcell, hr⟩ := hcc i (by simpa using hi)
      rw [← hr]
      exact hcell j hj
     have HN := Lib.hid hN9
     have HC := Lib.hid hC9
     have HY7 := Lib.hid y7
     have HY8 := Lib.hid y8
     have HB9 : Hid (Below w.heap.size w w9) := Lib.hid ((HBW3.out.trans (HBr.out.mono (by have := HBW3.out.size; omega))).trans (ha9.1.mono hwg))
     have hck := rep_ck HSZ.out HE.out HPR.out hk24.1 hk24.2
     have hck2 := cop_ck HSZ.out HE.out HPR.out hk24.1 hk24.2
     have HCK := Lib.hid hck
     have HCK2 := Lib.hid hck2
     have HRT := rCost_any _ _ w9 hN9
     rw [if_pos hck] at HRT
     obtain ⟨K, hK⟩ : ∃ K, Mt.costN (repT n p) = K := ⟨_, rfl⟩
     have hK4 := Mt.costN_le (repT n p)
     have hco := cop_cost (p := p) hk24.2
     rw [hK] at HRT hK4 hco
     have HRT := Lib.hid HRT
     have HKK := Lib.hid hK
     have HCO := Lib.hid hco
     obtain ⟨d0, d1, d2, d3, d4, d5⟩ := box6 y7
     clear st hP9 y6 y7 y8 hN9 hor9 hC9 hck hck2 hco hK ha9 hc9 HTX HOR
     go_wp2_with fail
     refine HRT.out.mono ?_
     rintro e w10 ⟨rfl, hb10⟩
     have HB10 := Lib.hid hb10
     have HBW10 : Hid (Below w.heap.size w w10) := Lib.hid (HB9.out.trans (hb10.mono HB9.out.size))
     by_cases hK400 : K ≤ 400
     ·have z4 : decide ((400 : Int) < (K : Int)) = false := decide_eq_false (by omega)
      have hcop : Mt.costN (copT n p) ≤ 4000 := by
       rcases HCO.out with h | h
       ·exact h
       ·omega
      obtain ⟨f0, f1, f2, f3, f4, f5⟩ := box6 ((hb10.block _ (heap_lt HY7.out)).trans HY7.out)
      have HM1 := Lib.hid (Match_any (repT n p) _ tx 0 w10 (NAt.later hb10 _ _ HN.out) (HK.out.below HBW10.out) (by omega) HCK.out (by rw [HKK.out]; omega) (Nat.zero_le _))
      have HCOP := Lib.hid hcop
      clear hb10 hcop
      go_wp2_with fail
      refine HM1.out.mono ?_
      rintro e w11 ⟨v11, rfl, hv11, hb11⟩
      obtain ⟨p1, q1, g1, m1, h1, ok1, rfl⟩ := hv11.two
      have HV1 := Lib.hid hv11
      obtain ⟨W12, hW12⟩ : ∃ W12, w11.alloc (.cells #[.int .i64 p1, .int .i64 q1, .slice g1 m1 h1] 39) = W12 := ⟨_, rfl⟩
      have x12 : W12.heap[w11.heap.size]? = some (.cells #[.int .i64 p1, .int .i64 q1, .slice g1 m1 h1] 39 (0, 0)) := by rw [← hW12]; exact Deep.blk_alloc_new _ _
      have hb12 : Below w10.heap.size w10 W12 := by rw [← hW12]; exact hb11.alloc hb11.size _
      have HB12 : Hid (Below w9.heap.size w9 W12) := Lib.hid (HB10.out.trans (hb12.mono HB10.out.size))
      have HX12 := Lib.hid x12
      obtain ⟨u0, u1, u2, u3, u4, u5⟩ := box6 ((HB12.out.block _ (heap_lt HY8.out)).trans HY8.out)
      have HM2 := Lib.hid (Match_any (copT n p) _ tx 0 W12 (NAt.later HB12.out _ _ HC.out) (HK.out.below (HB9.out.trans (HB12.out.mono HB9.out.size))) (by omega) HCK2.out HCOP.out (Nat.zero_le _))
      clear hv11 hb11 x12 hb12
      go_wp2_with fail
      refine HM2.out.mono ?_
      rintro e w13 ⟨v13, rfl, hv13, hb13⟩
      obtain ⟨p2, q2, g2, m2, h2, ok2, rfl⟩ := hv13.two
      rw [← rep_mat tx n p (by omega)] at hv13
      have hrel : ok2 = ok1 ∧ p2 = p1 ∧ q2 = q1 := by
       rcases HV1.out.cases with ⟨v1, hr1, v2, v3, _⟩ | ⟨v1, e1, ms1, hr1, v2, v3, _⟩
       ·rcases hv13.cases with ⟨v5, hr2, v6, v7, _⟩ | ⟨v5, e2, ms2, hr2, v6, v7, _⟩
        ·exact ⟨by rw [v1, v5], by rw [v2, v6], by rw [v3, v7]⟩
        ·rw [hr1] at hr2
         cases hr2
       ·rcases hv13.cases with ⟨v5, hr2, v6, v7, _⟩ | ⟨v5, e2, ms2, hr2, v6, v7, _⟩
        ·rw [hr1] at hr2
         cases hr2
        ·rw [hr1] at hr2
         injection hr2 with hr2
         injection hr2 with y1 y2
         subst y1
         exact ⟨by rw [v1, v5], by rw [v2, v6], by rw [v3, v7]⟩
      obtain ⟨rfl, rfl, rfl⟩ := hrel
      obtain ⟨W14, hW14⟩ : ∃ W14, w13.alloc (.cells #[.int .i64 p2, .int .i64 q2, .slice g2 m2 h2] 39) = W14 := ⟨_, rfl⟩
      have x14 : W14.heap[w13.heap.size]? = some (.cells #[.int .i64 p2, .int .i64 q2, .slice g2 m2 h2] 39 (0, 0)) := by rw [← hW14]; exact Deep.blk_alloc_new _ _
      have hb14 : Below W12.heap.size W12 W14 := by rw [← hW14]; exact hb13.alloc hb13.size _
      have x12 := (hb14.block _ (heap_lt HX12.out)).trans HX12.out
      have k0 : W14.cell? ⟨w13.heap.size, 0, none⟩ = some (.int .i64 p2) := by rw [Lib.cell_of_heap x14]; rfl
      have k1 : W14.cell? ⟨w13.heap.size, 1, none⟩ = some (.int .i64 q2) := by rw [Lib.cell_of_heap x14]; rfl
      have k2 : W14.cell? ⟨w11.heap.size, 0, none⟩ = some (.int .i64 p2) := by rw [Lib.cell_of_heap x12]; rfl
      have k3 : W14.cell? ⟨w11.heap.size, 1, none⟩ = some (.int .i64 q2) := by rw [Lib.cell_of_heap x12]; rfl
      have HBW14 : Hid (Below w.heap.size w W14) := Lib.hid ((HB9.out.trans (HB12.out.mono HB9.out.size)).trans (hb14.mono (Nat.le_trans HB9.out.size HB12.out.size)))
      clear hv13 HV1 hb13 x14 hb14 x12 HM1 HM2
      cases ok2 with
      | true =>
       go_wp2_with fail
       go_ret
       exact ⟨rfl, HBW14.out⟩
      | false =>
       go_wp2_with fail
       go_ret
       exact ⟨rfl, HBW14.out⟩
     ·have z4 : decide ((400 : Int) < (K : Int)) = true := decide_eq_true (by omega)
      go_wp2_with fail
      go_ret
      exact ⟨rfl, HBW10.out⟩
  ·have z : decide ((0 : Int) < (M : Int)) = true := decide_eq_true (by omega)
   go_wp2_with fail
   go_ret
   exact ⟨rfl, HBWw5.out⟩
 ·have z : ((E : Int) == 0) = false := by rw [beq_eq_false_iff_ne]; omega
  go_wp2_with fail
  go_ret
  exact ⟨rfl, HBW3.out.trans (HBW4.out.mono (by have := HBW3.out.size; omega))⟩
end Go.Proofs.YtihdnlpelfgklaaDoor
namespace Go.Proofs.YtihdnlpelfgklaaDoor
open Go.ChangeShapes Go.WideShapes Go.ChangeAt Go.RowKit
open Go.ChangeMaps (open_string shut_string)
set_option maxRecDepth 1000000 in
theorem repeats_law {H : Type} {enc : TypeId × Value → H} {W : World} {base : Nat} {args : Array Value} {ds : List (DataW H)} {p : List MemPlace}
  (hval : ∀ (j : Nat) t v, (#[22, 9, 5] : Array TypeId)[j]? = some t → args[j]? = some v → Value.okWide Tryd.prog W .any base t v)
  (hA : DataW.TrodAll enc Tryd.prog W 0 (fun _ => true) true [22, 9, 5] args.toList ds p) {B : Prop} (_ : B) (hL : laidMetH Tryd.prog laidOne W) :
  Calls Tryd.prog 4 args W fun e w' => e = .returned (.bool true) ∧ Below W.heap.size W w' := by
 obtain ⟨v0, vs0, d0, ds0, p0, q0, hargs, rfl, rfl, h0, r0⟩ := trodAll_cons hA
 obtain ⟨v1, vs1, d1, ds1, p1, q1, rfl, rfl, rfl, h1, r1⟩ := trodAll_cons r0
 obtain ⟨v2, vs2, d2, ds2, p2, q2, rfl, rfl, rfl, h2, r2⟩ := trodAll_cons r1
 obtain ⟨rfl, rfl, rfl⟩ := trodAll_nil r2
 obtain rfl : args = #[v0, v1, v2] := by cases args; simp_all
 obtain ⟨bs, hbs⟩ := open_bytes (hval 0 22 v0 rfl rfl) h0
 obtain ⟨s, rfl, rfl, rfl, ws⟩ := open_string Tryd.underlying9 (hval 1 9 v1 rfl rfl) h1
 obtain ⟨x, rfl, rfl, rfl, wx⟩ := open_int Tryd.underlying5 (hval 2 5 v2 rfl rfl) h2
 obtain ⟨c, hc, rfl⟩ := u8_nat wx
 obtain ⟨l, rfl⟩ : ∃ l : List UInt8, s = ⟨l.toArray⟩ := ⟨s.data.toList, by simp⟩
 exact repeats_any bs v0 l c hc W hbs.bs (k_of_laid hL)
end Go.Proofs.YtihdnlpelfgklaaDoor
namespace Go.Proofs.YtihdnlpelfgklaaDoor
open Go.ChangeShapes Go.WideShapes Go.ChangeAt Go.RowKit
namespace RepeatsRow
set_option maxRecDepth 1000000 in
theorem contract (H : Type) (enc : TypeId × Value → H) (W : World) (base : Nat) (args : Array Value) (ds gs : List (DataW H)) (before : List MemPlace)
  (hval : ∀ (j : Nat) t v, Tryd.f4.params[j]? = some t → args[j]? = some v → Value.okWide Tryd.prog W .any base t v)
  (hW : DataW.Whole enc Tryd.prog Tryd.f4.params.toList Rows.matcherRepeatsSpec.vars false W args.toList ds gs before)
  (hbound : (DataW.weightsEach Tryd.prog (Tryd.f4.params.toList ++ (OpenSpec.ofChange Rows.matcherRepeatsSpec).bare.plain.varTypes Tryd.prog) (ds ++ gs)).all (· ≤ reachBytes) = true)
  (hL : laidMetH Tryd.prog Rows.matcherRepeatsRow.laid W) :
  Calls Tryd.prog 4 args W fun e W' => ∃ v, e = .returned v ∧ Rows.matcherRepeatsSpec.post enc Tryd.prog Tryd.f4 false true false false W args v W' := by
 have hW' := hW
 obtain ⟨p, q, hA, hV, rfl, _, _⟩ := hW
 obtain ⟨rfl, rfl⟩ := trodVars_none hV
 rw [List.append_nil] at hbound
 rw [Tryd.params4] at hA hval
 refine (repeats_law hval hA hbound hL).mono fun e W' ⟨he, hb⟩ => ?_
 subst he
 refine ⟨_, rfl, post_true hW' rfl ?_ rfl ?_ ?_ ?_ hb⟩
 ·rw [Tryd.params4]
  intro t ht
  simp only [List.mem_cons, List.not_mem_nil, or_false] at ht
  have hs : decide (22 < Tryd.prog.types.size) = true ∧ decide (9 < Tryd.prog.types.size) = true ∧ decide (5 < Tryd.prog.types.size) = true := ⟨by kernel_rfl, by kernel_rfl, by kernel_rfl⟩
  obtain ⟨s0, s1, s2⟩ := hs
  rcases ht with rfl | rfl | rfl
  ·exact of_decide_eq_true s0
  ·exact of_decide_eq_true s1
  ·exact of_decide_eq_true s2
 all_goals
  obtain ⟨v0, vs0, d0, ds0, p0, q0, hargs, rfl, rfl, h0, r0⟩ := trodAll_cons hA
  obtain ⟨v1, vs1, d1, ds1, p1, q1, _, rfl, rfl, h1, r1⟩ := trodAll_cons r0
  obtain ⟨v2, vs2, d2, ds2, p2, q2, _, rfl, rfl, h2, r2⟩ := trodAll_cons r1
  obtain ⟨_, rfl, rfl⟩ := trodAll_nil r2
  rfl
theorem laid_met (os : Os) : laidMet Tryd.prog Rows.matcherRepeatsRow.laid ((laidWorld os).forCall (fun _ _ => 0) ⟨#[], #[.slice none 0 0, .string ⟨#[]⟩, .int .u8 0], []⟩).memory :=
 laidMet_of_run' 8 (by kernel_rfl) (by kernel_rfl)
theorem reads (os : Os) {H : Type} (enc : TypeId × Value → H) : ∃ places, DataW.whole enc Tryd.prog ((laidWorld os).forCall (fun _ _ => 0) ⟨#[], #[.slice none 0 0, .string ⟨#[]⟩, .int .u8 0], []⟩).memory Tryd.f4.params.toList Rows.matcherRepeatsSpec.vars false (#[.slice none 0 0, .string ⟨#[]⟩, .int .u8 0] : Array Value).toList 8 = some ([.nil, .lit (.string []), .lit (.int .u8 0)], [], places) :=
 ⟨[], by kernel_rfl⟩
set_option maxRecDepth 100000 in
theorem lifted (os : Os) (started : os.Started) (H : Type) (enc : TypeId × Value → H) (F : Stop.Interp) :
  ReturnsInHanded {} Tryd.checked os 4 .any ((OpenSpec.ofChange Rows.matcherRepeatsSpec).preRow enc Tryd.prog Tryd.f4 Rows.matcherRepeatsRow.domain false Rows.matcherRepeatsRow.laid) (((OpenSpec.ofChange Rows.matcherRepeatsSpec).at F).post enc Tryd.prog Tryd.f4 false true false false) := by
 obtain ⟨places, hx⟩ := reads os enc
 refine returnsInHanded_of_row (C := Tryd.checked) (s := (OpenSpec.ofChange Rows.matcherRepeatsSpec)) own started (by kernel_rfl) Tryd.func4
  (witness_row_at (enc := enc) (C := Tryd.checked) false (laidWorld os) #[.slice none 0 0, .string ⟨#[]⟩, .int .u8 0] rfl (by kernel_rfl) (by kernel_rfl) (by kernel_rfl)
   (OpenSpec.preRow_of_cond 8 hx (by kernel_rfl) (fun k hk => by cases hk) (by kernel_rfl) (laid_met os))) ?_
 intro W base args ds gs before hval hW _ _ hsz hL _ _
 exact contract H enc W base args ds gs before hval hW hsz hL
theorem said : Rows.MatcherRepeatsSaid :=
 OpenClaim.holds_of_cond 4 Tryd.f4 rfl rfl rfl rfl rfl rfl rfl ⟨rfl, rfl, rfl, rfl, rfl⟩ rfl rfl rfl rfl rfl (by kernel_rfl) Tryd.func4 (by kernel_rfl)
  (of_decide_eq_true (by kernel_rfl)) (by unfold Func.isWrapper; first | (rw [if_pos (by decide +kernel)]; kernel_rfl) | (rw [if_neg (by decide +kernel)]; exact ⟨rfl, rfl⟩))
  (fun os started H enc _ F => by rw [OpenClaim.pre_eq_preRow]; exact lifted os started H enc F)
theorem plain (f : FuncId) (fn : Func) (hf : Tryd.pinned.checked.prog.funcNamed "logtide/logtidelaw03.MatcherRepeats" = some f) (hfn : Tryd.pinned.checked.prog.funcs[f]? = some fn) :
  false = Tryd.pinned.checked.prog.looks [] ∧ ∀ (j : Nat) t, fn.params[j]? = some t → Tryd.pinned.checked.prog.wantsStandIn t = false := by
 obtain rfl : f = 4 := Option.some.inj ((show Tryd.prog.funcNamed "logtide/logtidelaw03.MatcherRepeats" = some 4 by kernel_rfl).symm.trans hf) |>.symm
 obtain rfl : fn = Tryd.f4 := (Option.some.inj (Tryd.func4.symm.trans hfn)).symm
 refine ⟨by kernel_rfl, fun j t ht => ?_⟩
 rw [Tryd.params4] at ht
 have hm := Array.mem_of_getElem? ht
 simp only [List.mem_toArray, List.mem_cons, List.not_mem_nil, or_false] at hm
 rcases hm with rfl | rfl | rfl
 ·exact (show Tryd.prog.wantsStandIn 22 = false by kernel_rfl)
 ·exact (show Tryd.prog.wantsStandIn 9 = false by kernel_rfl)
 ·exact (show Tryd.prog.wantsStandIn 5 = false by kernel_rfl)
end RepeatsRow
theorem repeats_card : Rows.MatcherRepeatsCardSaid :=
 Claim7.holds_tied_plain_at .later [] _ _ _ _ RepeatsRow.said (fun _ h => by cases h) (by kernel_rfl) (fun _ h => by cases h) matcherRepeats_row_tie rfl ⟨rfl, rfl⟩ (by kernel_rfl) rfl RepeatsRow.plain (by kernel_rfl)
#print axioms repeats_card
end Go.Proofs.YtihdnlpelfgklaaDoor

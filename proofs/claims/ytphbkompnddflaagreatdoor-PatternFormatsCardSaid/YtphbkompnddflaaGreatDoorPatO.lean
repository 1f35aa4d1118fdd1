/-
  Nodes that the generator makes: their blocks lie where nothing is written any more.
-/
import Derived.Test.YtphbkompnddflaaGreatDoorPatN
import Derived.Deep.DeepCutAuto
import Derived.Deep.RegionHeld3
namespace Go.Proofs.YtphbkompnddflaaGreatDoor
open Go.RowKit

def RgR (x : UInt8 × UInt8) (us : List Value) : Prop := us = [.int .u8 (x.1.toNat : Int), .int .u8 (x.2.toNat : Int)]
theorem RW.rg {F : Nat → Prop} {w : World} {rs : List (UInt8 × UInt8)} {v : Value} (h : RW F 2 RgR w rs v) : RgAt w rs v := by
  obtain ⟨a, c, e, hm, hk⟩ := h
  refine ⟨a, c, e, Nat.le_trans hm.1 (by decide), fun i hi => ?_⟩
  obtain ⟨blk, off, e1, hl, _, hc⟩ := hk (by omega)
  obtain ⟨us, hu, hcell, hr⟩ := hc i hi
  unfold RgR at hr
  subst hr
  exact ⟨blk, off, e1, hl, hcell 0 (by decide), hcell 1 (by decide)⟩
/-- The value v is the node t, all its blocks being among F. -/
def NG (F : Nat → Prop) (w : World) : NT → Value → Prop
  | .node op rs nm kids mn mx, v => ∃ ra rc a c, v = .agg #[.int .i64 op, .slice ra rs.length rc, .string ⟨nm.toArray⟩, .slice a kids.length c, .int .i64 mn, .int .i64 mx] ∧ (RW F 2 RgR w rs (.slice ra rs.length rc) ∧ nm.length ≤ 1000 ∧ kids.length ≤ 1000000 ∧ (a = none → c = 0)) ∧
    (0 < kids.length → ∃ blk off, a = some ⟨blk, off, none⟩ ∧ blk < w.heap.size ∧ F blk ∧ ∀ i (h : i < kids.length), ∃ u0 u1 u2 u3 u4 u5,
      w.cell? ⟨blk, off + i * 6, none⟩ = some u0 ∧ w.cell? ⟨blk, off + i * 6 + 1, none⟩ = some u1 ∧ w.cell? ⟨blk, off + i * 6 + 2, none⟩ = some u2 ∧ w.cell? ⟨blk, off + i * 6 + 3, none⟩ = some u3 ∧ w.cell? ⟨blk, off + i * 6 + 4, none⟩ = some u4 ∧ w.cell? ⟨blk, off + i * 6 + 5, none⟩ = some u5 ∧
      NG F w kids[i] (.agg #[u0, u1, u2, u3, u4, u5]))
termination_by t => SizeOf.sizeOf t
decreasing_by
  have := List.sizeOf_lt_of_mem (List.getElem_mem h)
  simp
  omega
theorem NG.go {F F' : Nat → Prop} {w w' : World} (hs : Stay F F' w w') : ∀ (t : NT) (v : Value), NG F w t v → NG F' w' t v
  | .node op rs nm kids mn mx, v, h => by
    rw [NG] at h ⊢
    obtain ⟨ra, rc, a, c, e, hm, hk⟩ := h
    refine ⟨ra, rc, a, c, e, ⟨hm.1.go hs (fun _ _ h => h), hm.2⟩, fun h0 => ?_⟩
    obtain ⟨blk, off, e1, hl, hF, hc⟩ := hk h0
    refine ⟨blk, off, e1, Nat.lt_of_lt_of_le hl hs.1, (hs.2 _ hF hl).1, fun i hi => ?_⟩
    obtain ⟨u0, u1, u2, u3, u4, u5, c0, c1, c2, c3, c4, c5, ht⟩ := hc i hi
    exact ⟨u0, u1, u2, u3, u4, u5, (hs.cell (p := ⟨blk, off + i * 6, none⟩) hF hl).trans c0, (hs.cell (p := ⟨blk, off + i * 6 + 1, none⟩) hF hl).trans c1, (hs.cell (p := ⟨blk, off + i * 6 + 2, none⟩) hF hl).trans c2, (hs.cell (p := ⟨blk, off + i * 6 + 3, none⟩) hF hl).trans c3, (hs.cell (p := ⟨blk, off + i * 6 + 4, none⟩) hF hl).trans c4, (hs.cell (p := ⟨blk, off + i * 6 + 5, none⟩) hF hl).trans c5, NG.go hs kids[i] _ ht⟩
termination_by t => SizeOf.sizeOf t
decreasing_by
  have := List.sizeOf_lt_of_mem (List.getElem_mem hi)
  simp
  omega
theorem NG.at {F : Nat → Prop} {w : World} : ∀ (t : NT) (v : Value), NG F w t v → NAt w t v
  | .node op rs nm kids mn mx, v, h => by
    rw [NG] at h
    rw [NAt]
    obtain ⟨ra, rc, a, c, e, hm, hk⟩ := h
    refine ⟨ra, rc, a, c, e, ⟨hm.1.rg, Nat.le_trans hm.2.2.1 (by decide), Nat.le_trans hm.2.1 (by decide)⟩, fun h0 => ?_⟩
    obtain ⟨blk, off, e1, hl, hF, hc⟩ := hk h0
    refine ⟨blk, off, e1, hl, fun i hi => ?_⟩
    obtain ⟨u0, u1, u2, u3, u4, u5, c0, c1, c2, c3, c4, c5, ht⟩ := hc i hi
    exact ⟨u0, u1, u2, u3, u4, u5, c0, c1, c2, c3, c4, c5, NG.at kids[i] _ ht⟩
termination_by t => SizeOf.sizeOf t
decreasing_by
  have := List.sizeOf_lt_of_mem (List.getElem_mem hi)
  simp
  omega
/-- What lies in an element. -/
def KR (F : Nat → Prop) (w : World) (t : NT) (us : List Value) : Prop := NG F w t (.agg us.toArray)
theorem KR.go {F F' : Nat → Prop} {w w' : World} (hs : Stay F F' w w') (t : NT) (us : List Value) (h : KR F w t us) : KR F' w' t us := NG.go hs _ _ h
theorem NG.node {F : Nat → Prop} {w : World} {rs : List (UInt8 × UInt8)} {ra : Option Addr} {rn rc : Nat} (hr : RW F 2 RgR w rs (.slice ra rn rc)) {kids : List NT} {a : Option Addr} {n c : Nat} (h : RW F 6 (KR F w) w kids (.slice a n c)) (op : Int) (nm : List UInt8) (mn mx : Int) (hnm : nm.length ≤ 1000) :
    NG F w (.node op rs nm kids mn mx) (.agg #[.int .i64 op, .slice ra rn rc, .string ⟨nm.toArray⟩, .slice a n c, .int .i64 mn, .int .i64 mx]) := by
  have hr0 := hr
  obtain ⟨ra', rc', e, _, _⟩ := hr0
  injection e with e1 e2 e3
  subst e1 e2 e3
  obtain ⟨a', c', e, hm, hk⟩ := h
  injection e with e1 e2 e3
  subst e1 e2 e3
  rw [NG]
  refine ⟨ra, rc, a, c, rfl, ⟨hr, hnm, hm.1, hm.2⟩, fun h0 => ?_⟩
  obtain ⟨blk, off, e1, hl, hF, hc⟩ := hk h0
  refine ⟨blk, off, e1, hl, hF, fun i hi => ?_⟩
  obtain ⟨us, hu, hcell, hr⟩ := hc i hi
  match us, hu with
  | [u0, u1, u2, u3, u4, u5], _ => exact ⟨u0, u1, u2, u3, u4, u5, hcell 0 (by decide), hcell 1 (by decide), hcell 2 (by decide), hcell 3 (by decide), hcell 4 (by decide), hcell 5 (by decide), hr⟩
theorem NG.open {F : Nat → Prop} {w : World} {t : NT} {v : Value} (h : NG F w t v) : ∃ op rs nm kids mn mx ra rc a c, t = .node op rs nm kids mn mx ∧ v = .agg #[.int .i64 op, .slice ra rs.length rc, .string ⟨(nm : List UInt8).toArray⟩, .slice a kids.length c, .int .i64 mn, .int .i64 mx] ∧ nm.length ≤ 1000 ∧
    RW F 2 RgR w rs (.slice ra rs.length rc) ∧ RW F 6 (KR F w) w kids (.slice a kids.length c) := by
  obtain ⟨op, rs, nm, kids, mn, mx⟩ := t
  rw [NG] at h
  obtain ⟨ra, rc, a, c, e, hm, hk⟩ := h
  refine ⟨op, rs, nm, kids, mn, mx, ra, rc, a, c, rfl, e, hm.2.1, hm.1, a, c, rfl, hm.2.2, fun h0 => ?_⟩
  obtain ⟨blk, off, e1, hl, hF, hc⟩ := hk h0
  refine ⟨blk, off, e1, hl, hF, fun i hi => ?_⟩
  obtain ⟨u0, u1, u2, u3, u4, u5, c0, c1, c2, c3, c4, c5, ht⟩ := hc i hi
  refine ⟨[u0, u1, u2, u3, u4, u5], rfl, fun j hj => ?_, ht⟩
  match j, hj with
  | 0, _ => exact c0
  | 1, _ => exact c1
  | 2, _ => exact c2
  | 3, _ => exact c3
  | 4, _ => exact c4
  | 5, _ => exact c5
/-- All lists of a node are short. -/
def Sm (N : Nat) : NT → Prop
  | .node _ rs _ ks _ _ => rs.length ≤ N ∧ ks.length ≤ N ∧ ∀ i (h : i < ks.length), Sm N ks[i]
termination_by t => SizeOf.sizeOf t
decreasing_by
  have := List.sizeOf_lt_of_mem (List.getElem_mem h)
  simp
  omega
theorem Sm.node {N : Nat} {op : Int} {rs : List (UInt8 × UInt8)} {nm : List UInt8} {ks : List NT} {mn mx : Int} (h1 : rs.length ≤ N) (h2 : ks.length ≤ N) (h3 : ∀ k ∈ ks, Sm N k) : Sm N (.node op rs nm ks mn mx) := by
  rw [Sm]
  exact ⟨h1, h2, fun i h => h3 _ (List.getElem_mem h)⟩
theorem Sm.open {N : Nat} {op : Int} {rs : List (UInt8 × UInt8)} {nm : List UInt8} {ks : List NT} {mn mx : Int} (h : Sm N (.node op rs nm ks mn mx)) : rs.length ≤ N ∧ ks.length ≤ N ∧ ∀ k ∈ ks, Sm N k := by
  rw [Sm] at h
  refine ⟨h.1, h.2.1, fun k hk => ?_⟩
  obtain ⟨i, hi, rfl⟩ := List.getElem_of_mem hk
  exact h.2.2 i hi
theorem Sm.mono {N M : Nat} (hNM : N ≤ M) : ∀ t : NT, Sm N t → Sm M t
  | .node op rs nm ks mn mx, h => by
    rw [Sm] at h ⊢
    exact ⟨Nat.le_trans h.1 hNM, Nat.le_trans h.2.1 hNM, fun i hi => Sm.mono hNM ks[i] (h.2.2 i hi)⟩
termination_by t => SizeOf.sizeOf t
decreasing_by
  have := List.sizeOf_lt_of_mem (List.getElem_mem hi)
  simp
  omega
/-- A node that the generator has made. -/
def NP (g : Nat) (w : World) (e : Ending) (w' : World) : Prop := ∃ v t, e = .returned v ∧ NG (fun k => w.heap.size ≤ k) w' t v ∧ GD g w w' ∧ Sm 1000 t
/-- Where the walk stands: the list of choices, the result's block. -/
structure NS (g : Nat) (w W : World) : Prop where
  gd : GD g w W
  bk : BK w.heap.size 6 (nE 0 none 0 0 [] none 0 0 0 0) W
theorem NS.go {g : Nat} {w W W' : World} (h : NS g w W) (ha : Apart g W W') (hc : CodesAt W' g) : NS g w W' := ⟨h.gd.go ha hc, h.bk.go ha (Nat.ne_of_gt h.gd.hg)⟩
theorem NS.al {g : Nat} {w W : World} (h : NS g w W) (o : Obj) : NS g w (W.alloc o) := ⟨h.gd.al o, h.bk.al o⟩
theorem NS.dr {g : Nat} {w W : World} (h : NS g w W) : NS g w W.drew := ⟨h.gd.dr, h.bk.dr⟩
theorem NS.lt {g : Nat} {w W : World} (h : NS g w W) : w.heap.size < W.heap.size := h.bk.lt
theorem NS.set {g : Nat} {w W : World} (h : NS g w W) {b : Nat} (hb : w.heap.size < b) (i : Nat) (v : Value) : NS g w (W.setCell ⟨b, i, none⟩ v) := ⟨h.gd.set (Nat.le_of_lt hb) i v, h.bk.other (Nat.ne_of_lt hb) i v⟩
theorem bk6 {b : Nat} {E : Nat → Value} {W : World} (h : BK b 6 E W) : W.cell? ⟨b, 0, none⟩ = some (E 0) ∧ W.cell? ⟨b, 1, none⟩ = some (E 1) ∧ W.cell? ⟨b, 2, none⟩ = some (E 2) ∧ W.cell? ⟨b, 3, none⟩ = some (E 3) ∧ W.cell? ⟨b, 4, none⟩ = some (E 4) ∧ W.cell? ⟨b, 5, none⟩ = some (E 5) ∧
    W.frozen? ⟨b, 0, none⟩ = false ∧ W.frozen? ⟨b, 1, none⟩ = false ∧ W.frozen? ⟨b, 2, none⟩ = false ∧ W.frozen? ⟨b, 3, none⟩ = false ∧ W.frozen? ⟨b, 4, none⟩ = false ∧ W.frozen? ⟨b, 5, none⟩ = false :=
  ⟨h.ev 0 (by omega), h.ev 1 (by omega), h.ev 2 (by omega), h.ev 3 (by omega), h.ev 4 (by omega), h.ev 5 (by omega), h.fz 0, h.fz 1, h.fz 2, h.fz 3, h.fz 4, h.fz 5⟩
theorem nE_new (W : World) (op : Int) (ra : Option Addr) (rn rc : Nat) (nm : List UInt8) (a : Option Addr) (n cp : Nat) (mn mx : Int) : BK W.heap.size 6 (nE op ra rn rc nm a n cp mn mx) (W.alloc (.cells #[.int .i64 op, .slice ra rn rc, .string ⟨nm.toArray⟩, .slice a n cp, .int .i64 mn, .int .i64 mx] 25)) :=
  BK.new W _ _ _ 6 (fun i hi => by
    match i, hi with
    | 0, _ => rfl
    | 1, _ => rfl
    | 2, _ => rfl
    | 3, _ => rfl
    | 4, _ => rfl
    | 5, _ => rfl)
theorem NS.start {g : Nat} {w : World} (hc : CodesAt w g) : NS g w (w.alloc (.cells #[.int .i64 0, .slice none 0 0, .string ⟨#[]⟩, .slice none 0 0, .int .i64 0, .int .i64 0] 25)) := ⟨(GD.start hc).al _, nE_new w 0 none 0 0 [] none 0 0 0 0⟩
theorem nest6 (W : World) {b : Nat} {v0 v1 v2 v3 v4 v5 : Value} : ((((((W.setCell ⟨b, 0, none⟩ v0).setCell ⟨b, 1, none⟩ v1).setCell ⟨b, 2, none⟩ v2).setCell ⟨b, 3, none⟩ v3).setCell ⟨b, 4, none⟩ v4).setCell ⟨b, 5, none⟩ v5) = setL W b [v0, v1, v2, v3, v4, v5] 0 := rfl
/-- The end: the node is stored and handed back. -/
theorem node_ret {fn : Func} {P : Tmp} (hfn : fn.results = #[.cell P 25]) {w W : World} {g : Nat} (hS : NS g w W) (tmps : Array Value) (df : _) (hdf : df = []) (hp : tmps.getD P undef = .pointer (some ⟨w.heap.size, 0, none⟩)) {v0 v1 v2 v3 v4 v5 : Value} {t : NT}
    (hT : NG (fun k => w.heap.size < k) W t (.agg #[v0, v1, v2, v3, v4, v5])) (hk : Sm 1000 t) :
    bodyPost Tryz.prog fn (NP g w) Exit.ret { tmps := tmps, defers := df } (setL W w.heap.size [v0, v1, v2, v3, v4, v5] 0) := by
  have hb := setL_below (B := w.heap.size) (b := w.heap.size) (Nat.le_refl _) [v0, v1, v2, v3, v4, v5] W 0
  have hc := setL_at (b := w.heap.size) [v0, v1, v2, v3, v4, v5] W 0 (fun j _ hj => ⟨_, hS.bk.ev j (by simpa using hj)⟩)
  refine bodyPost_ret (results_item (ty := 25) hfn tmps _ w.heap.size [v0, v1, v2, v3, v4, v5] _ hp (fun j v hv => by have := hc j v hv; rwa [Nat.zero_add] at this) Tryz.underlying25 rfl (by kernel_rfl)) hdf ⟨_, t, rfl, NG.go ⟨hb.size, fun j hj _ => ⟨Nat.le_of_lt hj, setL_heap _ (Nat.ne_of_gt hj) _ _⟩⟩ _ _ hT, hS.gd.on hb, hk⟩
/-- Ranges in a block just made. -/
theorem rg_lit (F : Nat → Prop) (W : World) (rs : List (UInt8 × UInt8)) (cs : Array Value) (h0 : rs.length ≤ 1000000) (hF : F W.heap.size) (hc : ∀ i (h : i < rs.length), cs[i * 2]? = some (.int .u8 (rs[i].1.toNat : Int)) ∧ cs[i * 2 + 1]? = some (.int .u8 (rs[i].2.toNat : Int))) (ty : TypeId) :
    RW F 2 RgR (W.alloc (.cells cs ty)) rs (.slice (some ⟨W.heap.size, 0, none⟩) rs.length rs.length) := by
  refine ⟨_, _, rfl, ⟨h0, fun e => by cases e⟩, fun _ => ⟨W.heap.size, 0, rfl, by simp, hF, fun i hi => ⟨_, rfl, fun j hj => ?_, rfl⟩⟩⟩
  obtain ⟨h1, h2⟩ := hc i hi
  match j, hj with
  | 0, _ => simpa [go_sem] using h1
  | 1, _ => simpa [go_sem] using h2

end Go.Proofs.YtphbkompnddflaaGreatDoor

/-
  What the drawn regions of Node keep.
-/
import Derived.Test.YtphbkompnddflaaGreatDoorPatP
import Derived.Test.YtphbkompnddflaaGreatDoorFacts
import Derived.Laws.IdiomStrings
namespace Go.Proofs.YtphbkompnddflaaGreatDoor
open Go.RowKit

def Blk (b0 : Nat) (W : World) (b : Nat) (o : Obj) : Prop := b0 < b ∧ b < W.heap.size ∧ W.heap[b]? = some o
/-- All blocks above b0 stay. -/
def UP (b0 : Nat) (W W' : World) : Prop := W.heap.size ≤ W'.heap.size ∧ ∀ k, b0 < k → k < W.heap.size → W'.heap[k]? = W.heap[k]?
theorem UP.refl (b0 : Nat) (W : World) : UP b0 W W := ⟨Nat.le_refl _, fun _ _ _ => rfl⟩
theorem UP.al (b0 : Nat) (W : World) (o : Obj) : UP b0 W (W.alloc o) := ⟨by simp, fun k _ h => ((Below.refl _ W).alloc (Nat.le_refl _) o).block k h⟩
theorem UP.ap {g b0 : Nat} {W W' : World} (h : Apart g W W') (hg : g ≤ b0) : UP b0 W W' := ⟨h.1.size, fun k h1 h2 => h.block (by omega) h2⟩
theorem UP.stay {b0 : Nat} {W W' : World} (h : UP b0 W W') : Stay (fun k => b0 < k) (fun k => b0 < k) W W' := ⟨h.1, fun k hk hl => ⟨hk, h.2 k hk hl⟩⟩
theorem Blk.up {b0 b : Nat} {W W' : World} {o : Obj} (h : Blk b0 W b o) (hR : UP b0 W W') : Blk b0 W' b o := ⟨h.1, Nat.lt_of_lt_of_le h.2.1 hR.1, (hR.2 b h.1 h.2.1).trans h.2.2⟩
theorem Blk.new {b0 : Nat} {W : World} (h : b0 < W.heap.size) (o : Obj) : Blk b0 (W.alloc o) W.heap.size o := ⟨h, by simp, heap_alloc_new W o⟩
/-- The result's block holds a node. -/
def Cres (b0 : Nat) (W : World) : Prop := ∃ (op : Int) (ra : Option Addr) (rn rc : Nat) (nm : List UInt8) (a : Option Addr) (n cp : Nat) (mn mx : Int) (t : NT), BK b0 6 (nE op ra rn rc nm a n cp mn mx) W ∧ NG (fun k => b0 < k) W t (.agg #[.int .i64 op, .slice ra rn rc, .string ⟨nm.toArray⟩, .slice a n cp, .int .i64 mn, .int .i64 mx]) ∧ Sm 1000 t
def CI (g : Nat) (w W : World) : Prop := GD g w W ∧ ∃ E, BK w.heap.size 6 E W
def CRr (w W W' : World) : Prop := UP w.heap.size W W' ∧ (Cres w.heap.size W → Cres w.heap.size W')
theorem Cres.up {b0 : Nat} {W W' : World} (h : Cres b0 W) (hu : UP b0 W W') (hb : W'.heap[b0]? = W.heap[b0]?) : Cres b0 W' := by
  obtain ⟨op, ra, rn, rc, nm, a, n, cp, mn, mx, t, h1, h2, h3⟩ := h
  exact ⟨op, ra, rn, rc, nm, a, n, cp, mn, mx, t, h1.keep hb hu.1, NG.go hu.stay _ _ h2, h3⟩
theorem CRr.refl (w W : World) : CRr w W W := ⟨UP.refl _ _, id⟩
theorem CI.lt {g : Nat} {w W : World} (h : CI g w W) : w.heap.size < W.heap.size := h.2.choose_spec.lt
theorem CRr.al {g : Nat} {w W : World} (h : CI g w W) (o : Obj) : CRr w W (W.alloc o) := ⟨UP.al _ _ _, fun c => c.up (UP.al _ _ _) (((Below.refl _ W).alloc (Nat.le_refl _) o).block _ h.lt)⟩
theorem CRr.ap {g : Nat} {w W W' : World} (h : CI g w W) (ha : Apart g W W') : CRr w W W' := ⟨UP.ap ha (Nat.le_of_lt h.1.hg), fun c => c.up (UP.ap ha (Nat.le_of_lt h.1.hg)) (ha.block (by have := h.1.hg; omega) h.lt)⟩
theorem CI.al {g : Nat} {w W : World} (h : CI g w W) (o : Obj) : CI g w (W.alloc o) := ⟨h.1.al o, h.2.choose, h.2.choose_spec.al o⟩
theorem CI.ap {g : Nat} {w W W' : World} (h : CI g w W) (ha : Apart g W W') (hc : CodesAt W' g) : CI g w W' := ⟨h.1.go ha hc, h.2.choose, h.2.choose_spec.go ha (by have := h.1.hg; omega)⟩
theorem bk_set6 {b : Nat} {E : Nat → Value} {W : World} (h : BK b 6 E W) (op : Int) (ra : Option Addr) (rn rc : Nat) (nm : List UInt8) (a : Option Addr) (n cp : Nat) (mn mx : Int) :
    BK b 6 (nE op ra rn rc nm a n cp mn mx) (setL W b [.int .i64 op, .slice ra rn rc, .string ⟨nm.toArray⟩, .slice a n cp, .int .i64 mn, .int .i64 mx] 0) :=
  ((((((h.set 0 (by omega) (.int .i64 op)).set 1 (by omega) (.slice ra rn rc)).set 2 (by omega) (.string ⟨nm.toArray⟩)).set 3 (by omega) (.slice a n cp)).set 4 (by omega) (.int .i64 mn)).set 5 (by omega) (.int .i64 mx)).cong fun i hi => by
    match i, hi with
    | 0, _ => rfl
    | 1, _ => rfl
    | 2, _ => rfl
    | 3, _ => rfl
    | 4, _ => rfl
    | 5, _ => rfl
theorem node_ret2 {fn : Func} {P : Tmp} (hfn : fn.results = #[.cell P 25]) {w W : World} {g : Nat} (hG : GD g w W) (hC : Cres w.heap.size W) (a : Act) (hdf : a.defers = []) (hp : a.tmps.getD P undef = .pointer (some ⟨w.heap.size, 0, none⟩)) :
    bodyPost Tryz.prog fn (NP g w) Exit.ret a W := by
  obtain ⟨op, ra, rn, rc, nm, ad, n, cp, mn, mx, t, hB, hT, hn⟩ := hC
  have hc : ∀ j v, [Value.int .i64 op, .slice ra rn rc, .string ⟨nm.toArray⟩, .slice ad n cp, .int .i64 mn, .int .i64 mx][j]? = some v → W.cell? ⟨w.heap.size, j, none⟩ = some v := fun j v hv => by
    have hj : j < 6 := (List.getElem?_eq_some_iff.1 hv).1
    rw [hB.ev j hj]
    match j, hj with
    | 0, _ => exact hv
    | 1, _ => exact hv
    | 2, _ => exact hv
    | 3, _ => exact hv
    | 4, _ => exact hv
    | 5, _ => exact hv
  obtain ⟨tmps, df⟩ := a
  exact bodyPost_ret (results_item (ty := 25) hfn tmps _ w.heap.size [.int .i64 op, .slice ra rn rc, .string ⟨nm.toArray⟩, .slice ad n cp, .int .i64 mn, .int .i64 mx] _ hp hc Tryz.underlying25 rfl (by kernel_rfl)) hdf ⟨_, t, rfl, NG.go ⟨Nat.le_refl _, fun k hk _ => ⟨Nat.le_of_lt hk, rfl⟩⟩ _ _ hT, hG, hn⟩
/-- What the operations of a capture leave. -/
def CG (g : Nat) (w : World) (d : Nat) (k : Nat) (v : Value) (W : World) : Prop :=
  match k with
  | 0 => v = .pointer (some ⟨g, 0, none⟩)
  | 1 => ∃ k : Nat, k < 26 ∧ v = .int .i64 k
  | 2 => ∃ k : Nat, k < 26 ∧ v = .int .i64 (97 + (k : Int))
  | 3 => ∃ x : UInt8, v = .int .u8 (x.toNat : Int)
  | 4 => v = .pointer (some ⟨g, 0, none⟩)
  | 5 => ∃ k : Nat, k < 26 ∧ v = .int .i64 k
  | 6 => ∃ k : Nat, k < 26 ∧ v = .int .i64 (97 + (k : Int))
  | 7 => ∃ x : UInt8, v = .int .u8 (x.toNat : Int)
  | 8 => ∃ (q : Nat) (x y : UInt8), v = .slice (some ⟨q, 0, none⟩) 2 2 ∧ Blk w.heap.size W q (.cells #[.int .u8 (x.toNat : Int), .int .u8 (y.toNat : Int)] 5)
  | 9 => ∃ y : List UInt8, y.length ≤ 1000 ∧ v = .string ⟨y.toArray⟩
  | 10 => v = .pointer (some ⟨g, 0, none⟩)
  | 11 => v = .int .i64 (d + 1 : Nat)
  | 12 => v = .int .i64 (d : Int)
  | 13 => ∃ t, NG (fun k => w.heap.size < k) W t v ∧ Sm 1000 t
  | 14 => ∃ (q : Nat) (t : NT), v = .slice (some ⟨q, 0, none⟩) 1 1 ∧ RW (fun k => w.heap.size < k) 6 (KR (fun k => w.heap.size < k) W) W [t] v ∧ Sm 1000 t
  | 15 => ∃ (y : List UInt8) (q : Nat) (t : NT), v = .agg #[.int .i64 5, .slice none 0 0, .string ⟨y.toArray⟩, .slice (some ⟨q, 0, none⟩) 1 1, .int .i64 0, .int .i64 0] ∧ NG (fun k => w.heap.size < k) W t v ∧ Sm 1000 t
  | 16 => Cres w.heap.size W
  | _ => True
theorem CG.keep (g : Nat) (w : World) (d : Nat) : ∀ k v W W', CRr w W W' → CG g w d k v W → CG g w d k v W' := by
  intro k v W W' hR h
  have hs := hR.1.stay
  unfold CG at *
  split at h
  · exact h
  · exact h
  · exact h
  · exact h
  · exact h
  · exact h
  · exact h
  · exact h
  · obtain ⟨q, x, y, h1, h2⟩ := h
    exact ⟨q, x, y, h1, h2.up hR.1⟩
  · exact h
  · exact h
  · exact h
  · exact h
  · obtain ⟨t, h, h9⟩ := h
    exact ⟨t, NG.go hs _ _ h, h9⟩
  · obtain ⟨q, t, h1, h2, h9⟩ := h
    exact ⟨q, t, h1, h2.go hs (fun _ _ h => NG.go hs _ _ h), h9⟩
  · obtain ⟨y, q, t, h1, h2, h9⟩ := h
    exact ⟨y, q, t, h1, NG.go hs _ _ h2, h9⟩
  · exact hR.2 h
  · trivial
/-- What the operations of the bounds leave. -/
def BG (g : Nat) (w : World) (b : Nat) (m : Nat) (k : Nat) (v : Value) (W : World) : Prop :=
  match k with
  | 0 => v = .pointer (some ⟨b, 4, none⟩)
  | 1 => v = .int .i64 (m : Int)
  | 2 => v = .pointer (some ⟨b, 4, none⟩)
  | 3 => v = .int .i64 (m : Int)
  | 4 => ∃ y : Int, v = .int .i64 y
  | 5 => v = .pointer (some ⟨b, 4, none⟩)
  | 6 => v = .int .i64 (m : Int)
  | 7 => ∃ y : Int, v = .int .i64 y
  | 8 => ∃ (q : Nat) (y0 y1 y2 y3 : Int), v = .slice (some ⟨q, 0, none⟩) 4 4 ∧ b < q ∧ Blk w.heap.size W q (.cells #[.int .i64 y0, .int .i64 y1, .int .i64 y2, .int .i64 y3] 3)
  | 9 => v = .pointer (some ⟨g, 0, none⟩)
  | 10 => ∃ k : Nat, k < 4 ∧ v = .int .i64 k
  | 11 => ∃ (q k : Nat) (y0 y1 y2 y3 : Int), k < 4 ∧ v = .pointer (some ⟨q, k, none⟩) ∧ b < q ∧ Blk w.heap.size W q (.cells #[.int .i64 y0, .int .i64 y1, .int .i64 y2, .int .i64 y3] 3)
  | 12 => ∃ y : Int, v = .int .i64 y
  | 13 => v = .pointer (some ⟨b, 5, none⟩)
  | _ => True
/-- All blocks stay but b's own, which keeps its cells but the last. -/
def BRr (w : World) (b : Nat) (W W' : World) : Prop := W.heap.size ≤ W'.heap.size ∧ ∀ k, w.heap.size < k → k ≠ b → k < W.heap.size → W'.heap[k]? = W.heap[k]?
theorem BG.keep (g : Nat) (w : World) (b m : Nat) : ∀ k v W W', BRr w b W W' → BG g w b m k v W → BG g w b m k v W' := by
  intro k v W W' hR h
  have hb : ∀ {q : Nat} {o : Obj}, b < q → Blk w.heap.size W q o → Blk w.heap.size W' q o := fun hq h => ⟨h.1, Nat.lt_of_lt_of_le h.2.1 hR.1, (hR.2 _ h.1 (by omega) h.2.1).trans h.2.2⟩
  unfold BG at *
  split at h
  · exact h
  · exact h
  · exact h
  · exact h
  · exact h
  · exact h
  · exact h
  · exact h
  · obtain ⟨q, y0, y1, y2, y3, h1, h2, h3⟩ := h
    exact ⟨q, y0, y1, y2, y3, h1, h2, hb h2 h3⟩
  · exact h
  · exact h
  · obtain ⟨q, k, y0, y1, y2, y3, h0, h1, h2, h3⟩ := h
    exact ⟨q, k, y0, y1, y2, y3, h0, h1, h2, hb h2 h3⟩
  · exact h
  · exact h
  · trivial
theorem four_at {k : Nat} (hk : k < 4) {W : World} {b : Nat} {y0 y1 y2 y3 : Int} (h : W.heap[b]? = some (.cells #[.int .i64 y0, .int .i64 y1, .int .i64 y2, .int .i64 y3] 3)) : ∃ y : Int, W.cell? ⟨b, k, none⟩ = some (.int .i64 y) := by
  rw [Lib.cell_of_heap h]
  match k, hk with
  | 0, _ => exact ⟨_, rfl⟩
  | 1, _ => exact ⟨_, rfl⟩
  | 2, _ => exact ⟨_, rfl⟩
  | 3, _ => exact ⟨_, rfl⟩

/-- Where the walk of the bounds stands: the node's block b, its kid's row. -/
def FB (w : World) (b : Nat) : Nat → Prop := fun k => w.heap.size < k ∧ k ≠ b
structure BI (g : Nat) (w : World) (b : Nat) (ka : Option Addr) (m : Nat) (t : NT) (W : World) : Prop where
  ns : NS g w W
  bk : ∃ x : Int, BK b 6 (nE 4 none 0 0 [] ka 1 1 (m : Int) x) W
  row : RW (FB w b) 6 (KR (FB w b) W) W [t] (.slice ka 1 1)
  hb : w.heap.size < b
section
variable {g b m : Nat} {w W W' : World} {ka : Option Addr} {t : NT}
theorem BI.al (h : BI g w b ka m t W) (o : Obj) : BI g w b ka m t (W.alloc o) :=
  ⟨h.ns.al o, ⟨h.bk.choose, h.bk.choose_spec.al o⟩, h.row.go ⟨by simp, fun k hk hl => ⟨hk, ((Below.refl _ W).alloc (Nat.le_refl _) o).block k hl⟩⟩ (fun _ _ h => NG.go ⟨by simp, fun k hk hl => ⟨hk, ((Below.refl _ W).alloc (Nat.le_refl _) o).block k hl⟩⟩ _ _ h), h.hb⟩
theorem BI.dr (h : BI g w b ka m t W) : BI g w b ka m t W.drew := by
  have hS : Stay (FB w b) (FB w b) W W.drew := ⟨Nat.le_refl _, fun k hk _ => ⟨hk, rfl⟩⟩
  exact ⟨h.ns.dr, ⟨h.bk.choose, h.bk.choose_spec.dr⟩, h.row.go hS (fun _ _ h => NG.go hS _ _ h), h.hb⟩
theorem BI.ap (h : BI g w b ka m t W) (ha : Apart g W W') (hc : CodesAt W' g) : BI g w b ka m t W' := by
  have hg := h.ns.gd.hg
  have hS : Stay (FB w b) (FB w b) W W' := ⟨ha.1.size, fun k hk hl => ⟨hk, ha.block (by have := hk.1; omega) hl⟩⟩
  exact ⟨h.ns.go ha hc, ⟨h.bk.choose, h.bk.choose_spec.go ha (by have := h.hb; omega)⟩, h.row.go hS (fun _ _ h => NG.go hS _ _ h), h.hb⟩
theorem BI.set (h : BI g w b ka m t W) (y : Int) : BI g w b ka m t (W.setCell ⟨b, 5, none⟩ (.int .i64 y)) := by
  have hS : Stay (FB w b) (FB w b) W (W.setCell ⟨b, 5, none⟩ (.int .i64 y)) := ⟨by simp, fun k hk _ => ⟨hk, Below.heap_setCell _ _ _ k (by have := hk.2; simpa using this)⟩⟩
  obtain ⟨x, hx⟩ := h.bk
  exact ⟨h.ns.set h.hb _ _, ⟨y, (hx.set 5 (by omega) (.int .i64 y)).cong fun i hi => by
    match i, hi with
    | 0, _ => rfl
    | 1, _ => rfl
    | 2, _ => rfl
    | 3, _ => rfl
    | 4, _ => rfl
    | 5, _ => rfl⟩, h.row.go hS (fun _ _ h => NG.go hS _ _ h), h.hb⟩
end
theorem BRr.refl (w : World) (b : Nat) (W : World) : BRr w b W W := ⟨Nat.le_refl _, fun _ _ _ _ => rfl⟩
theorem BRr.al (w : World) (b : Nat) (W : World) (o : Obj) : BRr w b W (W.alloc o) := ⟨by simp, fun k _ _ h => ((Below.refl _ W).alloc (Nat.le_refl _) o).block k h⟩
theorem BRr.ap {g : Nat} {w W W' : World} (b : Nat) (ha : Apart g W W') (hg : g < w.heap.size) : BRr w b W W' := ⟨ha.1.size, fun k h1 _ h2 => ha.block (by omega) h2⟩
theorem BRr.set (w : World) (b : Nat) (W : World) (v : Value) : BRr w b W (W.setCell ⟨b, 5, none⟩ v) := ⟨by simp, fun k _ h _ => Below.heap_setCell _ _ _ k (by simpa using h)⟩
theorem conv2 (W : World) (q : Nat) (x y : UInt8) (h : W.heap[q]? = some (.cells #[.int .u8 (x.toNat : Int), .int .u8 (y.toNat : Int)] 5)) : (convert 26 9 (.slice (some ⟨q, 0, none⟩) 2 2)).run Tryz.prog W = .ok (.string ⟨#[x, y]⟩) W :=
  run_convert_bytes_back (P := Tryz.prog) W 26 9 5 ⟨q, 0, none⟩ 2 [x, y] Tryz.underlying26 Tryz.underlying5 Tryz.underlying9 (fun j hj => by
    rw [addp, Nat.zero_add, Lib.cell_of_heap h]
    match j, hj with
    | 0, _ => rfl
    | 1, _ => rfl)

end Go.Proofs.YtphbkompnddflaaGreatDoor

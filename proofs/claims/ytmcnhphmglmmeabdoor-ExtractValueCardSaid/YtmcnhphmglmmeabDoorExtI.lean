/-
  The list of choices hands out an event or a skip: what is kept while it is made.
-/
import Derived.Test.YtmcnhphmglmmeabDoorExtH
namespace Go.Proofs.YtmcnhphmglmmeabDoor
open Go.RowKit

def Upd (E : Nat → Value) (k : Nat) (v : Value) : Nat → Value := fun i => if i = k then v else E i
/-- The event at the block w.heap.size + 1, the item at the block w.heap.size. -/
structure IV (w : World) (g : Nat) (E : Nat → Value) (W : World) : Prop where
  ev : ∀ i, i < 10 → W.cell? ⟨w.heap.size + 1, i, none⟩ = some (E i)
  fz : ∀ i, i < 10 → W.frozen? ⟨w.heap.size + 1, i, none⟩ = false
  it : ∀ i, i < 11 → ∃ u, W.cell? ⟨w.heap.size, i, none⟩ = some u
  itf : ∀ i, i < 11 → W.frozen? ⟨w.heap.size, i, none⟩ = false
  apart : Apart g w W
  codes : CodesAt W g
  big : w.heap.size + 2 ≤ W.heap.size
theorem IV.go {w W W' : World} {g : Nat} {E : Nat → Value} (h : IV w g E W) (hg : g < w.heap.size) (ha : Apart g W W') (hc : CodesAt W' g) : IV w g E W' := by
  have hb := h.big
  have e : ∀ k, w.heap.size ≤ k → k < w.heap.size + 2 → W'.heap[k]? = W.heap[k]? := fun k h1 h2 => ha.block (by omega) (by omega)
  exact ⟨fun i hi => (World.cell?_of_block (w := W) (w' := W') (a := ⟨w.heap.size + 1, i, none⟩) (e _ (by simp) (by simp))).trans (h.ev i hi),
    fun i hi => (World.frozen?_of_block (w := W) (w' := W') (a := ⟨w.heap.size + 1, i, none⟩) (e _ (by simp) (by simp))).trans (h.fz i hi),
    fun i hi => by
      obtain ⟨u, hu⟩ := h.it i hi
      exact ⟨u, (World.cell?_of_block (w := W) (w' := W') (a := ⟨w.heap.size, i, none⟩) (e _ (by simp) (by simp))).trans hu⟩,
    fun i hi => (World.frozen?_of_block (w := W) (w' := W') (a := ⟨w.heap.size, i, none⟩) (e _ (by simp) (by simp))).trans (h.itf i hi),
    h.apart.trans ha, hc, Nat.le_trans hb ha.1.size⟩
/-- Whatever is done to blocks that are newer. -/
theorem IV.on {w W W' : World} {g : Nat} {E : Nat → Value} (h : IV w g E W) (hg : g < w.heap.size) (hb : Below (w.heap.size + 2) W W') : IV w g E W' :=
  ⟨fun i hi => (hb.cell (p := ⟨w.heap.size + 1, i, none⟩) (by simp)).trans (h.ev i hi), fun i hi => (hb.frozen (p := ⟨w.heap.size + 1, i, none⟩) (by simp)).trans (h.fz i hi),
    fun i hi => by
      obtain ⟨u, hu⟩ := h.it i hi
      exact ⟨u, (hb.cell (p := ⟨w.heap.size, i, none⟩) (by simp)).trans hu⟩,
    fun i hi => (hb.frozen (p := ⟨w.heap.size, i, none⟩) (by simp)).trans (h.itf i hi),
    ⟨h.apart.1.trans (hb.mono (by omega)), fun k h1 h2 => (hb.block k (by omega)).trans (h.apart.2 k h1 h2)⟩, h.codes.of_below (by omega) hb, Nat.le_trans h.big hb.size⟩
theorem IV.set {w W : World} {g : Nat} {E : Nat → Value} (h : IV w g E W) (hg : g < w.heap.size) (k : Nat) (hk : k < 10) (v : Value) : IV w g (Upd E k v) (W.setCell ⟨w.heap.size + 1, k, none⟩ v) := by
  have hb : Below (w.heap.size + 1) W (W.setCell ⟨w.heap.size + 1, k, none⟩ v) := (Below.refl _ W).setCell (p := ⟨w.heap.size + 1, k, none⟩) (Nat.le_refl _) v
  refine ⟨fun i hi => ?_, fun i hi => by rw [World.frozen?_setCell]; exact h.fz i hi, fun i hi => ?_, fun i hi => by rw [World.frozen?_setCell]; exact h.itf i hi, ?_, h.codes.of_below (by omega) hb, Nat.le_trans h.big hb.size⟩
  · unfold Upd
    by_cases e : i = k
    · subst e
      rw [if_pos rfl]
      exact World.cell?_setCell_same _ _ _ (h.ev i hi)
    · rw [if_neg e, World.cell?_setCell_other _ _ _ _ (by intro hh; simp only [Addr.mk.injEq] at hh; omega)]
      exact h.ev i hi
  · obtain ⟨u, hu⟩ := h.it i hi
    exact ⟨u, (hb.cell (p := ⟨w.heap.size, i, none⟩) (by simp)).trans hu⟩
  · exact ⟨h.apart.1.trans (hb.mono (by omega)), fun j h1 h2 => (hb.block j (by omega)).trans (h.apart.2 j h1 h2)⟩
theorem IV.row {w W : World} {g : Nat} {E : Nat → Value} (_ : IV w g E W) {k n s : Nat} {e : TypeId} {v u : Value} {xs : List Value} (ho : W.ownsRow (w.heap.size + 2) e s v n xs) : (W.setCell ⟨w.heap.size + 1, k, none⟩ u).ownsRow (w.heap.size + 2) e s v n xs :=
  own_keep ho fun j h1 _ => Below.heap_setCell _ _ _ j (by simp; omega)

def evS : Array Value := #[.int .i64 1, .int .i64 5, .int .i64 0, .int .i64 0, .slice none 0 0, .int .i64 0, .int .i64 0, .string ⟨#[]⟩, .string ⟨#[]⟩, .slice none 0 0]
def evZ : Nat → Value := fun i => evS[i]!
theorem infoL : (Tryd.prog.info? 45).map (fun i => (i.zero, i.size, i.bytes)) = some (some (.agg #[.int .i64 0, .int .i64 0, .string ⟨#[]⟩]), 3, 32) := by kernel_rfl

def itZ : Obj := .cells #[.string ⟨#[]⟩, .int .i64 0, .int .i64 0, .int .i64 0, .int .i64 0, .slice none 0 0, .int .i64 0, .int .i64 0, .string ⟨#[]⟩, .string ⟨#[]⟩, .slice none 0 0] 31
theorem IV.start {w : World} {g : Nat} (hc : CodesAt w g) : IV w g evZ ((w.alloc itZ).alloc (.cells evS 29)) := by
  have hb : Below w.heap.size w ((w.alloc itZ).alloc (.cells evS 29)) := ((Below.refl _ w).alloc (Nat.le_refl _) _).alloc (by simp) _
  refine ⟨fun i hi => ?_, fun i hi => ?_, fun i hi => ?_, fun i hi => ?_, Apart.of_below hb hc.1, hc.below hb, by simp⟩
  · have e : (w.alloc itZ).heap.size = w.heap.size + 1 := by simp
    rw [← e]
    match i, hi with
    | 0, _ => simp [go_sem, evS, evZ]
    | 1, _ => simp [go_sem, evS, evZ]
    | 2, _ => simp [go_sem, evS, evZ]
    | 3, _ => simp [go_sem, evS, evZ]
    | 4, _ => simp [go_sem, evS, evZ]
    | 5, _ => simp [go_sem, evS, evZ]
    | 6, _ => simp [go_sem, evS, evZ]
    | 7, _ => simp [go_sem, evS, evZ]
    | 8, _ => simp [go_sem, evS, evZ]
    | 9, _ => simp [go_sem, evS, evZ]
  · have e : (w.alloc itZ).heap.size = w.heap.size + 1 := by simp
    rw [← e]
    simp [go_sem]
  · have hb2 : Below (w.heap.size + 1) (w.alloc itZ) ((w.alloc itZ).alloc (.cells evS 29)) := (Below.refl _ _).alloc (by simp) _
    match i, hi with
    | 0, _ => exact ⟨_, (hb2.cell (p := ⟨w.heap.size, 0, none⟩) (by simp)).trans (by simp [go_sem, itZ]; rfl)⟩
    | 1, _ => exact ⟨_, (hb2.cell (p := ⟨w.heap.size, 1, none⟩) (by simp)).trans (by simp [go_sem, itZ]; rfl)⟩
    | 2, _ => exact ⟨_, (hb2.cell (p := ⟨w.heap.size, 2, none⟩) (by simp)).trans (by simp [go_sem, itZ]; rfl)⟩
    | 3, _ => exact ⟨_, (hb2.cell (p := ⟨w.heap.size, 3, none⟩) (by simp)).trans (by simp [go_sem, itZ]; rfl)⟩
    | 4, _ => exact ⟨_, (hb2.cell (p := ⟨w.heap.size, 4, none⟩) (by simp)).trans (by simp [go_sem, itZ]; rfl)⟩
    | 5, _ => exact ⟨_, (hb2.cell (p := ⟨w.heap.size, 5, none⟩) (by simp)).trans (by simp [go_sem, itZ]; rfl)⟩
    | 6, _ => exact ⟨_, (hb2.cell (p := ⟨w.heap.size, 6, none⟩) (by simp)).trans (by simp [go_sem, itZ]; rfl)⟩
    | 7, _ => exact ⟨_, (hb2.cell (p := ⟨w.heap.size, 7, none⟩) (by simp)).trans (by simp [go_sem, itZ]; rfl)⟩
    | 8, _ => exact ⟨_, (hb2.cell (p := ⟨w.heap.size, 8, none⟩) (by simp)).trans (by simp [go_sem, itZ]; rfl)⟩
    | 9, _ => exact ⟨_, (hb2.cell (p := ⟨w.heap.size, 9, none⟩) (by simp)).trans (by simp [go_sem, itZ]; rfl)⟩
    | 10, _ => exact ⟨_, (hb2.cell (p := ⟨w.heap.size, 10, none⟩) (by simp)).trans (by simp [go_sem, itZ]; rfl)⟩
  · have hb2 : Below (w.heap.size + 1) (w.alloc itZ) ((w.alloc itZ).alloc (.cells evS 29)) := (Below.refl _ _).alloc (by simp) _
    rw [hb2.frozen (p := ⟨w.heap.size, i, none⟩) (by simp)]
    simp [go_sem, itZ]
theorem upd_self (E : Nat → Value) (k : Nat) : Upd E k (E k) = E := by
  funext i
  unfold Upd
  split
  · rename_i h; rw [h]
  · rfl
theorem upd_twice (E : Nat → Value) (k : Nat) (u v : Value) : Upd (Upd E k u) k v = Upd E k v := by
  funext i
  unfold Upd
  split <;> rfl
/-- The lines so far. -/
structure LN (w : World) (g : Nat) (ls : Value) (n : Nat) (W : World) : Prop where
  iv : IV w g (Upd evZ 4 ls) W
  row : ∃ xs, W.ownsRow (w.heap.size + 2) 45 3 ls n xs
theorem LN.go {w W W' : World} {g n : Nat} {ls : Value} (h : LN w g ls n W) (hg : g < w.heap.size) (ha : Apart g W W') (hc : CodesAt W' g) : LN w g ls n W' := by
  refine ⟨h.iv.go hg ha hc, ?_⟩
  obtain ⟨xs, ho⟩ := h.row
  exact ⟨xs, own_keep ho fun k h1 hk => ha.block (by omega) hk⟩

/-- The lines' cells may be written. -/
def LR (w : World) (a : Option Addr) (n : Nat) (W : World) : Prop := ∀ i, i < n → ∃ blk, a = some ⟨blk, 0, none⟩ ∧ w.heap.size + 2 ≤ blk ∧ (∃ u, W.cell? ⟨blk, i * 3 + 2, none⟩ = some u) ∧ W.frozen? ⟨blk, i * 3 + 2, none⟩ = false
theorem LN.shape {w W : World} {g n : Nat} {ls : Value} (h : LN w g ls n W) : ∃ a c, ls = .slice a n c ∧ LR w a n W := by
  obtain ⟨xs, _, ⟨rfl, rfl⟩ | ⟨b, cap, cur, rfl, hB, hg, hn, _, hsz, _⟩⟩ := h.row
  · exact ⟨none, 0, rfl, fun i hi => by omega⟩
  · refine ⟨_, cap, rfl, fun i hi => ⟨b, rfl, hB, ?_, ?_⟩⟩
    · have hlt : i * 3 + 2 < cur.size := by omega
      exact ⟨cur[i * 3 + 2], by simp [World.cell?, hg, hlt]⟩
    · simp [World.frozen?, hg]
theorem LR.keep {w W W' : World} {a : Option Addr} {n : Nat} (h : LR w a n W) (hb : ∀ k, w.heap.size + 2 ≤ k → k < W.heap.size → W'.heap[k]? = W.heap[k]?) : LR w a n W' := fun i hi => by
  obtain ⟨blk, e, h1, ⟨u, hu⟩, h2⟩ := h i hi
  have hl := World.block_lt_of_cell? W _ hu
  exact ⟨blk, e, h1, ⟨u, (World.cell?_of_block (w := W) (w' := W') (a := ⟨blk, i * 3 + 2, none⟩) (hb blk h1 hl)).trans hu⟩, (World.frozen?_of_block (w := W) (w' := W') (a := ⟨blk, i * 3 + 2, none⟩) (hb blk h1 hl)).trans h2⟩
theorem LR.set {w W : World} {a : Option Addr} {n : Nat} (h : LR w a n W) (p : Addr) (v : Value) : LR w a n (W.setCell p v) := fun i hi => by
  obtain ⟨blk, e, h1, ⟨u, hu⟩, h2⟩ := h i hi
  refine ⟨blk, e, h1, ?_, by rw [World.frozen?_setCell]; exact h2⟩
  by_cases c : p = ⟨blk, i * 3 + 2, none⟩
  · subst c
    exact ⟨v, World.cell?_setCell_same _ _ _ hu⟩
  · exact ⟨u, by rw [World.cell?_setCell_other _ _ _ _ c]; exact hu⟩
/-- The event as it is loaded. -/
def evA (E : Nat → Value) : Value := .agg #[E 0, E 1, E 2, E 3, E 4, E 5, E 6, E 7, E 8, E 9]
def ruleF : List (List UInt8) := [[115, 97, 109, 112, 108, 101], [100, 114, 111, 112], [116, 111, 111, 45, 108, 111, 110, 103]]

end Go.Proofs.YtmcnhphmglmmeabDoor

/-
  What the generator makes: trees, rows and queries whose blocks lie where nothing is written any more.
-/
import Derived.Test.YtmcnhphmglmmeaaQryK
import Derived.Test.YtmcnhphmglmmeaaOwnK
import Derived.Test.YtmcnhphmglmmeaaDraw
import Derived.Laws.Rows
namespace Go.Proofs.Ytmcnhphmglmmeaa
open Go.RowKit

/-- The value v is the test t, all its blocks being among F. -/
def TG (F : Nat → Prop) (w : World) : QT → Value → Prop
  | .node op nm tx num kids, v => ∃ a c, v = .agg #[.int .i64 op, .string ⟨nm.toArray⟩, .string ⟨tx.toArray⟩, .int .i64 num, .slice a kids.length c] ∧ (kids.length ≤ 1000000 ∧ (a = none → c = 0)) ∧
    (0 < kids.length → ∃ blk off, a = some ⟨blk, off, none⟩ ∧ blk < w.heap.size ∧ F blk ∧ ∀ i (h : i < kids.length), ∃ u0 u1 u2 u3 u4,
      w.cell? ⟨blk, off + i * 5, none⟩ = some u0 ∧ w.cell? ⟨blk, off + i * 5 + 1, none⟩ = some u1 ∧ w.cell? ⟨blk, off + i * 5 + 2, none⟩ = some u2 ∧ w.cell? ⟨blk, off + i * 5 + 3, none⟩ = some u3 ∧ w.cell? ⟨blk, off + i * 5 + 4, none⟩ = some u4 ∧
      TG F w kids[i] (.agg #[u0, u1, u2, u3, u4]))
termination_by t => SizeOf.sizeOf t
decreasing_by
  have := List.sizeOf_lt_of_mem (List.getElem_mem h)
  simp
  omega
/-- From one world to the next. -/
def Stay (F F' : Nat → Prop) (w w' : World) : Prop := w.heap.size ≤ w'.heap.size ∧ ∀ k, F k → k < w.heap.size → F' k ∧ w'.heap[k]? = w.heap[k]?
theorem Stay.cell {F F' : Nat → Prop} {w w' : World} (h : Stay F F' w w') {p : Addr} (hp : F p.block) (hl : p.block < w.heap.size) : w'.cell? p = w.cell? p := World.cell?_of_block (w := w) (w' := w') (h.2 _ hp hl).2
theorem TG.go {F F' : Nat → Prop} {w w' : World} (hs : Stay F F' w w') : ∀ (t : QT) (v : Value), TG F w t v → TG F' w' t v
  | .node op nm tx num kids, v, h => by
    rw [TG] at h ⊢
    obtain ⟨a, c, e, hm, hk⟩ := h
    refine ⟨a, c, e, hm, fun h0 => ?_⟩
    obtain ⟨blk, off, e1, hl, hF, hc⟩ := hk h0
    refine ⟨blk, off, e1, Nat.lt_of_lt_of_le hl hs.1, (hs.2 _ hF hl).1, fun i hi => ?_⟩
    obtain ⟨u0, u1, u2, u3, u4, c0, c1, c2, c3, c4, ht⟩ := hc i hi
    exact ⟨u0, u1, u2, u3, u4, (hs.cell (p := ⟨blk, off + i * 5, none⟩) hF hl).trans c0, (hs.cell (p := ⟨blk, off + i * 5 + 1, none⟩) hF hl).trans c1, (hs.cell (p := ⟨blk, off + i * 5 + 2, none⟩) hF hl).trans c2, (hs.cell (p := ⟨blk, off + i * 5 + 3, none⟩) hF hl).trans c3, (hs.cell (p := ⟨blk, off + i * 5 + 4, none⟩) hF hl).trans c4, TG.go hs kids[i] _ ht⟩
termination_by t => SizeOf.sizeOf t
decreasing_by
  have := List.sizeOf_lt_of_mem (List.getElem_mem hi)
  simp
  omega
theorem TG.at {F : Nat → Prop} {w : World} : ∀ (t : QT) (v : Value), TG F w t v → TAt w t v
  | .node op nm tx num kids, v, h => by
    rw [TG] at h
    rw [TAt]
    obtain ⟨a, c, e, hm, hk⟩ := h
    refine ⟨a, c, e, Nat.le_trans hm.1 (by decide), fun h0 => ?_⟩
    obtain ⟨blk, off, e1, hl, hF, hc⟩ := hk h0
    refine ⟨blk, off, e1, hl, fun i hi => ?_⟩
    obtain ⟨u0, u1, u2, u3, u4, c0, c1, c2, c3, c4, ht⟩ := hc i hi
    exact ⟨u0, u1, u2, u3, u4, c0, c1, c2, c3, c4, TG.at kids[i] _ ht⟩
termination_by t => SizeOf.sizeOf t
decreasing_by
  have := List.sizeOf_lt_of_mem (List.getElem_mem hi)
  simp
  omega

/-- A row of elements of k cells. -/
def RW {α : Type} (F : Nat → Prop) (k : Nat) (R : α → List Value → Prop) (w : World) (xs : List α) (v : Value) : Prop :=
  ∃ a c, v = .slice a xs.length c ∧ (xs.length ≤ 1000000 ∧ (a = none → c = 0)) ∧ (0 < xs.length → ∃ blk off, a = some ⟨blk, off, none⟩ ∧ blk < w.heap.size ∧ F blk ∧ ∀ i (h : i < xs.length), ∃ us : List Value,
    us.length = k ∧ (∀ j, j < k → w.cell? ⟨blk, off + i * k + j, none⟩ = us[j]?) ∧ R xs[i] us)
theorem RW.go {α : Type} {F F' : Nat → Prop} {k : Nat} {R R' : α → List Value → Prop} {w w' : World} (hs : Stay F F' w w') (hR : ∀ x us, R x us → R' x us) {xs : List α} {v : Value} (h : RW F k R w xs v) : RW F' k R' w' xs v := by
  obtain ⟨a, c, e, hm, hk⟩ := h
  refine ⟨a, c, e, hm, fun h0 => ?_⟩
  obtain ⟨blk, off, e1, hl, hF, hc⟩ := hk h0
  refine ⟨blk, off, e1, Nat.lt_of_lt_of_le hl hs.1, (hs.2 _ hF hl).1, fun i hi => ?_⟩
  obtain ⟨us, hu, hcell, hr⟩ := hc i hi
  exact ⟨us, hu, fun j hj => (hs.cell (p := ⟨blk, off + i * k + j, none⟩) hF hl).trans (hcell j hj), hR _ _ hr⟩
theorem RW.nil {α : Type} {F : Nat → Prop} {k : Nat} {R : α → List Value → Prop} {w : World} : RW F k R w [] (.slice none 0 0) := ⟨none, 0, rfl, ⟨by simp, fun _ => rfl⟩, fun h => by simp at h⟩

/-- What lies in the elements. -/
def TR (F : Nat → Prop) (w : World) (t : QT) (us : List Value) : Prop := TG F w t (.agg us.toArray)
def SR (F : Nat → Prop) (w : World) (s : QS) (us : List Value) : Prop := ∃ tl, us = .bool s.ex :: .string ⟨s.src.toArray⟩ :: tl ∧ TG F w s.t (.agg tl.toArray)
def NR (s : List UInt8) (us : List Value) : Prop := us = [.string ⟨s.toArray⟩]
def GR (s : Int × List UInt8) (us : List Value) : Prop := us = [.int .i64 s.1, .string ⟨s.2.toArray⟩]
theorem TR.go {F F' : Nat → Prop} {w w' : World} (hs : Stay F F' w w') (t : QT) (us : List Value) (h : TR F w t us) : TR F' w' t us := TG.go hs _ _ h
theorem SR.go {F F' : Nat → Prop} {w w' : World} (hs : Stay F F' w w') (s : QS) (us : List Value) (h : SR F w s us) : SR F' w' s us := by
  obtain ⟨tl, e, h⟩ := h
  exact ⟨tl, e, TG.go hs _ _ h⟩
theorem TG.node {F : Nat → Prop} {w : World} {kids : List QT} {a : Option Addr} {n c : Nat} (h : RW F 5 (TR F w) w kids (.slice a n c)) (op : Int) (nm tx : List UInt8) (num : Int) :
    TG F w (.node op nm tx num kids) (.agg #[.int .i64 op, .string ⟨nm.toArray⟩, .string ⟨tx.toArray⟩, .int .i64 num, .slice a n c]) := by
  obtain ⟨a', c', e, hm, hk⟩ := h
  injection e with e1 e2 e3
  subst e1 e2 e3
  rw [TG]
  refine ⟨a, c, rfl, hm, fun h0 => ?_⟩
  obtain ⟨blk, off, e1, hl, hF, hc⟩ := hk h0
  refine ⟨blk, off, e1, hl, hF, fun i hi => ?_⟩
  obtain ⟨us, hu, hcell, hr⟩ := hc i hi
  match us, hu with
  | [u0, u1, u2, u3, u4], _ => exact ⟨u0, u1, u2, u3, u4, hcell 0 (by decide), hcell 1 (by decide), hcell 2 (by decide), hcell 3 (by decide), hcell 4 (by decide), hr⟩
theorem TG.leaf (F : Nat → Prop) (w : World) (op : Int) (nm tx : List UInt8) (num : Int) : TG F w (.node op nm tx num []) (.agg #[.int .i64 op, .string ⟨nm.toArray⟩, .string ⟨tx.toArray⟩, .int .i64 num, .slice none 0 0]) :=
  TG.node RW.nil op nm tx num
theorem TG.open {F : Nat → Prop} {w : World} {t : QT} {v : Value} (h : TG F w t v) : ∃ op nm tx num kids a c, v = .agg #[.int .i64 op, .string ⟨(nm : List UInt8).toArray⟩, .string ⟨(tx : List UInt8).toArray⟩, .int .i64 num, .slice a kids.length c] ∧ RW F 5 (TR F w) w kids (.slice a kids.length c) := by
  obtain ⟨op, nm, tx, num, kids⟩ := t
  rw [TG] at h
  obtain ⟨a, c, e, hm, hk⟩ := h
  refine ⟨op, nm, tx, num, kids, a, c, e, a, c, rfl, hm, fun h0 => ?_⟩
  obtain ⟨blk, off, e1, hl, hF, hc⟩ := hk h0
  refine ⟨blk, off, e1, hl, hF, fun i hi => ?_⟩
  obtain ⟨u0, u1, u2, u3, u4, c0, c1, c2, c3, c4, ht⟩ := hc i hi
  refine ⟨[u0, u1, u2, u3, u4], rfl, fun j hj => ?_, ht⟩
  match j, hj with
  | 0, _ => exact c0
  | 1, _ => exact c1
  | 2, _ => exact c2
  | 3, _ => exact c3
  | 4, _ => exact c4

/-- A row of the call's own, element by element. -/
structure OR {α : Type} (B : Nat) (e : TypeId) (k : Nat) (R : α → List Value → Prop) (W : World) (xs : List α) (v : Value) : Prop where
  row : ∃ uss : List (List Value), uss.length = xs.length ∧ (∀ i (h : i < xs.length) (h' : i < uss.length), uss[i].length = k ∧ R xs[i] uss[i]) ∧ W.ownsRow B e k v xs.length uss.flatten
  size : xs.length ≤ 1000000
theorem flat_at (k : Nat) : ∀ (uss : List (List Value)), (∀ u ∈ uss, u.length = k) → ∀ i j (h : i < uss.length), j < k → uss.flatten[i * k + j]? = uss[i][j]?
  | [], _, i, j, h, _ => by simp at h
  | u :: us, hu, i, j, h, hj => by
    have h0 : u.length = k := hu u (by simp)
    cases i with
    | zero =>
      rw [List.flatten_cons, List.getElem?_append_left (by omega)]
      simp
    | succ i =>
      rw [List.flatten_cons, List.getElem?_append_right (by rw [h0, Nat.succ_mul]; omega), h0, show (i + 1) * k + j - k = i * k + j by rw [Nat.succ_mul]; omega]
      exact flat_at k us (fun x hx => hu x (List.mem_cons_of_mem _ hx)) i j (by simpa using h) hj
theorem OR.rw {α : Type} {B : Nat} {e : TypeId} {k : Nat} {R : α → List Value → Prop} {W : World} {xs : List α} {v : Value} (h : OR B e k R W xs v) {F : Nat → Prop} (hF : ∀ b, B ≤ b → F b) : RW F k R W xs v := by
  obtain ⟨⟨uss, hlen, hel, _, h0 | ⟨g, cap, cur, rfl, hB, hg, hrest⟩⟩, hsz⟩ := h
  · obtain ⟨h1, h2⟩ := h0
    subst h1
    exact ⟨none, 0, by rw [h2], ⟨hsz, fun _ => rfl⟩, fun h => by omega⟩
  · have hs : g < W.heap.size := by
      rcases Nat.lt_or_ge g W.heap.size with c | c
      · exact c
      · rw [Array.getElem?_eq_none c] at hg; cases hg
    obtain ⟨_, _, hcs, htk⟩ := hrest
    have hall : ∀ u ∈ uss, u.length = k := fun u hu => by
      obtain ⟨i, hi, rfl⟩ := List.getElem_of_mem hu
      exact (hel i (by omega) hi).1
    refine ⟨_, cap, rfl, ⟨hsz, fun e => by cases e⟩, fun _ => ⟨g, 0, rfl, hs, hF g hB, fun i hi => ⟨uss[i]'(by omega), (hel i hi (by omega)).1, fun j hj => ?_, (hel i hi (by omega)).2⟩⟩⟩
    rw [Lib.cell_of_heap hg, ← flat_at k uss hall i j (by omega) hj, ← htk, List.getElem?_take_of_lt, Nat.zero_add]
    · simp
    · have : (i + 1) * k ≤ xs.length * k := Nat.mul_le_mul_right _ hi
      rw [Nat.succ_mul] at this
      omega
theorem OR.nil {α : Type} {B : Nat} {e : TypeId} {k : Nat} {R : α → List Value → Prop} {W : World} : OR B e k R W [] (.slice none 0 0) :=
  ⟨⟨[], rfl, fun i h => by simp at h, by simp, .inl ⟨rfl, rfl⟩⟩, by simp⟩
theorem OR.keep {α : Type} {B : Nat} {e : TypeId} {k : Nat} {R R' : α → List Value → Prop} {W W' : World} {xs : List α} {v : Value} (h : OR B e k R W xs v) (hb : ∀ j, B ≤ j → j < W.heap.size → W'.heap[j]? = W.heap[j]?) (hR : ∀ x us, R x us → R' x us) : OR B e k R' W' xs v := by
  obtain ⟨⟨uss, hlen, hel, ho⟩, hsz⟩ := h
  exact ⟨⟨uss, hlen, fun i h h' => ⟨(hel i h h').1, hR _ _ (hel i h h').2⟩, own_keep ho hb⟩, hsz⟩
/-- The cells of a row. -/
theorem OR.cells {α : Type} {B : Nat} {e : TypeId} {k : Nat} {R : α → List Value → Prop} {W : World} {xs : List α} {v : Value} (h : OR B e k R W xs v) : ∃ cs : List Value, W.ownsRow B e k v xs.length cs ∧
    ∀ (R' : α → List Value → Prop) (W' : World) (x : α) (us : List Value) (v' : Value), (∀ x us, R x us → R' x us) → us.length = k → R' x us → xs.length + 1 ≤ 1000000 → W'.ownsRow B e k v' (xs.length + 1) (cs ++ us) → OR B e k R' W' (xs ++ [x]) v' := by
  obtain ⟨⟨uss, hlen, hel, ho⟩, hsz⟩ := h
  refine ⟨uss.flatten, ho, fun R' W' x us v' hR hu hx hs hW => ⟨⟨uss ++ [us], by simp [hlen], fun i h h' => ?_, by rw [List.length_append, List.flatten_append]; simpa using hW⟩, by simpa using hs⟩⟩
  by_cases hi : i < xs.length
  · rw [List.getElem_append_left hi, List.getElem_append_left (by omega)]
    exact ⟨(hel i hi (by omega)).1, hR _ _ (hel i hi (by omega)).2⟩
  · obtain rfl : i = xs.length := by simp at h; omega
    rw [List.getElem_append_right (by omega), List.getElem_append_right (by omega)]
    simp [hlen, hu, hx]

/-- The list of choices goes on, the old memory stays. -/
structure GD (g : Nat) (w W : World) : Prop where
  ap : Apart g w W
  codes : CodesAt W g
  hg : g < w.heap.size
theorem GD.start {g : Nat} {w : World} (h : CodesAt w g) : GD g w w := ⟨Apart.refl _ _, h, h.1⟩
theorem GD.go {g : Nat} {w W W' : World} (h : GD g w W) (ha : Apart g W W') (hc : CodesAt W' g) : GD g w W' := ⟨h.ap.trans ha, hc, h.hg⟩
theorem GD.on {g : Nat} {w W W' : World} (h : GD g w W) (hb : Below w.heap.size W W') : GD g w W' :=
  ⟨⟨h.ap.1.trans (hb.mono (Nat.le_of_lt h.hg)), fun k h1 h2 => (hb.block k h2).trans (h.ap.2 k h1 h2)⟩, h.codes.of_below h.hg hb, h.hg⟩
theorem GD.al {g : Nat} {w W : World} (h : GD g w W) (o : Obj) : GD g w (W.alloc o) := h.on ((Below.refl _ W).alloc h.ap.1.size o)
theorem GD.dr {g : Nat} {w W : World} (h : GD g w W) : GD g w W.drew := h.on (Below.refl _ W).drew
theorem GD.set {g : Nat} {w W : World} (h : GD g w W) {b : Nat} (hb : w.heap.size ≤ b) (i : Nat) (v : Value) : GD g w (W.setCell ⟨b, i, none⟩ v) := h.on ((Below.refl _ W).setCell (p := ⟨b, i, none⟩) hb v)
theorem GD.le {g : Nat} {w W : World} (h : GD g w W) : w.heap.size ≤ W.heap.size := h.ap.1.size

def Upd (E : Nat → Value) (i : Nat) (v : Value) : Nat → Value := fun j => if j = i then v else E j
/-- A block of the call's own, cell by cell. -/
structure BK (b n : Nat) (E : Nat → Value) (W : World) : Prop where
  ev : ∀ i, i < n → W.cell? ⟨b, i, none⟩ = some (E i)
  fz : ∀ i, W.frozen? ⟨b, i, none⟩ = false
  lt : b < W.heap.size
theorem BK.keep {b n : Nat} {E : Nat → Value} {W W' : World} (h : BK b n E W) (hh : W'.heap[b]? = W.heap[b]?) (hs : W.heap.size ≤ W'.heap.size) : BK b n E W' :=
  ⟨fun i hi => (World.cell?_of_block (w := W) (w' := W') (a := ⟨b, i, none⟩) hh).trans (h.ev i hi), fun i => (World.frozen?_of_block (w := W) (w' := W') (a := ⟨b, i, none⟩) hh).trans (h.fz i), Nat.lt_of_lt_of_le h.lt hs⟩
theorem BK.go {b n g : Nat} {E : Nat → Value} {W W' : World} (h : BK b n E W) (ha : Apart g W W') (hn : b ≠ g) : BK b n E W' := h.keep (ha.block hn h.lt) ha.1.size
theorem BK.on {b n B : Nat} {E : Nat → Value} {W W' : World} (h : BK b n E W) (hb : Below B W W') (hn : b < B) : BK b n E W' := h.keep (hb.block b hn) hb.size
theorem BK.al {b n : Nat} {E : Nat → Value} {W : World} (h : BK b n E W) (o : Obj) : BK b n E (W.alloc o) := h.on ((Below.refl _ W).alloc (Nat.le_refl _) o) h.lt
theorem BK.dr {b n : Nat} {E : Nat → Value} {W : World} (h : BK b n E W) : BK b n E W.drew := h.on (Below.refl _ W).drew h.lt
theorem BK.other {b n b' : Nat} {E : Nat → Value} {W : World} (h : BK b n E W) (hn : b ≠ b') (i : Nat) (v : Value) : BK b n E (W.setCell ⟨b', i, none⟩ v) := h.keep (Below.heap_setCell _ _ _ b (by simpa using hn)) (by simp)
theorem BK.set {b n : Nat} {E : Nat → Value} {W : World} (h : BK b n E W) (i : Nat) (hi : i < n) (v : Value) : BK b n (Upd E i v) (W.setCell ⟨b, i, none⟩ v) := by
  refine ⟨fun j hj => ?_, fun j => by rw [World.frozen?_setCell]; exact h.fz j, by simpa using h.lt⟩
  unfold Upd
  by_cases e : j = i
  · subst e
    rw [if_pos rfl]
    exact World.cell?_setCell_same _ _ _ (h.ev j hj)
  · rw [if_neg e, World.cell?_setCell_other _ _ _ _ (by intro hh; simp only [Addr.mk.injEq] at hh; omega)]
    exact h.ev j hj
theorem BK.cong {b n : Nat} {E E' : Nat → Value} {W : World} (h : BK b n E W) (he : ∀ i, i < n → E i = E' i) : BK b n E' W := ⟨fun i hi => (h.ev i hi).trans (congrArg some (he i hi)), h.fz, h.lt⟩
theorem BK.new (W : World) (cs : Array Value) (t : TypeId) (E : Nat → Value) (n : Nat) (he : ∀ i, i < n → cs[i]? = some (E i)) : BK W.heap.size n E (W.alloc (.cells cs t)) :=
  ⟨fun i hi => by rw [← he i hi]; simp [go_sem], fun i => by simp [go_sem], by simp⟩

/-- Cells that are stored one behind the other. -/
def setL (W : World) (b : Nat) : List Value → Nat → World
  | [], _ => W
  | v :: vs, i => setL (W.setCell ⟨b, i, none⟩ v) b vs (i + 1)
theorem setL_below {B b : Nat} (hB : B ≤ b) (vs : List Value) : ∀ (W : World) (i : Nat), Below B W (setL W b vs i) := by
  induction vs with
  | nil => intro W i; exact Below.refl _ _
  | cons v vs ih => intro W i; exact ((Below.refl _ W).setCell (p := ⟨b, i, none⟩) hB v).trans (ih _ _)
theorem setL_heap {b k : Nat} (vs : List Value) (hk : k ≠ b) : ∀ (W : World) (i : Nat), (setL W b vs i).heap[k]? = W.heap[k]? := by
  induction vs with
  | nil => intro W i; rfl
  | cons v vs ih => intro W i; exact (ih _ _).trans (Below.heap_setCell _ _ _ k (fun e => hk e))
theorem setL_other {b : Nat} (vs : List Value) : ∀ (W : World) (i j : Nat), j < i → (setL W b vs i).cell? ⟨b, j, none⟩ = W.cell? ⟨b, j, none⟩ := by
  induction vs with
  | nil => intro W i j _; rfl
  | cons v vs ih =>
    intro W i j h
    rw [setL, ih _ _ _ (by omega), World.cell?_setCell_other _ _ _ _ (by intro e; simp only [Addr.mk.injEq] at e; omega)]
theorem setL_at {b : Nat} (vs : List Value) : ∀ (W : World) (i : Nat), (∀ j, i ≤ j → j < i + vs.length → ∃ u, W.cell? ⟨b, j, none⟩ = some u) → ∀ j v, vs[j]? = some v → (setL W b vs i).cell? ⟨b, i + j, none⟩ = some v := by
  induction vs with
  | nil => intro W i _ j v h; simp at h
  | cons x vs ih =>
    intro W i hx j v h
    rw [setL]
    cases j with
    | zero =>
      simp at h
      subst h
      show (setL (W.setCell ⟨b, i, none⟩ x) b vs (i + 1)).cell? ⟨b, i, none⟩ = some x
      rw [setL_other vs _ (i + 1) i (Nat.lt_succ_self i)]
      obtain ⟨u, hu⟩ := hx i (Nat.le_refl _) (by simp)
      exact World.cell?_setCell_same _ _ _ hu
    | succ j =>
      rw [show i + (j + 1) = i + 1 + j by omega]
      refine ih _ _ (fun k h1 h2 => ?_) j v (by simpa using h)
      obtain ⟨u, hu⟩ := hx k (by omega) (by simp; omega)
      exact ⟨u, by rw [World.cell?_setCell_other _ _ _ _ (by intro e; simp only [Addr.mk.injEq] at e; omega)]; exact hu⟩
theorem results_item {P : Program} {fn : Func} {p : Tmp} {ty : TypeId} (h : fn.results = #[.cell p ty]) (tmps : Array Value) (w : World) (g : Nat) (cs : List Value) (d : TypeDesc)
    (hp : tmps.getD p undef = .pointer (some ⟨g, 0, none⟩)) (hc : ∀ j v, cs[j]? = some v → w.cell? ⟨g, j, none⟩ = some v)
    (hu : P.underlying ty = some d) (hd : (match d with | .struct _ | .array _ _ => true | _ => false) = true) (hi : (P.info? ty).map (·.size) = some cs.length) :
    (results fn tmps).run P w = .ok (.agg cs.toArray) w := by
  have hl : (loadCells ⟨g, 0, none⟩ cs.length).run P w = .ok cs.toArray w :=
    run_loadCells_list (P := P) w ⟨g, 0, none⟩ cs (fun j v hv => by
      have hadd : (⟨g, 0, none⟩ : Addr).add j = ⟨g, j, none⟩ := by unfold Addr.add; split <;> simp_all
      rw [hadd]
      exact hc j v hv)
  have hv : (loadVar ty ⟨g, 0, none⟩).run P w = .ok (.agg cs.toArray) w := by
    cases hq : P.info? ty with
    | none => simp [hq] at hi
    | some i =>
      have hs : i.size = cs.length := by simpa [hq] using hi
      have hagg : (isAgg ty).run P w = .ok true w := by
        unfold isAgg
        rw [Sem.run_bind, run_underlying hu w]
        cases d <;> simp_all
      simp [loadVar, Sem.run_bind, hagg, sizeOf, typeInfo, hq, hs, hl]
  have hp' : tmps[p]?.getD undef = .pointer (some ⟨g, 0, none⟩) := by simpa using hp
  simp [results, h, hp', asAddr, hv]

/-- A query, cell by cell. -/
structure QE (F : Nat → Prop) (W : World) (E : Nat → Value) : Prop where
  t : ∃ t, TG F W t (.agg #[E 0, E 1, E 2, E 3, E 4])
  ss : ∃ ss, RW F 7 (SR F W) W ss (E 5)
  kd : ∃ n, E 6 = .int .i64 n
  lm : ∃ n, E 7 = .int .i64 n
  ls : ∃ b, E 8 = .bool b
  ns : ∃ ns, RW F 1 NR W ns (E 9)
  gs : ∃ gs, RW F 2 GR W gs (E 10)
  sk : ∃ n, E 11 = .int .i64 n
  o : ∃ t, TG F W t (.agg #[E 12, E 13, E 14, E 15, E 16])
  ky : ∃ s : List UInt8, E 17 = .string ⟨s.toArray⟩
  wi : ∃ n, E 18 = .int .i64 n
theorem QE.go {F F' : Nat → Prop} {w w' : World} {E : Nat → Value} (hs : Stay F F' w w') (h : QE F w E) : QE F' w' E := by
  obtain ⟨⟨t, ht⟩, ⟨ss, hss⟩, kd, lm, ls, ⟨ns, hns⟩, ⟨gs, hgs⟩, sk, ⟨o, ho⟩, ky, wi⟩ := h
  exact ⟨⟨t, TG.go hs _ _ ht⟩, ⟨ss, hss.go hs (fun _ _ => SR.go hs _ _)⟩, kd, lm, ls, ⟨ns, hns.go hs (fun _ _ h => h)⟩, ⟨gs, hgs.go hs (fun _ _ h => h)⟩, sk, ⟨o, TG.go hs _ _ ho⟩, ky, wi⟩
def QV (E : Nat → Value) : Value := .agg #[E 0, E 1, E 2, E 3, E 4, E 5, E 6, E 7, E 8, E 9, E 10, E 11, E 12, E 13, E 14, E 15, E 16, E 17, E 18]
theorem QE.at {F : Nat → Prop} {w : World} {E : Nat → Value} (h : QE F w E) : ∃ q, QAt w q (QV E) := by
  obtain ⟨⟨t, ht⟩, ⟨ss, hss⟩, ⟨kd, ekd⟩, ⟨lm, elm⟩, ⟨ls, els⟩, ⟨ns, hns⟩, ⟨gs, hgs⟩, ⟨sk, esk⟩, ⟨o, ho⟩, ⟨ky, eky⟩, ⟨wi, ewi⟩⟩ := h
  have htA := TG.at _ _ ht
  have hoA := TG.at _ _ ho
  obtain ⟨op, nm, tx, num, kids, a, c, et, _⟩ := ht.open
  obtain ⟨oop, onm, otx, onum, okids, oa, oc, eo, _⟩ := ho.open
  obtain ⟨sa, sc, es, hsm, hsk⟩ := hss
  obtain ⟨na, nc, en, hnm, hnk⟩ := hns
  obtain ⟨ga, gc, eg, hgm, hgk⟩ := hgs
  rw [et] at htA
  rw [eo] at hoA
  injection et with et
  injection eo with eo
  simp only [Array.mk.injEq, List.cons.injEq, and_true] at et eo
  obtain ⟨t0, t1, t2, t3, t4⟩ := et
  obtain ⟨o0, o1, o2, o3, o4⟩ := eo
  refine ⟨⟨t, ss, kd, lm, ls, ns, gs, sk, o, ky, wi⟩, op, nm, tx, num, a, _, c, sa, _, sc, na, _, nc, ga, _, gc, oop, onm, otx, onum, oa, _, oc, ?_, htA, ⟨sa, sc, rfl, Nat.le_trans hsm.1 (by decide), fun i hi => ?_⟩, ⟨na, nc, rfl, Nat.le_trans hnm.1 (by decide), fun i hi => ?_⟩, ⟨ga, gc, rfl, Nat.le_trans hgm.1 (by decide), fun i hi => ?_⟩, hoA⟩
  · rw [QV, qVal, t0, t1, t2, t3, t4, o0, o1, o2, o3, o4, es, en, eg, ekd, elm, els, esk, eky, ewi]
  · obtain ⟨blk, off, ea, hl, _, hc⟩ := hsk (Nat.lt_of_le_of_lt (Nat.zero_le _) hi)
    obtain ⟨us, hu, hcell, tl, eu, hT⟩ := hc i hi
    obtain ⟨op', nm', tx', num', kids', a', c', ev, _⟩ := hT.open
    have htl : tl = [.int .i64 op', .string ⟨nm'.toArray⟩, .string ⟨tx'.toArray⟩, .int .i64 num', .slice a' kids'.length c'] := by
      injection ev with ev
      have := congrArg Array.toList ev
      simpa using this
    subst htl
    subst eu
    exact ⟨blk, off, ss[i].ex, ss[i].src, op', nm', tx', num', a', _, c', ea, hl, hcell 0 (by decide), hcell 1 (by decide), hcell 2 (by decide), hcell 3 (by decide), hcell 4 (by decide), hcell 5 (by decide), hcell 6 (by decide), rfl, rfl, TG.at _ _ hT⟩
  · obtain ⟨blk, off, ea, hl, _, hc⟩ := hnk (Nat.lt_of_le_of_lt (Nat.zero_le _) hi)
    obtain ⟨us, hu, hcell, hr⟩ := hc i hi
    unfold NR at hr
    subst hr
    have := hcell 0 (by decide)
    rw [Nat.mul_one] at this
    exact ⟨blk, off, ea, hl, this⟩
  · obtain ⟨blk, off, ea, hl, _, hc⟩ := hgk (Nat.lt_of_le_of_lt (Nat.zero_le _) hi)
    obtain ⟨us, hu, hcell, hr⟩ := hc i hi
    unfold GR at hr
    subst hr
    exact ⟨blk, off, ea, hl, hcell 0 (by decide), hcell 1 (by decide)⟩
/-- What a store of one field leaves. -/
theorem QE.s5 {F : Nat → Prop} {W : World} {E : Nat → Value} (h : QE F W E) {v : Value} (hv : ∃ ss, RW F 7 (SR F W) W ss v) : QE F W (Upd E 5 v) := ⟨h.t, hv, h.kd, h.lm, h.ls, h.ns, h.gs, h.sk, h.o, h.ky, h.wi⟩
theorem QE.s6 {F : Nat → Prop} {W : World} {E : Nat → Value} (h : QE F W E) (n : Int) : QE F W (Upd E 6 (.int .i64 n)) := ⟨h.t, h.ss, ⟨n, rfl⟩, h.lm, h.ls, h.ns, h.gs, h.sk, h.o, h.ky, h.wi⟩
theorem QE.s7 {F : Nat → Prop} {W : World} {E : Nat → Value} (h : QE F W E) (n : Int) : QE F W (Upd E 7 (.int .i64 n)) := ⟨h.t, h.ss, h.kd, ⟨n, rfl⟩, h.ls, h.ns, h.gs, h.sk, h.o, h.ky, h.wi⟩
theorem QE.s8 {F : Nat → Prop} {W : World} {E : Nat → Value} (h : QE F W E) (b : Bool) : QE F W (Upd E 8 (.bool b)) := ⟨h.t, h.ss, h.kd, h.lm, ⟨b, rfl⟩, h.ns, h.gs, h.sk, h.o, h.ky, h.wi⟩
theorem QE.s9 {F : Nat → Prop} {W : World} {E : Nat → Value} (h : QE F W E) {v : Value} (hv : ∃ ns, RW F 1 NR W ns v) : QE F W (Upd E 9 v) := ⟨h.t, h.ss, h.kd, h.lm, h.ls, hv, h.gs, h.sk, h.o, h.ky, h.wi⟩
theorem QE.s10 {F : Nat → Prop} {W : World} {E : Nat → Value} (h : QE F W E) {v : Value} (hv : ∃ gs, RW F 2 GR W gs v) : QE F W (Upd E 10 v) := ⟨h.t, h.ss, h.kd, h.lm, h.ls, h.ns, hv, h.sk, h.o, h.ky, h.wi⟩
theorem QE.s11 {F : Nat → Prop} {W : World} {E : Nat → Value} (h : QE F W E) (n : Int) : QE F W (Upd E 11 (.int .i64 n)) := ⟨h.t, h.ss, h.kd, h.lm, h.ls, h.ns, h.gs, ⟨n, rfl⟩, h.o, h.ky, h.wi⟩
theorem QE.s17 {F : Nat → Prop} {W : World} {E : Nat → Value} (h : QE F W E) (s : List UInt8) : QE F W (Upd E 17 (.string ⟨s.toArray⟩)) := ⟨h.t, h.ss, h.kd, h.lm, h.ls, h.ns, h.gs, h.sk, h.o, ⟨s, rfl⟩, h.wi⟩
theorem QE.s18 {F : Nat → Prop} {W : World} {E : Nat → Value} (h : QE F W E) (n : Int) : QE F W (Upd E 18 (.int .i64 n)) := ⟨h.t, h.ss, h.kd, h.lm, h.ls, h.ns, h.gs, h.sk, h.o, h.ky, ⟨n, rfl⟩⟩
theorem QE.sT {F : Nat → Prop} {W : World} {E : Nat → Value} (h : QE F W E) {v0 v1 v2 v3 v4 : Value} (hv : ∃ t, TG F W t (.agg #[v0, v1, v2, v3, v4])) : QE F W (Upd (Upd (Upd (Upd (Upd E 0 v0) 1 v1) 2 v2) 3 v3) 4 v4) := ⟨hv, h.ss, h.kd, h.lm, h.ls, h.ns, h.gs, h.sk, h.o, h.ky, h.wi⟩
theorem QE.sO {F : Nat → Prop} {W : World} {E : Nat → Value} (h : QE F W E) {v0 v1 v2 v3 v4 : Value} (hv : ∃ t, TG F W t (.agg #[v0, v1, v2, v3, v4])) : QE F W (Upd (Upd (Upd (Upd (Upd E 12 v0) 13 v1) 14 v2) 15 v3) 16 v4) := ⟨h.t, h.ss, h.kd, h.lm, h.ls, h.ns, h.gs, h.sk, hv, h.ky, h.wi⟩

end Go.Proofs.Ytmcnhphmglmmeaa

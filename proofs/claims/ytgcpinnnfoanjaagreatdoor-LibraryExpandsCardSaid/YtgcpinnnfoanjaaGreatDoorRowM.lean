/-
  Rows in memory, blocks of the call's own, the list of choices: what every seat with drawn data wants.
-/
import Derived.Test.YtgcpinnnfoanjaaGreatDoorOwnK
import Derived.Test.YtgcpinnnfoanjaaGreatDoorDraw
import Derived.Laws.Rows
import Derived.Deep.AppendLies
import Derived.Laws.NewBlocks
import Derived.Laws.AppendOwnNone
namespace Go.Proofs.YtgcpinnnfoanjaaGreatDoor
open Go.RowKit

/-- From one world to the next. -/
def Stay (F F' : Nat → Prop) (w w' : World) : Prop := w.heap.size ≤ w'.heap.size ∧ ∀ k, F k → k < w.heap.size → F' k ∧ w'.heap[k]? = w.heap[k]?
theorem Stay.cell {F F' : Nat → Prop} {w w' : World} (h : Stay F F' w w') {p : Addr} (hp : F p.block) (hl : p.block < w.heap.size) : w'.cell? p = w.cell? p := World.cell?_of_block (w := w) (w' := w') (h.2 _ hp hl).2
/-- A row of elements of k cells. -/
def RW {α : Type} (F : Nat → Prop) (k : Nat) (R : α → List Value → Prop) (w : World) (xs : List α) (v : Value) : Prop :=
  ∃ a c, v = .slice a xs.length c ∧ (xs.length ≤ 1000000 ∧ (a = none → c = 0)) ∧ (0 < xs.length → ∃ blk off, a = some ⟨blk, off, none⟩ ∧ blk < w.heap.size ∧ F blk ∧ ∀ i (h : i < xs.length), ∃ us : List Value,
    us.length = k ∧ (∀ j, j < k → w.cell? ⟨blk, off + i * k + j, none⟩ = us[j]?) ∧ R xs[i] us)
theorem RW.go {α : Type} {F F' : Nat → Prop} {k : Nat} {R R' : α → List Value → Prop} {w w' : World} (hs : Stay F F' w w') (hR : ∀ x us, R x us → R' x us) {xs : List α} {v : Value} (h : RW F k R w xs v) : RW F' k R' w' xs v := by
  obtain ⟨a, c, e, hm, hk⟩ := h
  refine ⟨a, c, e, hm, fun h0 => ?_⟩
  obtain ⟨blk, off, e1, hl, hF, hc⟩ := hk h0
  refine ⟨blk, off, e1, Nat.lt_of_lt_of_le hl hs.1, (hs.2 _ hF hl).1, fun i hi => ?_⟩
  obtain ⟨us, hu, hcell, hr⟩ := hc i hi
  exact ⟨us, hu, fun j hj => (hs.cell (p := ⟨blk, off + i * k + j, none⟩) hF hl).trans (hcell j hj), hR _ _ hr⟩
theorem RW.nil {α : Type} {F : Nat → Prop} {k : Nat} {R : α → List Value → Prop} {w : World} : RW F k R w [] (.slice none 0 0) := ⟨none, 0, rfl, ⟨by simp, fun _ => rfl⟩, fun h => by simp at h⟩

/-- A row of the call's own, element by element. -/
structure OR {α : Type} (B : Nat) (e : TypeId) (k : Nat) (R : α → List Value → Prop) (W : World) (xs : List α) (v : Value) : Prop where
  row : ∃ uss : List (List Value), uss.length = xs.length ∧ (∀ i (h : i < xs.length) (h' : i < uss.length), uss[i].length = k ∧ R xs[i] uss[i]) ∧ W.ownsRow B e k v xs.length uss.flatten
  size : xs.length ≤ 1000000
theorem flat_at (k : Nat) : ∀ (uss : List (List Value)), (∀ u ∈ uss, u.length = k) → ∀ i j (h : i < uss.length), j < k → uss.flatten[i * k + j]? = uss[i][j]?
  | [], _, i, j, h, _ => by simp at h
  | u :: us, hu, i, j, h, hj => by
    have h0 : u.length = k := hu u (by simp)
    cases i with
    | zero =>
      rw [List.flatten_cons, List.getElem?_append_left (by omega)]
      simp
    | succ i =>
      rw [List.flatten_cons, List.getElem?_append_right (by rw [h0, Nat.succ_mul]; omega), h0, show (i + 1) * k + j - k = i * k + j by rw [Nat.succ_mul]; omega]
      exact flat_at k us (fun x hx => hu x (List.mem_cons_of_mem _ hx)) i j (by simpa using h) hj
theorem OR.rw {α : Type} {B : Nat} {e : TypeId} {k : Nat} {R : α → List Value → Prop} {W : World} {xs : List α} {v : Value} (h : OR B e k R W xs v) {F : Nat → Prop} (hF : ∀ b, B ≤ b → F b) : RW F k R W xs v := by
  obtain ⟨⟨uss, hlen, hel, _, h0 | ⟨g, cap, cur, rfl, hB, hg, hrest⟩⟩, hsz⟩ := h
  · obtain ⟨h1, h2⟩ := h0
    subst h1
    exact ⟨none, 0, by rw [h2], ⟨hsz, fun _ => rfl⟩, fun h => by omega⟩
  · have hs : g < W.heap.size := by
      rcases Nat.lt_or_ge g W.heap.size with c | c
      · exact c
      · rw [Array.getElem?_eq_none c] at hg; cases hg
    obtain ⟨_, _, hcs, htk⟩ := hrest
    have hall : ∀ u ∈ uss, u.length = k := fun u hu => by
      obtain ⟨i, hi, rfl⟩ := List.getElem_of_mem hu
      exact (hel i (by omega) hi).1
    refine ⟨_, cap, rfl, ⟨hsz, fun e => by cases e⟩, fun _ => ⟨g, 0, rfl, hs, hF g hB, fun i hi => ⟨uss[i]'(by omega), (hel i hi (by omega)).1, fun j hj => ?_, (hel i hi (by omega)).2⟩⟩⟩
    rw [Lib.cell_of_heap hg, ← flat_at k uss hall i j (by omega) hj, ← htk, List.getElem?_take_of_lt, Nat.zero_add]
    · simp
    · have : (i + 1) * k ≤ xs.length * k := Nat.mul_le_mul_right _ hi
      rw [Nat.succ_mul] at this
      omega
theorem OR.nil {α : Type} {B : Nat} {e : TypeId} {k : Nat} {R : α → List Value → Prop} {W : World} : OR B e k R W [] (.slice none 0 0) :=
  ⟨⟨[], rfl, fun i h => by simp at h, by simp, .inl ⟨rfl, rfl⟩⟩, by simp⟩
theorem OR.keep {α : Type} {B : Nat} {e : TypeId} {k : Nat} {R R' : α → List Value → Prop} {W W' : World} {xs : List α} {v : Value} (h : OR B e k R W xs v) (hb : ∀ j, B ≤ j → j < W.heap.size → W'.heap[j]? = W.heap[j]?) (hR : ∀ x us, R x us → R' x us) : OR B e k R' W' xs v := by
  obtain ⟨⟨uss, hlen, hel, ho⟩, hsz⟩ := h
  exact ⟨⟨uss, hlen, fun i h h' => ⟨(hel i h h').1, hR _ _ (hel i h h').2⟩, own_keep ho hb⟩, hsz⟩
/-- The cells of a row. -/
theorem OR.cells {α : Type} {B : Nat} {e : TypeId} {k : Nat} {R : α → List Value → Prop} {W : World} {xs : List α} {v : Value} (h : OR B e k R W xs v) : ∃ cs : List Value, W.ownsRow B e k v xs.length cs ∧
    ∀ (R' : α → List Value → Prop) (W' : World) (x : α) (us : List Value) (v' : Value), (∀ x us, R x us → R' x us) → us.length = k → R' x us → xs.length + 1 ≤ 1000000 → W'.ownsRow B e k v' (xs.length + 1) (cs ++ us) → OR B e k R' W' (xs ++ [x]) v' := by
  obtain ⟨⟨uss, hlen, hel, ho⟩, hsz⟩ := h
  refine ⟨uss.flatten, ho, fun R' W' x us v' hR hu hx hs hW => ⟨⟨uss ++ [us], by simp [hlen], fun i h h' => ?_, by rw [List.length_append, List.flatten_append]; simpa using hW⟩, by simpa using hs⟩⟩
  by_cases hi : i < xs.length
  · rw [List.getElem_append_left hi, List.getElem_append_left (by omega)]
    exact ⟨(hel i hi (by omega)).1, hR _ _ (hel i hi (by omega)).2⟩
  · obtain rfl : i = xs.length := by simp at h; omega
    rw [List.getElem_append_right (by omega), List.getElem_append_right (by omega)]
    simp [hlen, hu, hx]

/-- The list of choices goes on, the old memory stays. -/
structure GD (g : Nat) (w W : World) : Prop where
  ap : Apart g w W
  codes : CodesAt W g
  hg : g < w.heap.size
theorem GD.start {g : Nat} {w : World} (h : CodesAt w g) : GD g w w := ⟨Apart.refl _ _, h, h.1⟩
theorem GD.go {g : Nat} {w W W' : World} (h : GD g w W) (ha : Apart g W W') (hc : CodesAt W' g) : GD g w W' := ⟨h.ap.trans ha, hc, h.hg⟩
theorem GD.on {g : Nat} {w W W' : World} (h : GD g w W) (hb : Below w.heap.size W W') : GD g w W' :=
  ⟨⟨h.ap.1.trans (hb.mono (Nat.le_of_lt h.hg)), fun k h1 h2 => (hb.block k h2).trans (h.ap.2 k h1 h2)⟩, h.codes.of_below h.hg hb, h.hg⟩
theorem GD.al {g : Nat} {w W : World} (h : GD g w W) (o : Obj) : GD g w (W.alloc o) := h.on ((Below.refl _ W).alloc h.ap.1.size o)
theorem GD.dr {g : Nat} {w W : World} (h : GD g w W) : GD g w W.drew := h.on (Below.refl _ W).drew
theorem GD.set {g : Nat} {w W : World} (h : GD g w W) {b : Nat} (hb : w.heap.size ≤ b) (i : Nat) (v : Value) : GD g w (W.setCell ⟨b, i, none⟩ v) := h.on ((Below.refl _ W).setCell (p := ⟨b, i, none⟩) hb v)
theorem GD.le {g : Nat} {w W : World} (h : GD g w W) : w.heap.size ≤ W.heap.size := h.ap.1.size

def Upd (E : Nat → Value) (i : Nat) (v : Value) : Nat → Value := fun j => if j = i then v else E j
/-- A block of the call's own, cell by cell. -/
structure BK (b n : Nat) (E : Nat → Value) (W : World) : Prop where
  ev : ∀ i, i < n → W.cell? ⟨b, i, none⟩ = some (E i)
  fz : ∀ i, W.frozen? ⟨b, i, none⟩ = false
  lt : b < W.heap.size
theorem BK.keep {b n : Nat} {E : Nat → Value} {W W' : World} (h : BK b n E W) (hh : W'.heap[b]? = W.heap[b]?) (hs : W.heap.size ≤ W'.heap.size) : BK b n E W' :=
  ⟨fun i hi => (World.cell?_of_block (w := W) (w' := W') (a := ⟨b, i, none⟩) hh).trans (h.ev i hi), fun i => (World.frozen?_of_block (w := W) (w' := W') (a := ⟨b, i, none⟩) hh).trans (h.fz i), Nat.lt_of_lt_of_le h.lt hs⟩
theorem BK.go {b n g : Nat} {E : Nat → Value} {W W' : World} (h : BK b n E W) (ha : Apart g W W') (hn : b ≠ g) : BK b n E W' := h.keep (ha.block hn h.lt) ha.1.size
theorem BK.on {b n B : Nat} {E : Nat → Value} {W W' : World} (h : BK b n E W) (hb : Below B W W') (hn : b < B) : BK b n E W' := h.keep (hb.block b hn) hb.size
theorem BK.al {b n : Nat} {E : Nat → Value} {W : World} (h : BK b n E W) (o : Obj) : BK b n E (W.alloc o) := h.on ((Below.refl _ W).alloc (Nat.le_refl _) o) h.lt
theorem BK.dr {b n : Nat} {E : Nat → Value} {W : World} (h : BK b n E W) : BK b n E W.drew := h.on (Below.refl _ W).drew h.lt
theorem BK.other {b n b' : Nat} {E : Nat → Value} {W : World} (h : BK b n E W) (hn : b ≠ b') (i : Nat) (v : Value) : BK b n E (W.setCell ⟨b', i, none⟩ v) := h.keep (Below.heap_setCell _ _ _ b (by simpa using hn)) (by simp)
theorem BK.set {b n : Nat} {E : Nat → Value} {W : World} (h : BK b n E W) (i : Nat) (hi : i < n) (v : Value) : BK b n (Upd E i v) (W.setCell ⟨b, i, none⟩ v) := by
  refine ⟨fun j hj => ?_, fun j => by rw [World.frozen?_setCell]; exact h.fz j, by simpa using h.lt⟩
  unfold Upd
  by_cases e : j = i
  · subst e
    rw [if_pos rfl]
    exact World.cell?_setCell_same _ _ _ (h.ev j hj)
  · rw [if_neg e, World.cell?_setCell_other _ _ _ _ (by intro hh; simp only [Addr.mk.injEq] at hh; omega)]
    exact h.ev j hj
theorem BK.cong {b n : Nat} {E E' : Nat → Value} {W : World} (h : BK b n E W) (he : ∀ i, i < n → E i = E' i) : BK b n E' W := ⟨fun i hi => (h.ev i hi).trans (congrArg some (he i hi)), h.fz, h.lt⟩
theorem BK.new (W : World) (cs : Array Value) (t : TypeId) (E : Nat → Value) (n : Nat) (he : ∀ i, i < n → cs[i]? = some (E i)) : BK W.heap.size n E (W.alloc (.cells cs t)) :=
  ⟨fun i hi => by rw [← he i hi]; simp [go_sem], fun i => by simp [go_sem], by simp⟩

/-- Cells that are stored one behind the other. -/
def setL (W : World) (b : Nat) : List Value → Nat → World
  | [], _ => W
  | v :: vs, i => setL (W.setCell ⟨b, i, none⟩ v) b vs (i + 1)
theorem setL_below {B b : Nat} (hB : B ≤ b) (vs : List Value) : ∀ (W : World) (i : Nat), Below B W (setL W b vs i) := by
  induction vs with
  | nil => intro W i; exact Below.refl _ _
  | cons v vs ih => intro W i; exact ((Below.refl _ W).setCell (p := ⟨b, i, none⟩) hB v).trans (ih _ _)
theorem setL_heap {b k : Nat} (vs : List Value) (hk : k ≠ b) : ∀ (W : World) (i : Nat), (setL W b vs i).heap[k]? = W.heap[k]? := by
  induction vs with
  | nil => intro W i; rfl
  | cons v vs ih => intro W i; exact (ih _ _).trans (Below.heap_setCell _ _ _ k (fun e => hk e))
theorem setL_other {b : Nat} (vs : List Value) : ∀ (W : World) (i j : Nat), j < i → (setL W b vs i).cell? ⟨b, j, none⟩ = W.cell? ⟨b, j, none⟩ := by
  induction vs with
  | nil => intro W i j _; rfl
  | cons v vs ih =>
    intro W i j h
    rw [setL, ih _ _ _ (by omega), World.cell?_setCell_other _ _ _ _ (by intro e; simp only [Addr.mk.injEq] at e; omega)]
theorem setL_at {b : Nat} (vs : List Value) : ∀ (W : World) (i : Nat), (∀ j, i ≤ j → j < i + vs.length → ∃ u, W.cell? ⟨b, j, none⟩ = some u) → ∀ j v, vs[j]? = some v → (setL W b vs i).cell? ⟨b, i + j, none⟩ = some v := by
  induction vs with
  | nil => intro W i _ j v h; simp at h
  | cons x vs ih =>
    intro W i hx j v h
    rw [setL]
    cases j with
    | zero =>
      simp at h
      subst h
      show (setL (W.setCell ⟨b, i, none⟩ x) b vs (i + 1)).cell? ⟨b, i, none⟩ = some x
      rw [setL_other vs _ (i + 1) i (Nat.lt_succ_self i)]
      obtain ⟨u, hu⟩ := hx i (Nat.le_refl _) (by simp)
      exact World.cell?_setCell_same _ _ _ hu
    | succ j =>
      rw [show i + (j + 1) = i + 1 + j by omega]
      refine ih _ _ (fun k h1 h2 => ?_) j v (by simpa using h)
      obtain ⟨u, hu⟩ := hx k (by omega) (by simp; omega)
      exact ⟨u, by rw [World.cell?_setCell_other _ _ _ _ (by intro e; simp only [Addr.mk.injEq] at e; omega)]; exact hu⟩
theorem results_item {P : Program} {fn : Func} {p : Tmp} {ty : TypeId} (h : fn.results = #[.cell p ty]) (tmps : Array Value) (w : World) (g : Nat) (cs : List Value) (d : TypeDesc)
    (hp : tmps.getD p undef = .pointer (some ⟨g, 0, none⟩)) (hc : ∀ j v, cs[j]? = some v → w.cell? ⟨g, j, none⟩ = some v)
    (hu : P.underlying ty = some d) (hd : (match d with | .struct _ | .array _ _ => true | _ => false) = true) (hi : (P.info? ty).map (·.size) = some cs.length) :
    (results fn tmps).run P w = .ok (.agg cs.toArray) w := by
  have hl : (loadCells ⟨g, 0, none⟩ cs.length).run P w = .ok cs.toArray w :=
    run_loadCells_list (P := P) w ⟨g, 0, none⟩ cs (fun j v hv => by
      have hadd : (⟨g, 0, none⟩ : Addr).add j = ⟨g, j, none⟩ := by unfold Addr.add; split <;> simp_all
      rw [hadd]
      exact hc j v hv)
  have hv : (loadVar ty ⟨g, 0, none⟩).run P w = .ok (.agg cs.toArray) w := by
    cases hq : P.info? ty with
    | none => simp [hq] at hi
    | some i =>
      have hs : i.size = cs.length := by simpa [hq] using hi
      have hagg : (isAgg ty).run P w = .ok true w := by
        unfold isAgg
        rw [Sem.run_bind, run_underlying hu w]
        cases d <;> simp_all
      simp [loadVar, Sem.run_bind, hagg, sizeOf, typeInfo, hq, hs, hl]
  have hp' : tmps[p]?.getD undef = .pointer (some ⟨g, 0, none⟩) := by simpa using hp
  simp [results, h, hp', asAddr, hv]

/-- A row of one element, just made. -/
theorem OR.lit {α : Type} {B : Nat} {e : TypeId} {k : Nat} {R : α → List Value → Prop} (W : World) (x : α) (us : List Value) (hB : B ≤ W.heap.size) (hu : us.length = k) (hx : R x us) :
    OR B e k R (W.alloc (.cells us.toArray e)) [x] (.slice (some ⟨W.heap.size, 0, none⟩) 1 1) := by
  refine ⟨⟨[us], rfl, fun i h h' => ?_, by simp [hu], .inr ⟨W.heap.size, 1, us.toArray, rfl, hB, heap_alloc_new W _, by simp, by unfold maxLen; omega, by simp [hu], by rw [← hu]; simp⟩⟩, by simp⟩
  simp only [List.length_singleton] at h
  obtain rfl : i = 0 := by omega
  exact ⟨hu, hx⟩
theorem setL_size {b : Nat} (vs : List Value) : ∀ (W : World) (i : Nat), (setL W b vs i).heap.size = W.heap.size := by
  induction vs with
  | nil => intro W i; rfl
  | cons v vs ih => intro W i; rw [setL, ih]; simp
theorem setL_alloc {b : Nat} (o : Obj) (vs : List Value) : ∀ (W : World) (i : Nat), b < W.heap.size → (setL W b vs i).alloc o = setL (W.alloc o) b vs i := by
  induction vs with
  | nil => intro W i _; rfl
  | cons v vs ih => intro W i h; rw [setL, setL, World.setCell_alloc_past _ _ _ _ h, ih _ _ (by simpa using h)]

/-- Blocks among G, but for the row's own. -/
def FF (G : Nat → Prop) (v : Value) : Nat → Prop := fun k => G k ∧ v.ownBlock ≠ some k
theorem FF.nil (G : Nat → Prop) : FF G (.slice none 0 0) = G := by
  funext k
  simp [FF, Value.ownBlock]
theorem push_stay {G : Nat → Prop} {W W' : World} {o : Obj} {v : Value} {g n cap : Nat} (hgr : (W.alloc o).grownBy W' v.ownBlock) (hat : v.ownBlock = some g ∨ W.heap.size ≤ g) :
    Stay (FF G v) (FF G (.slice (some ⟨g, 0, none⟩) n cap)) W W' := by
  refine ⟨Nat.le_trans (by simp) hgr.size, fun k hk hl => ⟨⟨hk.1, fun e => ?_⟩, ?_⟩⟩
  · simp only [Value.ownBlock, Option.some.injEq] at e
    subst e
    rcases hat with h | h
    · exact hk.2 h
    · omega
  · exact (hgr.block k (by simp; omega) (fun e => hk.2 e.symm)).trans (((Below.refl _ W).alloc (Nat.le_refl _) o).block k hl)
theorem push_below {W W' : World} {o : Obj} {v : Value} {B n : Nat} {e : TypeId} {s : Nat} {xs : List Value} (hgr : (W.alloc o).grownBy W' v.ownBlock) (hown : W.ownsRow B e s v n xs) (hB : B ≤ W.heap.size) : Below B W W' :=
  ((Below.refl _ W).alloc hB o).grown hgr (by simp; omega) (fun k hk => (hown.lt k hk).1)

/-- 'append([]T(nil), x...)': a copy of a row. -/
theorem wpList_append_row {P : Program} {α : Type} {w : World} {ops : Array Oper} {rest : List Oper} {o : Oper} {a : Act} {Q : Exit → Act → World → Prop} (hgd : o.guard = none) (s x : Operand) (t e : TypeId) (z : Value) (k bytes : Nat)
    (ho : o.op = .call { callee := .builtin .append, args := #[s, x], argTypes := #[t, t] }) (ht : P.underlying t = some (.slice e)) (hinfo : (P.info? e).map (fun i => (i.zero, i.size, i.bytes)) = some (some z, k, bytes)) (hzs : z.cells.size = k) (hk : 0 < k)
    (B : Nat) {F : Nat → Prop} {R : α → List Value → Prop} {xs : List α} {v : Value} (hs : a.eval s = .slice none 0 0) (hx : a.eval x = v) (hrw : RW F k R w xs v) (hR : ∀ x us, R x us → ∀ u ∈ us, u.oneCell' = true) (hb : 1000000 * bytes ≤ 140737488355328) (hB : B ≤ w.heap.size)
    (h : ∀ v' w', OR B e k R w' xs v' → w.grownBy w' none → wpList P ops Q rest (a.put o.dst v') w') : wpList P ops Q (o :: rest) a w := by
  obtain ⟨i0, hi, hz0, hz1, hz2⟩ := info_parts hinfo
  obtain ⟨ad, c, rfl, ⟨hm, hc⟩, hrow⟩ := hrw
  have hex : ∃ uss : List (List Value), uss.length = xs.length ∧ ∀ i (h' : i < uss.length), ∀ (h : i < xs.length), uss[i].length = k ∧ R xs[i] uss[i] ∧ ∀ ad', ad = some ad' → ∀ j, j < k → w.cell? (ad'.add (i * k + j)) = uss[i][j]? := by
    by_cases h0 : 0 < xs.length
    · obtain ⟨blk, off, rfl, hl, _, hel⟩ := hrow h0
      refine ⟨List.ofFn fun i : Fin xs.length => Classical.choose (hel i.1 i.2), by simp, fun i h' hi => ?_⟩
      rw [List.getElem_ofFn]
      obtain ⟨h1, h2, h3⟩ := Classical.choose_spec (hel i hi)
      refine ⟨h1, h3, fun ad' e j hj => ?_⟩
      obtain rfl : (⟨blk, off, none⟩ : Addr) = ad' := by simpa using e
      rw [addp, ← Nat.add_assoc]
      exact h2 j hj
    · refine ⟨[], by simp; omega, fun i h' => by simp at h'⟩
  obtain ⟨uss, hul, hue⟩ := hex
  have hall : ∀ u ∈ uss, u.length = k := fun u hu => by
    obtain ⟨i, hi, rfl⟩ := List.getElem_of_mem hu
    exact (hue i hi (by omega)).1
  have hfl : uss.flatten.length = xs.length * k := by
    rw [← hul]
    clear hul hue
    induction uss with
    | nil => simp
    | cons u us ih => rw [List.flatten_cons, List.length_append, ih (fun x hx => hall x (List.mem_cons_of_mem _ hx)), hall u (by simp), List.length_cons, Nat.succ_mul]; omega
  cases ad with
  | none =>
    have hx0 : xs = [] := by
      cases xs with
      | nil => rfl
      | cons y ys => obtain ⟨blk, off, e, _⟩ := hrow (by simp); cases e
    subst hx0
    obtain rfl := hc rfl
    exact wpList_append_own_none hgd s x t ho B e i0 k ht hi (.slice none 0 0) 0 [] hs (World.ownsRow_nil w B e k) hx (h _ w OR.nil (World.grownBy.refl _ _))
  | some ad' =>
    refine wpList_append_own w hgd s x t ho B e i0 z k bytes ht hi hz0 hz1 hz2 hzs hk (.slice none 0 0) 0 [] hs (World.ownsRow_nil w B e k) ad' xs.length c uss.flatten hx hfl (fun j u hj => ?_) (fun u hu => ?_) (by unfold maxLen; omega) (Nat.le_trans (Nat.mul_le_mul_right _ (by omega)) hb) hB (fun v' w' h1 h2 _ => h v' w' ⟨⟨uss, hul, fun i hi h' => ⟨(hue i h' hi).1, (hue i h' hi).2.1⟩, by simpa using h1⟩, hm⟩ h2)
    · have hj0 : j < xs.length * k := by rw [← hfl]; exact (List.getElem?_eq_some_iff.1 hj).1
      have hi : j / k < xs.length := by rw [Nat.div_lt_iff_lt_mul hk]; exact hj0
      have hjm : j % k < k := Nat.mod_lt _ hk
      have he : j / k * k + j % k = j := by rw [Nat.mul_comm]; exact Nat.div_add_mod j k
      have h1 := (hue (j / k) (by omega) hi).2.2 ad' rfl (j % k) hjm
      rw [he] at h1
      rw [h1, ← flat_at k uss hall (j / k) (j % k) (by omega) hjm, he]
      exact hj
    · obtain ⟨us, hus, hu'⟩ := List.mem_flatten.1 hu
      obtain ⟨i, hi, rfl⟩ := List.getElem_of_mem hus
      exact hR _ _ (hue i hi (by omega)).2.1 u hu'

/-- A block of the call's own whose cell c is a row. -/
structure KL {α : Type} (RR : (Nat → Prop) → World → α → List Value → Prop) (G : Nat → Prop) (b m : Nat) (E : Nat → Value) (c : Nat) (B : Nat) (e : TypeId) (k : Nat) (xs : List α) (v : Value) (W : World) : Prop where
  bk : BK b m (Upd E c v) W
  row : OR B e k (RR (FF G v) W) W xs v
  bB : b < B
  BW : B ≤ W.heap.size
section
variable {α : Type} {RR : (Nat → Prop) → World → α → List Value → Prop} {G : Nat → Prop} {b m : Nat} {E : Nat → Value} {c B : Nat} {e : TypeId} {k : Nat} {xs : List α} {v : Value} {W W' : World}
theorem KL.cell (h : KL RR G b m E c B e k xs v W) (hc : c < m) : W.cell? ⟨b, c, none⟩ = some v := by
  have := h.bk.ev c hc
  rwa [Upd, if_pos rfl] at this
theorem KL.cellA (h : KL RR G b m E c B e k xs v W) (hc : c < m) (o : Obj) : (W.alloc o).cell? ⟨b, c, none⟩ = some v := by
  have := (h.bk.al o).ev c hc
  rwa [Upd, if_pos rfl] at this
theorem KL.fzA (h : KL RR G b m E c B e k xs v W) (i : Nat) (o : Obj) : (W.alloc o).frozen? ⟨b, i, none⟩ = false := (h.bk.al o).fz i
theorem KL.keep (h : KL RR G b m E c B e k xs v W) (hR : ∀ x us, RR (FF G v) W x us → RR (FF G v) W' x us) (hs : W.heap.size ≤ W'.heap.size) (hb : W'.heap[b]? = W.heap[b]?) (hr : ∀ j, B ≤ j → j < W.heap.size → W'.heap[j]? = W.heap[j]?) : KL RR G b m E c B e k xs v W' :=
  ⟨h.bk.keep hb hs, h.row.keep hr hR, h.bB, Nat.le_trans h.BW hs⟩
/-- A call that leaves all but the choices alone. -/
theorem KL.go {g : Nat} (h : KL RR G b m E c B e k xs v W) (ha : Apart g W W') (hg : g < b) (hG : ¬ G g) (hRR : ∀ (F F' : Nat → Prop) (w w' : World), Stay F F' w w' → ∀ x us, RR F w x us → RR F' w' x us) : KL RR G b m E c B e k xs v W' :=
  h.keep (hRR _ _ _ _ ⟨ha.1.size, fun j hj hl => ⟨hj, ha.block (fun e => hG (e ▸ hj.1)) hl⟩⟩) ha.1.size (ha.block (Nat.ne_of_gt hg) h.bk.lt) (fun j h1 h2 => ha.block (by have := h.bB; omega) h2)
theorem KL.push {g' n' cap : Nat} {o : Obj} (h : KL RR G b m E c B e k xs v W) (hc : c < m) (hGb : ¬ G b) (hgr : (W.alloc o).grownBy W' v.ownBlock) (hat : v.ownBlock = some g' ∨ W.heap.size ≤ g') (cs : List Value)
    (hcs : W.ownsRow B e k v xs.length cs)
    (hpush : ∀ (R' : α → List Value → Prop) (W' : World) (x : α) (us : List Value) (v' : Value), (∀ x us, RR (FF G v) W x us → R' x us) → us.length = k → R' x us → xs.length + 1 ≤ 1000000 → W'.ownsRow B e k v' (xs.length + 1) (cs ++ us) → OR B e k R' W' (xs ++ [x]) v')
    (hRR : ∀ (F F' : Nat → Prop) (w w' : World), Stay F F' w w' → ∀ x us, RR F w x us → RR F' w' x us) (x : α) (us : List Value) (hu : us.length = k) (hx : RR (FF G v) W x us) (hl : xs.length + 1 ≤ 1000000)
    (ho : W'.ownsRow B e k (.slice (some ⟨g', 0, none⟩) n' cap) (xs.length + 1) (cs ++ us)) :
    KL RR G b m E c B e k (xs ++ [x]) (.slice (some ⟨g', 0, none⟩) n' cap) (W'.setCell ⟨b, c, none⟩ (.slice (some ⟨g', 0, none⟩) n' cap)) := by
  have hst := push_stay (G := G) (n := n') (cap := cap) hgr hat
  have hB := push_below hgr hcs h.BW
  have hset : ∀ j, j ≠ b → (W'.setCell ⟨b, c, none⟩ (.slice (some ⟨g', 0, none⟩) n' cap)).heap[j]? = W'.heap[j]? := fun j hj => Below.heap_setCell _ _ _ j (by simpa using hj)
  have hst2 : Stay (FF G v) (FF G (.slice (some ⟨g', 0, none⟩) n' cap)) W (W'.setCell ⟨b, c, none⟩ (.slice (some ⟨g', 0, none⟩) n' cap)) :=
    ⟨by simpa using hst.1, fun j hj hl => ⟨(hst.2 j hj hl).1, (hset j (fun e => hGb (e ▸ hj.1))).trans (hst.2 j hj hl).2⟩⟩
  refine ⟨(((h.bk.on hB h.bB).set c hc _).cong fun i hi => ?_), ?_, h.bB, by simpa using Nat.le_trans h.BW hB.size⟩
  · unfold Upd
    split <;> rfl
  · exact hpush _ _ x us _ (hRR _ _ _ _ hst2) hu (hRR _ _ _ _ hst2 _ _ hx) hl (own_keep ho fun j h1 _ => hset j (by have := h.bB; omega))
end

theorem OR.own {α : Type} {B : Nat} {e : TypeId} {k : Nat} {R R' : α → List Value → Prop} {W W' : World} {xs : List α} {v : Value} (h : OR B e k R W xs v) (hb : ∀ j, v.ownBlock = some j → W'.heap[j]? = W.heap[j]?) (hR : ∀ x us, R x us → R' x us) (B' : Nat) (hB : B' ≤ B) : OR B' e k R' W' xs v := by
  obtain ⟨⟨uss, hlen, hel, h0, ho⟩, hsz⟩ := h
  refine ⟨⟨uss, hlen, fun i h h' => ⟨(hel i h h').1, hR _ _ (hel i h h').2⟩, h0, ho.imp id ?_⟩, hsz⟩
  rintro ⟨g', cap, cur, rfl, hb', hg', hrest⟩
  exact ⟨g', cap, cur, rfl, Nat.le_trans hB hb', (hb g' rfl).trans hg', hrest⟩
theorem OR.lt {α : Type} {B : Nat} {e : TypeId} {k : Nat} {R : α → List Value → Prop} {W : World} {xs : List α} {v : Value} (h : OR B e k R W xs v) {j : Nat} (hj : v.ownBlock = some j) : B ≤ j ∧ j < W.heap.size := by
  obtain ⟨cs, hown, _⟩ := h.cells
  exact hown.lt j hj
theorem FF.stay {F F' : Nat → Prop} {w w' : World} (hs : Stay F F' w w') (v : Value) : Stay (FF F v) (FF F' v) w w' := ⟨hs.1, fun k hk hl => ⟨⟨(hs.2 k hk.1 hl).1, hk.2⟩, (hs.2 k hk.1 hl).2⟩⟩
theorem upd_upd (E : Nat → Value) (c : Nat) (u v : Value) : ∀ i, Upd (Upd E c u) c v i = Upd E c v i := fun i => by
  unfold Upd
  split <;> rfl
theorem setL_past {b : Nat} (vs : List Value) : ∀ (W : World) (i j : Nat), i + vs.length ≤ j → (setL W b vs i).cell? ⟨b, j, none⟩ = W.cell? ⟨b, j, none⟩ := by
  induction vs with
  | nil => intro W i j _; rfl
  | cons v vs ih =>
    intro W i j h
    simp only [List.length_cons] at h
    rw [setL, ih _ _ _ (by omega), World.cell?_setCell_other _ _ _ _ (by intro e; simp only [Addr.mk.injEq] at e; omega)]
theorem setL_frozen {b : Nat} {p : Addr} (vs : List Value) : ∀ (W : World) (i : Nat), (setL W b vs i).frozen? p = W.frozen? p := by
  induction vs with
  | nil => intro W i; rfl
  | cons v vs ih => intro W i; rw [setL, ih, World.frozen?_setCell]
theorem setCells_setL (b : Nat) : ∀ (vs : List Value) (i : Nat) (W : World), W.setCells b i vs = setL W b vs i
  | [], _, _ => rfl
  | v :: vs, i, W => by
    rw [World.setCells, setL, setCells_setL b vs (i + 1)]
/-- 'append([]T(nil), x...)' at one operation. -/
theorem wp_append_row {P : Program} {α : Type} {w : World} {o : Oper} {a : Act} {K : Act → World → Prop} {Q : Exit → Act → World → Prop} (s x : Operand) (t e : TypeId) (z : Value) (k bytes : Nat)
    (ho : o.op = .call { callee := .builtin .append, args := #[s, x], argTypes := #[t, t] }) (ht : P.underlying t = some (.slice e)) (hinfo : (P.info? e).map (fun i => (i.zero, i.size, i.bytes)) = some (some z, k, bytes)) (hzs : z.cells.size = k) (hk : 0 < k)
    (B : Nat) {F : Nat → Prop} {R : α → List Value → Prop} {xs : List α} {v : Value} (hs : a.eval s = .slice none 0 0) (hx : a.eval x = v) (hrw : RW F k R w xs v) (hR : ∀ x us, R x us → ∀ u ∈ us, u.oneCell' = true) (hb : 1000000 * bytes ≤ 140737488355328) (hB : B ≤ w.heap.size)
    (h : ∀ v' w', OR B e k R w' xs v' → w.grownBy w' none → K (a.put o.dst v') w') : o.wp P a w K Q := by
  obtain ⟨i0, hi, hz0, hz1, hz2⟩ := info_parts hinfo
  obtain ⟨ad, c, rfl, ⟨hm, hc⟩, hrow⟩ := hrw
  have hex : ∃ uss : List (List Value), uss.length = xs.length ∧ ∀ i (h' : i < uss.length), ∀ (h : i < xs.length), uss[i].length = k ∧ R xs[i] uss[i] ∧ ∀ ad', ad = some ad' → ∀ j, j < k → w.cell? (ad'.add (i * k + j)) = uss[i][j]? := by
    by_cases h0 : 0 < xs.length
    · obtain ⟨blk, off, rfl, hl, _, hel⟩ := hrow h0
      refine ⟨List.ofFn fun i : Fin xs.length => Classical.choose (hel i.1 i.2), by simp, fun i h' hi => ?_⟩
      rw [List.getElem_ofFn]
      obtain ⟨h1, h2, h3⟩ := Classical.choose_spec (hel i hi)
      refine ⟨h1, h3, fun ad' e j hj => ?_⟩
      obtain rfl : (⟨blk, off, none⟩ : Addr) = ad' := by simpa using e
      rw [addp, ← Nat.add_assoc]
      exact h2 j hj
    · refine ⟨[], by simp; omega, fun i h' => by simp at h'⟩
  obtain ⟨uss, hul, hue⟩ := hex
  have hall : ∀ u ∈ uss, u.length = k := fun u hu => by
    obtain ⟨i, hi, rfl⟩ := List.getElem_of_mem hu
    exact (hue i hi (by omega)).1
  have hfl : uss.flatten.length = xs.length * k := by
    rw [← hul]
    clear hul hue
    induction uss with
    | nil => simp
    | cons u us ih => rw [List.flatten_cons, List.length_append, ih (fun x hx => hall x (List.mem_cons_of_mem _ hx)), hall u (by simp), List.length_cons, Nat.succ_mul]; omega
  cases ad with
  | none =>
    have hx0 : xs = [] := by
      cases xs with
      | nil => rfl
      | cons y ys => obtain ⟨blk, off, e, _⟩ := hrow (by simp); cases e
    subst hx0
    obtain rfl := hc rfl
    have hrun := run_append_owned_none (P := P) (w := w) B t o.type e i0 k ht hi (.slice none 0 0) 0 [] (World.ownsRow_nil w B e k)
    have hx' : a.eval x = .slice none 0 0 := hx
    unfold Oper.wp
    simp [execOp, ho, resolve, invoke, builtin, hs, hx', hrun, Result.andThen]
    exact h _ w OR.nil (World.grownBy.refl _ _)
  | some ad' =>
    refine wp_append_own w s x t ho B e i0 z k bytes ht hi hz0 hz1 hz2 hzs hk (.slice none 0 0) 0 [] hs (World.ownsRow_nil w B e k) ad' xs.length c uss.flatten hx hfl (fun j u hj => ?_) (fun u hu => ?_) (by unfold maxLen; omega) (Nat.le_trans (Nat.mul_le_mul_right _ (by omega)) hb) hB (fun v' w' h1 h2 _ => h v' w' ⟨⟨uss, hul, fun i hi h' => ⟨(hue i h' hi).1, (hue i h' hi).2.1⟩, by simpa using h1⟩, hm⟩ h2)
    · have hj0 : j < xs.length * k := by rw [← hfl]; exact (List.getElem?_eq_some_iff.1 hj).1
      have hi : j / k < xs.length := by rw [Nat.div_lt_iff_lt_mul hk]; exact hj0
      have hjm : j % k < k := Nat.mod_lt _ hk
      have he : j / k * k + j % k = j := by rw [Nat.mul_comm]; exact Nat.div_add_mod j k
      have h1 := (hue (j / k) (by omega) hi).2.2 ad' rfl (j % k) hjm
      rw [he] at h1
      rw [h1, ← flat_at k uss hall (j / k) (j % k) (by omega) hjm, he]
      exact hj
    · obtain ⟨us, hus, hu'⟩ := List.mem_flatten.1 hu
      obtain ⟨i, hi, rfl⟩ := List.getElem_of_mem hus
      exact hR _ _ (hue i hi (by omega)).2.1 u hu'

/-- append at a row of a block of its own, and which cells stay. -/
theorem run_append_own2 {P : Program} {w : World} (base : Nat) (t ty e : TypeId) (i : TypeInfo) (z : Value) (size bytes : Nat) (ht : P.underlying t = some (.slice e)) (hi : P.info? e = some i) (hz : i.zero = some z)
    (hsize : i.size = size) (hby : i.bytes = bytes) (hzs : z.cells.size = size) (hsz : 0 < size)
    (v : Value) (n : Nat) (xs : List Value) (hown : w.ownsRow base e size v n xs)
    (ad : Addr) (m c : Nat) (news : List Value) (hl : news.length = m * size) (hnews : ∀ j u, news[j]? = some u → w.cell? (ad.add j) = some u) (h1 : ∀ u ∈ news, u.oneCell' = true)
    (h63 : n + m ≤ maxLen) (hbytes : (n + m) * bytes ≤ 140737488355328) (hbase : base ≤ w.heap.size) :
    ∃ v' w', (Builtin.append_ #[t, t] ty #[v, .slice (some ad) m c]).run P w = .ok v' w' ∧ w'.ownsRow base e size v' (n + m) (xs ++ news) ∧ w.grownBy w' v.ownBlock ∧
      (∀ k idx, k < w.heap.size → (v.ownBlock = some k → idx < n * size) → w'.cell? ⟨k, idx, none⟩ = w.cell? ⟨k, idx, none⟩) ∧ (∀ k, v'.ownBlock = some k → v.ownBlock = some k ∨ w.heap.size ≤ k) := by
  obtain ⟨v', w', hr, h2, h3, h4⟩ := run_append_own (P := P) w base t ty e i z size bytes ht hi hz hsize hby hzs hsz v n xs hown ad m c news hl hnews h1 h63 hbytes hbase
  have hcase : (∃ g cap, v = .slice (some ⟨g, 0, none⟩) n cap ∧ v' = .slice (some ⟨g, 0, none⟩) (n + m) cap ∧ w' = w.setCells g (0 + n * size) news) ∨ ((w.grownBy w' none) ∧ ∀ k, v'.ownBlock = some k → w.heap.size ≤ k) := by
    rcases hown.2 with ⟨rfl, rfl⟩ | ⟨g, cap, cur, rfl, hb, hg, hnc, hcm, hcs, htake⟩
    · right
      obtain ⟨v2, w2, hr2, h5, h6, _⟩ := run_append_own (P := P) w w.heap.size t ty e i z size bytes ht hi hz hsize hby hzs hsz (.slice none 0 0) 0 [] (World.ownsRow_nil w _ e size) ad m c news hl hnews h1 h63 hbytes (Nat.le_refl _)
      rw [hr] at hr2
      injection hr2 with e1 e2
      subst e1 e2
      exact ⟨h6, fun k hk => (h5.lt k hk).1⟩
    · by_cases hroom : n + m ≤ cap
      · left
        subst hsize
        have hcells : ∀ j, j < news.length → (w.cell? ⟨g, 0 + n * i.size + j, none⟩).isSome = true := fun j hj => by
          rw [cell_of_row w g _ cur e (0, 0) hg]
          have : 0 + n * i.size + j < cur.size := by
            rw [hcs]
            have h8 : (n + m) * i.size ≤ cap * i.size := Nat.mul_le_mul_right _ hroom
            rw [Nat.add_mul] at h8
            omega
          rw [Array.getElem?_eq_getElem this]
          rfl
        have hr2 := run_append_room_cells (P := P) w t ty e i ht hi g 0 n cap ad m c news hl hnews h1 hroom hcells (fun j _ => Lib.frozen_of_heap hg _)
        rw [hr] at hr2
        injection hr2 with e1 e2
        exact ⟨g, cap, rfl, e1, e2⟩
      · right
        have holds : ∀ j u, xs[j]? = some u → w.cell? ((⟨g, 0, none⟩ : Addr).add j) = some u := hown.cells rfl
        obtain ⟨v2, w2, hr2, h5, h6⟩ := run_append_arg_grows (P := P) w t ty e i z size bytes ht hi hz hsize hby hzs hsz ⟨g, 0, none⟩ n cap xs hown.1 holds ad m c news hl hnews (by omega) h63 hbytes
        rw [hr] at hr2
        injection hr2 with e1 e2
        subst e1 e2
        exact ⟨h6, fun k hk => (h5.lt k hk).1⟩
  refine ⟨v', w', hr, h2, h3, fun k idx hk hidx => ?_, fun k hk => ?_⟩
  · rcases hcase with ⟨g, cap, rfl, rfl, rfl⟩ | ⟨hg, _⟩
    · rw [setCells_setL]
      by_cases e : k = g
      · subst e
        exact setL_other _ _ _ _ (by have := hidx rfl; omega)
      · exact World.cell?_of_block (setL_heap _ e _ _)
    · exact World.cell?_of_block (hg.block k hk (by simp))
  · rcases hcase with ⟨g, cap, rfl, rfl, rfl⟩ | ⟨_, hg⟩
    · exact .inl hk
    · exact .inr (hg k hk)
theorem wpList_append_own2 {P : Program} (w : World) {ops : Array Oper} {rest : List Oper} {o : Oper} {a : Act} {Q : Exit → Act → World → Prop} (hgd : o.guard = none) (s x : Operand) (t : TypeId)
    (ho : o.op = .call { callee := .builtin .append, args := #[s, x], argTypes := #[t, t] })
    (base : Nat) (e : TypeId) (i : TypeInfo) (z : Value) (size bytes : Nat) (ht : P.underlying t = some (.slice e)) (hi : P.info? e = some i) (hz : i.zero = some z)
    (hsize : i.size = size) (hby : i.bytes = bytes) (hzs : z.cells.size = size) (hsz : 0 < size)
    (v : Value) (n : Nat) (xs : List Value) (hs : a.eval s = v) (hown : w.ownsRow base e size v n xs)
    (ad : Addr) (m c : Nat) (news : List Value) (hx : a.eval x = .slice (some ad) m c) (hl : news.length = m * size) (hnews : ∀ j u, news[j]? = some u → w.cell? (ad.add j) = some u) (h1 : ∀ u ∈ news, u.oneCell' = true)
    (h63 : n + m ≤ maxLen) (hbytes : (n + m) * bytes ≤ 140737488355328) (hbase : base ≤ w.heap.size)
    (h : ∀ v' w', w'.ownsRow base e size v' (n + m) (xs ++ news) → w.grownBy w' v.ownBlock → (∀ k idx, k < w.heap.size → (v.ownBlock = some k → idx < n * size) → w'.cell? ⟨k, idx, none⟩ = w.cell? ⟨k, idx, none⟩) → (∀ k, v'.ownBlock = some k → v.ownBlock = some k ∨ w.heap.size ≤ k) → wpList P ops Q rest (a.put o.dst v') w') : wpList P ops Q (o :: rest) a w := by
  refine wpList_plain hgd fun K hK' => ?_
  obtain ⟨v', w', hr, h2, h3, h4, h5⟩ := run_append_own2 (P := P) (w := w) base t o.type e i z size bytes ht hi hz hsize hby hzs hsz v n xs hown ad m c news hl hnews h1 h63 hbytes hbase
  unfold Oper.wp
  simp [execOp, ho, resolve, invoke, builtin, hs, hx, hr, Result.andThen]
  exact hK' _ _ (h v' w' h2 h3 h4 h5)
end Go.Proofs.YtgcpinnnfoanjaaGreatDoor

/-
  Rows that grow by append while their elements' own blocks stay.
-/
import Derived.Test.YtmcnhphmglmmeaaQryQ
import Derived.Deep.AppendLies
import Derived.Laws.NewBlocks
import Derived.Laws.AppendOwnNone
import Derived.Test.YtmcnhphmglmmeaaMem
namespace Go.Proofs.Ytmcnhphmglmmeaa
open Go.RowKit

theorem setL_size {b : Nat} (vs : List Value) : ∀ (W : World) (i : Nat), (setL W b vs i).heap.size = W.heap.size := by
  induction vs with
  | nil => intro W i; rfl
  | cons v vs ih => intro W i; rw [setL, ih]; simp
theorem setL_alloc {b : Nat} (o : Obj) (vs : List Value) : ∀ (W : World) (i : Nat), b < W.heap.size → (setL W b vs i).alloc o = setL (W.alloc o) b vs i := by
  induction vs with
  | nil => intro W i _; rfl
  | cons v vs ih => intro W i h; rw [setL, setL, World.setCell_alloc_past _ _ _ _ h, ih _ _ (by simpa using h)]

/-- Blocks among G, but for the row's own. -/
def FF (G : Nat → Prop) (v : Value) : Nat → Prop := fun k => G k ∧ v.ownBlock ≠ some k
theorem FF.nil (G : Nat → Prop) : FF G (.slice none 0 0) = G := by
  funext k
  simp [FF, Value.ownBlock]
theorem push_stay {G : Nat → Prop} {W W' : World} {o : Obj} {v : Value} {g n cap : Nat} (hgr : (W.alloc o).grownBy W' v.ownBlock) (hat : v.ownBlock = some g ∨ W.heap.size ≤ g) :
    Stay (FF G v) (FF G (.slice (some ⟨g, 0, none⟩) n cap)) W W' := by
  refine ⟨Nat.le_trans (by simp) hgr.size, fun k hk hl => ⟨⟨hk.1, fun e => ?_⟩, ?_⟩⟩
  · simp only [Value.ownBlock, Option.some.injEq] at e
    subst e
    rcases hat with h | h
    · exact hk.2 h
    · omega
  · exact (hgr.block k (by simp; omega) (fun e => hk.2 e.symm)).trans (((Below.refl _ W).alloc (Nat.le_refl _) o).block k hl)
theorem push_below {W W' : World} {o : Obj} {v : Value} {B n : Nat} {e : TypeId} {s : Nat} {xs : List Value} (hgr : (W.alloc o).grownBy W' v.ownBlock) (hown : W.ownsRow B e s v n xs) (hB : B ≤ W.heap.size) : Below B W W' :=
  ((Below.refl _ W).alloc hB o).grown hgr (by simp; omega) (fun k hk => (hown.lt k hk).1)

/-- 'append([]T(nil), x...)': a copy of a row. -/
theorem wpList_append_row {P : Program} {α : Type} {w : World} {ops : Array Oper} {rest : List Oper} {o : Oper} {a : Act} {Q : Exit → Act → World → Prop} (hgd : o.guard = none) (s x : Operand) (t e : TypeId) (z : Value) (k bytes : Nat)
    (ho : o.op = .call { callee := .builtin .append, args := #[s, x], argTypes := #[t, t] }) (ht : P.underlying t = some (.slice e)) (hinfo : (P.info? e).map (fun i => (i.zero, i.size, i.bytes)) = some (some z, k, bytes)) (hzs : z.cells.size = k) (hk : 0 < k)
    (B : Nat) {F : Nat → Prop} {R : α → List Value → Prop} {xs : List α} {v : Value} (hs : a.eval s = .slice none 0 0) (hx : a.eval x = v) (hrw : RW F k R w xs v) (hR : ∀ x us, R x us → ∀ u ∈ us, u.oneCell' = true) (hb : 1000000 * bytes ≤ 140737488355328) (hB : B ≤ w.heap.size)
    (h : ∀ v' w', OR B e k R w' xs v' → w.grownBy w' none → wpList P ops Q rest (a.put o.dst v') w') : wpList P ops Q (o :: rest) a w := by
  obtain ⟨i0, hi, hz0, hz1, hz2⟩ := info_parts hinfo
  obtain ⟨ad, c, rfl, ⟨hm, hc⟩, hrow⟩ := hrw
  have hex : ∃ uss : List (List Value), uss.length = xs.length ∧ ∀ i (h' : i < uss.length), ∀ (h : i < xs.length), uss[i].length = k ∧ R xs[i] uss[i] ∧ ∀ ad', ad = some ad' → ∀ j, j < k → w.cell? (ad'.add (i * k + j)) = uss[i][j]? := by
    by_cases h0 : 0 < xs.length
    · obtain ⟨blk, off, rfl, hl, _, hel⟩ := hrow h0
      refine ⟨List.ofFn fun i : Fin xs.length => Classical.choose (hel i.1 i.2), by simp, fun i h' hi => ?_⟩
      rw [List.getElem_ofFn]
      obtain ⟨h1, h2, h3⟩ := Classical.choose_spec (hel i hi)
      refine ⟨h1, h3, fun ad' e j hj => ?_⟩
      obtain rfl : (⟨blk, off, none⟩ : Addr) = ad' := by simpa using e
      rw [addp, ← Nat.add_assoc]
      exact h2 j hj
    · refine ⟨[], by simp; omega, fun i h' => by simp at h'⟩
  obtain ⟨uss, hul, hue⟩ := hex
  have hall : ∀ u ∈ uss, u.length = k := fun u hu => by
    obtain ⟨i, hi, rfl⟩ := List.getElem_of_mem hu
    exact (hue i hi (by omega)).1
  have hfl : uss.flatten.length = xs.length * k := by
    rw [← hul]
    clear hul hue
    induction uss with
    | nil => simp
    | cons u us ih => rw [List.flatten_cons, List.length_append, ih (fun x hx => hall x (List.mem_cons_of_mem _ hx)), hall u (by simp), List.length_cons, Nat.succ_mul]; omega
  cases ad with
  | none =>
    have hx0 : xs = [] := by
      cases xs with
      | nil => rfl
      | cons y ys => obtain ⟨blk, off, e, _⟩ := hrow (by simp); cases e
    subst hx0
    obtain rfl := hc rfl
    exact wpList_append_own_none hgd s x t ho B e i0 k ht hi (.slice none 0 0) 0 [] hs (World.ownsRow_nil w B e k) hx (h _ w OR.nil (World.grownBy.refl _ _))
  | some ad' =>
    refine wpList_append_own w hgd s x t ho B e i0 z k bytes ht hi hz0 hz1 hz2 hzs hk (.slice none 0 0) 0 [] hs (World.ownsRow_nil w B e k) ad' xs.length c uss.flatten hx hfl (fun j u hj => ?_) (fun u hu => ?_) (by unfold maxLen; omega) (Nat.le_trans (Nat.mul_le_mul_right _ (by omega)) hb) hB (fun v' w' h1 h2 _ => h v' w' ⟨⟨uss, hul, fun i hi h' => ⟨(hue i h' hi).1, (hue i h' hi).2.1⟩, by simpa using h1⟩, hm⟩ h2)
    · have hj0 : j < xs.length * k := by rw [← hfl]; exact (List.getElem?_eq_some_iff.1 hj).1
      have hi : j / k < xs.length := by rw [Nat.div_lt_iff_lt_mul hk]; exact hj0
      have hjm : j % k < k := Nat.mod_lt _ hk
      have he : j / k * k + j % k = j := by rw [Nat.mul_comm]; exact Nat.div_add_mod j k
      have h1 := (hue (j / k) (by omega) hi).2.2 ad' rfl (j % k) hjm
      rw [he] at h1
      rw [h1, ← flat_at k uss hall (j / k) (j % k) (by omega) hjm, he]
      exact hj
    · obtain ⟨us, hus, hu'⟩ := List.mem_flatten.1 hu
      obtain ⟨i, hi, rfl⟩ := List.getElem_of_mem hus
      exact hR _ _ (hue i hi (by omega)).2.1 u hu'

/-- A block of the call's own whose cell c is a row. -/
structure KL {α : Type} (RR : (Nat → Prop) → World → α → List Value → Prop) (G : Nat → Prop) (b m : Nat) (E : Nat → Value) (c : Nat) (B : Nat) (e : TypeId) (k : Nat) (xs : List α) (v : Value) (W : World) : Prop where
  bk : BK b m (Upd E c v) W
  row : OR B e k (RR (FF G v) W) W xs v
  bB : b < B
  BW : B ≤ W.heap.size
section
variable {α : Type} {RR : (Nat → Prop) → World → α → List Value → Prop} {G : Nat → Prop} {b m : Nat} {E : Nat → Value} {c B : Nat} {e : TypeId} {k : Nat} {xs : List α} {v : Value} {W W' : World}
theorem KL.cell (h : KL RR G b m E c B e k xs v W) (hc : c < m) : W.cell? ⟨b, c, none⟩ = some v := by
  have := h.bk.ev c hc
  rwa [Upd, if_pos rfl] at this
theorem KL.cellA (h : KL RR G b m E c B e k xs v W) (hc : c < m) (o : Obj) : (W.alloc o).cell? ⟨b, c, none⟩ = some v := by
  have := (h.bk.al o).ev c hc
  rwa [Upd, if_pos rfl] at this
theorem KL.fzA (h : KL RR G b m E c B e k xs v W) (i : Nat) (o : Obj) : (W.alloc o).frozen? ⟨b, i, none⟩ = false := (h.bk.al o).fz i
theorem KL.keep (h : KL RR G b m E c B e k xs v W) (hR : ∀ x us, RR (FF G v) W x us → RR (FF G v) W' x us) (hs : W.heap.size ≤ W'.heap.size) (hb : W'.heap[b]? = W.heap[b]?) (hr : ∀ j, B ≤ j → j < W.heap.size → W'.heap[j]? = W.heap[j]?) : KL RR G b m E c B e k xs v W' :=
  ⟨h.bk.keep hb hs, h.row.keep hr hR, h.bB, Nat.le_trans h.BW hs⟩
/-- A call that leaves all but the choices alone. -/
theorem KL.go {g : Nat} (h : KL RR G b m E c B e k xs v W) (ha : Apart g W W') (hg : g < b) (hG : ¬ G g) (hRR : ∀ (F F' : Nat → Prop) (w w' : World), Stay F F' w w' → ∀ x us, RR F w x us → RR F' w' x us) : KL RR G b m E c B e k xs v W' :=
  h.keep (hRR _ _ _ _ ⟨ha.1.size, fun j hj hl => ⟨hj, ha.block (fun e => hG (e ▸ hj.1)) hl⟩⟩) ha.1.size (ha.block (Nat.ne_of_gt hg) h.bk.lt) (fun j h1 h2 => ha.block (by have := h.bB; omega) h2)
theorem KL.push {g' n' cap : Nat} {o : Obj} (h : KL RR G b m E c B e k xs v W) (hc : c < m) (hGb : ¬ G b) (hgr : (W.alloc o).grownBy W' v.ownBlock) (hat : v.ownBlock = some g' ∨ W.heap.size ≤ g') (cs : List Value)
    (hcs : W.ownsRow B e k v xs.length cs)
    (hpush : ∀ (R' : α → List Value → Prop) (W' : World) (x : α) (us : List Value) (v' : Value), (∀ x us, RR (FF G v) W x us → R' x us) → us.length = k → R' x us → xs.length + 1 ≤ 1000000 → W'.ownsRow B e k v' (xs.length + 1) (cs ++ us) → OR B e k R' W' (xs ++ [x]) v')
    (hRR : ∀ (F F' : Nat → Prop) (w w' : World), Stay F F' w w' → ∀ x us, RR F w x us → RR F' w' x us) (x : α) (us : List Value) (hu : us.length = k) (hx : RR (FF G v) W x us) (hl : xs.length + 1 ≤ 1000000)
    (ho : W'.ownsRow B e k (.slice (some ⟨g', 0, none⟩) n' cap) (xs.length + 1) (cs ++ us)) :
    KL RR G b m E c B e k (xs ++ [x]) (.slice (some ⟨g', 0, none⟩) n' cap) (W'.setCell ⟨b, c, none⟩ (.slice (some ⟨g', 0, none⟩) n' cap)) := by
  have hst := push_stay (G := G) (n := n') (cap := cap) hgr hat
  have hB := push_below hgr hcs h.BW
  have hset : ∀ j, j ≠ b → (W'.setCell ⟨b, c, none⟩ (.slice (some ⟨g', 0, none⟩) n' cap)).heap[j]? = W'.heap[j]? := fun j hj => Below.heap_setCell _ _ _ j (by simpa using hj)
  have hst2 : Stay (FF G v) (FF G (.slice (some ⟨g', 0, none⟩) n' cap)) W (W'.setCell ⟨b, c, none⟩ (.slice (some ⟨g', 0, none⟩) n' cap)) :=
    ⟨by simpa using hst.1, fun j hj hl => ⟨(hst.2 j hj hl).1, (hset j (fun e => hGb (e ▸ hj.1))).trans (hst.2 j hj hl).2⟩⟩
  refine ⟨(((h.bk.on hB h.bB).set c hc _).cong fun i hi => ?_), ?_, h.bB, by simpa using Nat.le_trans h.BW hB.size⟩
  · unfold Upd
    split <;> rfl
  · exact hpush _ _ x us _ (hRR _ _ _ _ hst2) hu (hRR _ _ _ _ hst2 _ _ hx) hl (own_keep ho fun j h1 _ => hset j (by have := h.bB; omega))
end

end Go.Proofs.Ytmcnhphmglmmeaa

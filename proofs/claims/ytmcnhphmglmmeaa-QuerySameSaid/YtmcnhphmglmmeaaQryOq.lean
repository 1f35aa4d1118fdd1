/-
  What the region of Odd wants that appends a stage.
-/
import Derived.Test.YtmcnhphmglmmeaaQryOp
import Derived.Test.YtmcnhphmglmmeaaFactsD
namespace Go.Proofs.Ytmcnhphmglmmeaa
open Go.RowKit

/-- 'append([]T(nil), x...)' at one operation. -/
theorem wp_append_row {P : Program} {α : Type} {w : World} {o : Oper} {a : Act} {K : Act → World → Prop} {Q : Exit → Act → World → Prop} (s x : Operand) (t e : TypeId) (z : Value) (k bytes : Nat)
    (ho : o.op = .call { callee := .builtin .append, args := #[s, x], argTypes := #[t, t] }) (ht : P.underlying t = some (.slice e)) (hinfo : (P.info? e).map (fun i => (i.zero, i.size, i.bytes)) = some (some z, k, bytes)) (hzs : z.cells.size = k) (hk : 0 < k)
    (B : Nat) {F : Nat → Prop} {R : α → List Value → Prop} {xs : List α} {v : Value} (hs : a.eval s = .slice none 0 0) (hx : a.eval x = v) (hrw : RW F k R w xs v) (hR : ∀ x us, R x us → ∀ u ∈ us, u.oneCell' = true) (hb : 1000000 * bytes ≤ 140737488355328) (hB : B ≤ w.heap.size)
    (h : ∀ v' w', OR B e k R w' xs v' → w.grownBy w' none → K (a.put o.dst v') w') : o.wp P a w K Q := by
  obtain ⟨i0, hi, hz0, hz1, hz2⟩ := info_parts hinfo
  obtain ⟨ad, c, rfl, ⟨hm, hc⟩, hrow⟩ := hrw
  have hex : ∃ uss : List (List Value), uss.length = xs.length ∧ ∀ i (h' : i < uss.length), ∀ (h : i < xs.length), uss[i].length = k ∧ R xs[i] uss[i] ∧ ∀ ad', ad = some ad' → ∀ j, j < k → w.cell? (ad'.add (i * k + j)) = uss[i][j]? := by
    by_cases h0 : 0 < xs.length
    · obtain ⟨blk, off, rfl, hl, _, hel⟩ := hrow h0
      refine ⟨List.ofFn fun i : Fin xs.length => Classical.choose (hel i.1 i.2), by simp, fun i h' hi => ?_⟩
      rw [List.getElem_ofFn]
      obtain ⟨h1, h2, h3⟩ := Classical.choose_spec (hel i hi)
      refine ⟨h1, h3, fun ad' e j hj => ?_⟩
      obtain rfl : (⟨blk, off, none⟩ : Addr) = ad' := by simpa using e
      rw [addp, ← Nat.add_assoc]
      exact h2 j hj
    · refine ⟨[], by simp; omega, fun i h' => by simp at h'⟩
  obtain ⟨uss, hul, hue⟩ := hex
  have hall : ∀ u ∈ uss, u.length = k := fun u hu => by
    obtain ⟨i, hi, rfl⟩ := List.getElem_of_mem hu
    exact (hue i hi (by omega)).1
  have hfl : uss.flatten.length = xs.length * k := by
    rw [← hul]
    clear hul hue
    induction uss with
    | nil => simp
    | cons u us ih => rw [List.flatten_cons, List.length_append, ih (fun x hx => hall x (List.mem_cons_of_mem _ hx)), hall u (by simp), List.length_cons, Nat.succ_mul]; omega
  cases ad with
  | none =>
    have hx0 : xs = [] := by
      cases xs with
      | nil => rfl
      | cons y ys => obtain ⟨blk, off, e, _⟩ := hrow (by simp); cases e
    subst hx0
    obtain rfl := hc rfl
    have hrun := run_append_owned_none (P := P) (w := w) B t o.type e i0 k ht hi (.slice none 0 0) 0 [] (World.ownsRow_nil w B e k)
    have hx' : a.eval x = .slice none 0 0 := hx
    unfold Oper.wp
    simp [execOp, ho, resolve, invoke, builtin, hs, hx', hrun, Result.andThen]
    exact h _ w OR.nil (World.grownBy.refl _ _)
  | some ad' =>
    refine wp_append_own w s x t ho B e i0 z k bytes ht hi hz0 hz1 hz2 hzs hk (.slice none 0 0) 0 [] hs (World.ownsRow_nil w B e k) ad' xs.length c uss.flatten hx hfl (fun j u hj => ?_) (fun u hu => ?_) (by unfold maxLen; omega) (Nat.le_trans (Nat.mul_le_mul_right _ (by omega)) hb) hB (fun v' w' h1 h2 _ => h v' w' ⟨⟨uss, hul, fun i hi h' => ⟨(hue i h' hi).1, (hue i h' hi).2.1⟩, by simpa using h1⟩, hm⟩ h2)
    · have hj0 : j < xs.length * k := by rw [← hfl]; exact (List.getElem?_eq_some_iff.1 hj).1
      have hi : j / k < xs.length := by rw [Nat.div_lt_iff_lt_mul hk]; exact hj0
      have hjm : j % k < k := Nat.mod_lt _ hk
      have he : j / k * k + j % k = j := by rw [Nat.mul_comm]; exact Nat.div_add_mod j k
      have h1 := (hue (j / k) (by omega) hi).2.2 ad' rfl (j % k) hjm
      rw [he] at h1
      rw [h1, ← flat_at k uss hall (j / k) (j % k) (by omega) hjm, he]
      exact hj
    · obtain ⟨us, hus, hu'⟩ := List.mem_flatten.1 hu
      obtain ⟨i, hi, rfl⟩ := List.getElem_of_mem hus
      exact hR _ _ (hue i hi (by omega)).2.1 u hu'

/-- All blocks but the choices' and b stay. -/
def OS (g b : Nat) (W W' : World) : Prop := W.heap.size ≤ W'.heap.size ∧ ∀ k, k < W.heap.size → k ≠ g → k ≠ b → W'.heap[k]? = W.heap[k]?
theorem OS.refl (g b : Nat) (W : World) : OS g b W W := ⟨Nat.le_refl _, fun _ _ _ _ => rfl⟩
theorem OS.trans {g b : Nat} {W W' W'' : World} (h : OS g b W W') (h' : OS g b W' W'') : OS g b W W'' := ⟨Nat.le_trans h.1 h'.1, fun k h1 h2 h3 => (h'.2 k (Nat.lt_of_lt_of_le h1 h.1) h2 h3).trans (h.2 k h1 h2 h3)⟩
theorem OS.al (g b : Nat) (W : World) (o : Obj) : OS g b W (W.alloc o) := ⟨by simp, fun k h _ _ => ((Below.refl _ W).alloc (Nat.le_refl _) o).block k h⟩
theorem OS.ap {g b : Nat} {W W' : World} (h : Apart g W W') : OS g b W W' := ⟨h.1.size, fun _ h1 h2 _ => h.block h2 h1⟩
theorem OS.gr {g b : Nat} {W W' : World} (h : W.grownBy W' none) : OS g b W W' := ⟨h.size, fun k h1 _ _ => h.block k h1 (by simp)⟩
def Bq (w1 W : World) (q : Nat) (o : Obj) : Prop := w1.heap.size ≤ q ∧ q < W.heap.size ∧ W.heap[q]? = some o
theorem Bq.go {g b : Nat} {w1 W W' : World} {q : Nat} {o : Obj} (h : Bq w1 W q o) (hS : OS g b W W') (hg : g < w1.heap.size) (hb : b < w1.heap.size) : Bq w1 W' q o := ⟨h.1, Nat.lt_of_lt_of_le h.2.1 hS.1, (hS.2 q h.2.1 (by have := h.1; omega) (by have := h.1; omega)).trans h.2.2⟩
theorem Bq.new {w1 W : World} (h : w1.heap.size ≤ W.heap.size) (o : Obj) : Bq w1 (W.alloc o) W.heap.size o := ⟨h, by simp, heap_alloc_new W o⟩
def OI (g : Nat) (w w1 : World) (E : Nat → Value) (D : Nat → Prop) (W : World) : Prop := GD g w W ∧ OS g w.heap.size w1 W ∧ (¬ D 17 → BK w.heap.size 19 E W)
def FI (w1 : World) (v5 : Value) (G1 : Nat → Prop) : Nat → Prop := fun k => FF G1 v5 k ∨ w1.heap.size ≤ k
def OG (g : Nat) (w w1 : World) (v5 : Value) (G1 : Nat → Prop) (rows : List QS) (D : Nat → Prop) (k : Nat) (v : Value) (W : World) : Prop :=
  match k with
  | 0 => v = .pointer (some ⟨w.heap.size, 5, none⟩)
  | 1 => v = v5
  | 2 => ¬ D 15 → OR w1.heap.size 41 7 (SR (FF G1 v5) W) W rows v
  | 3 => v = .pointer (some ⟨g, 0, none⟩)
  | 4 => ∃ k : Nat, k < 2 ∧ v = .int .i64 k
  | 5 => ∃ x : Bool, v = .bool x
  | 6 => ∃ q, v = .slice (some ⟨q, 0, none⟩) 3 3 ∧ (¬ D 15 → Bq w1 W q srnO)
  | 7 => v = .pointer (some ⟨g, 0, none⟩)
  | 8 => ∃ k : Nat, k < 3 ∧ v = .int .i64 k
  | 9 => ∃ q k, k < 3 ∧ v = .pointer (some ⟨q, k, none⟩) ∧ (¬ D 15 → Bq w1 W q srnO)
  | 10 => ∃ y : List UInt8, v = .string ⟨y.toArray⟩
  | 11 => v = .pointer (some ⟨g, 0, none⟩)
  | 12 => ¬ D 15 → ∃ t, TG (fun k => w1.heap.size ≤ k) W t v
  | 15 => ∃ (ss : List QS), OR w1.heap.size 41 7 (SR (FF (FI w1 v5 G1) v) W) W ss v
  | 16 => v = .pointer (some ⟨w.heap.size, 5, none⟩)
  | _ => True
theorem OG.keep {g : Nat} {w w1 : World} {v5 : Value} {G1 : Nat → Prop} {rows : List QS} {D : Nat → Prop} {k i : Nat} {v : Value} {W W' : World} (hg : g < w1.heap.size) (hb : w.heap.size < w1.heap.size) (hG1 : ∀ k, G1 k → k ≠ g ∧ k ≠ w.heap.size) (hS : OS g w.heap.size W W')
    (h : OG g w w1 v5 G1 rows D k v W) : OG g w w1 v5 G1 rows (andD D i) k v W' := by
  have hn : ¬ andD D i 15 → ¬ D 15 := fun h1 h2 => h1 (.inl h2)
  have hF : Stay (FF G1 v5) (FF G1 v5) W W' := ⟨hS.1, fun k hk hl => ⟨hk, hS.2 k hl (hG1 k hk.1).1 (hG1 k hk.1).2⟩⟩
  have hW : Stay (fun k => w1.heap.size ≤ k) (fun k => w1.heap.size ≤ k) W W' := ⟨hS.1, fun k hk hl => ⟨hk, hS.2 k hl (by omega) (by omega)⟩⟩
  unfold OG at *
  split at h
  · exact h
  · exact h
  · exact fun hd => (h (hn hd)).keep (fun j h1 h2 => hS.2 j h2 (by omega) (by omega)) (fun x us hx => SR.go hF x us hx)
  · exact h
  · exact h
  · exact h
  · obtain ⟨q, h1, h2⟩ := h
    exact ⟨q, h1, fun hd => (h2 (hn hd)).go hS hg hb⟩
  · exact h
  · exact h
  · obtain ⟨q, k, h0, h1, h2⟩ := h
    exact ⟨q, k, h0, h1, fun hd => (h2 (hn hd)).go hS hg hb⟩
  · exact h
  · exact h
  · intro hd
    obtain ⟨t, ht⟩ := h (hn hd)
    exact ⟨t, TG.go hW _ _ ht⟩
  · obtain ⟨ss, hss⟩ := h
    exact ⟨ss, hss.keep (fun j h1 h2 => hS.2 j h2 (by omega) (by omega)) (fun x us hx => SR.go ⟨hS.1, fun k hk hl => ⟨hk, hS.2 k hl (hk.1.elim (fun h => (hG1 k h.1).1) (fun h => by omega)) (hk.1.elim (fun h => (hG1 k h.1).2) (fun h => by omega))⟩⟩ x us hx)⟩
  · exact h
  · trivial
/-- Behind the append nothing of the rest is wanted any more. -/
theorem OG.keep15 {g : Nat} {w w1 : World} {v5 : Value} {G1 : Nat → Prop} {rows : List QS} {D : Nat → Prop} {k : Nat} {v : Value} {W W' : World} (hk : k ≠ 15) (h : OG g w w1 v5 G1 rows D k v W) : OG g w w1 v5 G1 rows (andD D 15) k v W' := by
  have hn : ∀ {p : Prop}, ¬ andD D 15 15 → p := fun h1 => (h1 (.inr rfl)).elim
  unfold OG at *
  split at h
  · exact h
  · exact h
  · exact hn
  · exact h
  · exact h
  · exact h
  · obtain ⟨q, h1, h2⟩ := h
    exact ⟨q, h1, hn⟩
  · exact h
  · exact h
  · obtain ⟨q, k, h0, h1, h2⟩ := h
    exact ⟨q, k, h0, h1, hn⟩
  · exact h
  · exact h
  · exact hn
  · exact absurd rfl hk
  · exact h
  · trivial
def OX (w w1 : World) (E : Nat → Value) (D : Nat → Prop) (s : Nat → Value) (W : World) : Prop :=
  (D 2 → D 12 → ¬ D 15 → ∃ t, TG (FF (fun k => w1.heap.size ≤ k) (s 2)) W t (s 12)) ∧
  (D 13 → D 12 ∧ ∃ (x : Bool) (y : List UInt8) (op : Int) (nm tx : List UInt8) (num : Int) (a : Option Addr) (n c : Nat), s 13 = .agg #[.bool x, .string ⟨y.toArray⟩, .int .i64 op, .string ⟨nm.toArray⟩, .string ⟨tx.toArray⟩, .int .i64 num, .slice a n c] ∧ s 12 = .agg #[.int .i64 op, .string ⟨nm.toArray⟩, .string ⟨tx.toArray⟩, .int .i64 num, .slice a n c]) ∧
  (D 14 → ¬ D 15 → D 12 ∧ ∃ (q : Nat) (x : Bool) (y : List UInt8) (op : Int) (nm tx : List UInt8) (num : Int) (a : Option Addr) (n c : Nat), s 14 = .slice (some ⟨q, 0, none⟩) 1 1 ∧ Bq w1 W q (.cells #[.bool x, .string ⟨y.toArray⟩, .int .i64 op, .string ⟨nm.toArray⟩, .string ⟨tx.toArray⟩, .int .i64 num, .slice a n c] 41) ∧ s 12 = .agg #[.int .i64 op, .string ⟨nm.toArray⟩, .string ⟨tx.toArray⟩, .int .i64 num, .slice a n c]) ∧
  (D 17 → D 15 ∧ BK w.heap.size 19 (Upd E 5 (s 15)) W)
theorem OX.none {w w1 W : World} {E : Nat → Value} {s : Nat → Value} : OX w w1 E (fun _ => False) s W := ⟨fun h => h.elim, fun h => h.elim, fun h => h.elim, fun h => h.elim⟩
section
variable {g : Nat} {w w1 W W' : World} {E : Nat → Value} {D : Nat → Prop} {s s' : Nat → Value} {i : Nat}
theorem OX.c1 (h : OX w w1 E D s W) (hg : g < w1.heap.size) (hb : w.heap.size < w1.heap.size) (hS : OS g w.heap.size W W') (hs : ∀ k, D k → s' k = s k) (h2 : i ≠ 2) (h12 : i ≠ 12) : andD D i 2 → andD D i 12 → ¬ andD D i 15 → ∃ t, TG (FF (fun k => w1.heap.size ≤ k) (s' 2)) W' t (s' 12) := fun d2 d12 d15 => by
  have e2 := d2.resolve_right (fun e => h2 e.symm)
  have e12 := d12.resolve_right (fun e => h12 e.symm)
  obtain ⟨t, ht⟩ := h.1 e2 e12 (fun h => d15 (.inl h))
  rw [hs 2 e2, hs 12 e12]
  exact ⟨t, TG.go ⟨hS.1, fun k hk hl => ⟨hk, hS.2 k hl (by have := hk.1; omega) (by have := hk.1; omega)⟩⟩ _ _ ht⟩
theorem OX.keep (h : OX w w1 E D s W) (hg : g < w1.heap.size) (hb : w.heap.size < w1.heap.size) (hS : OS g w.heap.size W W') (hbb : W'.heap[w.heap.size]? = W.heap[w.heap.size]?) (hs : ∀ k, D k → s' k = s k) (h2 : i ≠ 2) (h12 : i ≠ 12) (h13 : i ≠ 13) (h14 : i ≠ 14) (h17 : i ≠ 17) : OX w w1 E (andD D i) s' W' := by
  refine ⟨h.c1 hg hb hS hs h2 h12, fun d => ?_, fun d d15 => ?_, fun d => ?_⟩
  · have e := d.resolve_right (fun e => h13 e.symm)
    obtain ⟨e12, hh⟩ := h.2.1 e
    rw [hs 13 e, hs 12 e12]
    exact ⟨.inl e12, hh⟩
  · have e := d.resolve_right (fun e => h14 e.symm)
    obtain ⟨e12, q, x, y, op, nm, tx, num, a, n, c, h1, h3, h4⟩ := h.2.2.1 e (fun h => d15 (.inl h))
    rw [hs 14 e, hs 12 e12]
    exact ⟨.inl e12, q, x, y, op, nm, tx, num, a, n, c, h1, h3.go hS hg hb, h4⟩
  · have e := d.resolve_right (fun e => h17 e.symm)
    obtain ⟨e15, hh⟩ := h.2.2.2 e
    rw [hs 15 e15]
    exact ⟨.inl e15, hh.keep hbb hS.1⟩
theorem OX.c234 (h : OX w w1 E D s W) (hg : g < w1.heap.size) (hb : w.heap.size < w1.heap.size) (hS : OS g w.heap.size W W') (hbb : W'.heap[w.heap.size]? = W.heap[w.heap.size]?) (hs : ∀ k, D k → s' k = s k) (h1 : andD D i 2 → andD D i 12 → ¬ andD D i 15 → ∃ t, TG (FF (fun k => w1.heap.size ≤ k) (s' 2)) W' t (s' 12)) (h13 : i ≠ 13) (h14 : i ≠ 14) (h17 : i ≠ 17) : OX w w1 E (andD D i) s' W' := by
  refine ⟨h1, fun d => ?_, fun d d15 => ?_, fun d => ?_⟩
  · have e := d.resolve_right (fun e => h13 e.symm)
    obtain ⟨e12, hh⟩ := h.2.1 e
    rw [hs 13 e, hs 12 e12]
    exact ⟨.inl e12, hh⟩
  · have e := d.resolve_right (fun e => h14 e.symm)
    obtain ⟨e12, q, x, y, op, nm, tx, num, a, n, c, h1, h3, h4⟩ := h.2.2.1 e (fun h => d15 (.inl h))
    rw [hs 14 e, hs 12 e12]
    exact ⟨.inl e12, q, x, y, op, nm, tx, num, a, n, c, h1, h3.go hS hg hb, h4⟩
  · have e := d.resolve_right (fun e => h17 e.symm)
    obtain ⟨e15, hh⟩ := h.2.2.2 e
    rw [hs 15 e15]
    exact ⟨.inl e15, hh.keep hbb hS.1⟩
theorem OI.keep (h : OI g w w1 E D W) (hgd : GD g w W') (hS : OS g w.heap.size W W') (hbb : W'.heap[w.heap.size]? = W.heap[w.heap.size]?) : OI g w w1 E (andD D i) W' :=
  ⟨hgd, h.2.1.trans hS, fun hn => (h.2.2 (fun hh => hn (.inl hh))).keep hbb hS.1⟩
end
theorem srn_blk {k : Nat} (hk : k < 3) {W : World} {b : Nat} (h : W.heap[b]? = some srnO) : ∃ y : List UInt8, W.cell? ⟨b, k, none⟩ = some (.string ⟨y.toArray⟩) := by
  unfold srnO at h
  rw [Lib.cell_of_heap h]
  match k, hk with
  | 0, _ => exact ⟨_, rfl⟩
  | 1, _ => exact ⟨_, rfl⟩
  | 2, _ => exact ⟨_, rfl⟩
theorem sr_one {F : Nat → Prop} {w : World} (x : QS) (us : List Value) (h : SR F w x us) : ∀ u ∈ us, u.oneCell' = true := by
  obtain ⟨tl, rfl, ht⟩ := h
  obtain ⟨op, nm, tx, num, kids, a, c, e, _⟩ := ht.open
  injection e with e
  have := congrArg Array.toList e
  simp only at this
  subst this
  exact stage_one _ _ _ _ _ _ _ _ _

end Go.Proofs.Ytmcnhphmglmmeaa

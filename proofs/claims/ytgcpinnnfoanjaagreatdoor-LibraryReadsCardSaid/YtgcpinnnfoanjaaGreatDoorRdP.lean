/-
 Joined: RpE, RpF, RpG, RpH.
-/
import Derived.Test.YtgcpinnnfoanjaaGreatDoorRdO
import Derived.Test.YtgcpinnnfoanjaaGreatDoorRdM
namespace Go.Proofs.YtgcpinnnfoanjaaGreatDoor
open Go.RowKit
theorem ritem_any (l : List UInt8) (i : Nat) (hl : l.length ≤ 1000) (hi : i ≤ l.length) (w : World) : Calls Tryz.prog 151 #[.agg #[.string ⟨l.toArray⟩, .int .i64 (i : Int), .int .i64 0, .int .i64 0]] w (RItP l (itemM l false i) w) := by
 by_cases hbad : l.length ≤ i ∨ (i < l.length ∧ pk l i = 93) ∨ (i < l.length ∧ pk l i ≠ 93 ∧ pk l i = 45) ∨ (i < l.length ∧ pk l i ≠ 93 ∧ pk l i ≠ 45 ∧ pk l i = 94) ∨ (i < l.length ∧ pk l i ≠ 93 ∧ pk l i ≠ 45 ∧ pk l i ≠ 94 ∧ pk l i < 32) ∨ (i < l.length ∧ pk l i ≠ 93 ∧ pk l i ≠ 45 ∧ pk l i ≠ 94 ∧ 32 ≤ pk l i ∧ 126 < pk l i)
 ·exact ritem_bad l i hl hi w hbad
 ·by_cases h92 : pk l i = 92
  ·exact ritem_esc l i hl w (by omega) h92
  ·exact ritem_self l i hl w (by omega) (by omega) h92
def RfP (l : List UInt8) (r : Out NT) (w : World) (en : Ending) (w' : World) : Prop :=
 ∃ (j e bad : Nat) (t : NT) (v : Value), en = .returned (.tuple #[.agg #[.string ⟨l.toArray⟩, .int .i64 (j : Int), .int .i64 (e : Int), .int .i64 (bad : Int)], v]) ∧ NG (fun k => w.heap.size ≤ k) w' t v ∧ Below w.heap.size w w' ∧
  (match r with
  | .ok (t', j') => (j = j' ∧ e = 0 ∧ bad = 0) ∧ t = t' ∧ j ≤ l.length
  | .error (k, x) => (e = x ∧ x ≠ 0 ∧ bad = k) ∧ j ≤ 2000)
def stN (w W : World) (x y z u v t : Value) : World := (((((W.setCell ⟨w.heap.size + 1 + 1, 0, none⟩ x).setCell ⟨w.heap.size + 1 + 1, 1, none⟩ y).setCell ⟨w.heap.size + 1 + 1, 2, none⟩ z).setCell ⟨w.heap.size + 1 + 1, 3, none⟩ u).setCell ⟨w.heap.size + 1 + 1, 4, none⟩ v).setCell ⟨w.heap.size + 1 + 1, 5, none⟩ t
def NbA (w W : World) (x y z u v t : Value) : Prop := W.heap[w.heap.size + 1 + 1]? = some (.cells #[x, y, z, u, v, t] 38 (0, 0))
structure RN (w : World) (l : List UInt8) (i e bad : Nat) (W : World) : Prop where
 ri : RI w l i e bad W
 nb : ∃ x y z u v t, NbA w W x y z u v t
section
variable {i e bad : Nat} {l : List UInt8} {w W W' : World}
theorem RN.start (w : World) (l : List UInt8) (i e bad : Nat) : RN w l i e bad (((w.alloc (.cells #[.string ⟨l.toArray⟩, .int .i64 (i : Int), .int .i64 (e : Int), .int .i64 (bad : Int)] 111)).alloc (.cells #[.string ⟨#[]⟩, .int .i64 0, .int .i64 0, .int .i64 0] 111)).alloc (.cells #[.int .i64 0, .slice none 0 0, .string ⟨#[]⟩, .slice none 0 0, .int .i64 0, .int .i64 0] 38)) := by
 refine ⟨(RI.start w l i e bad).go (al_below _ _), .int .i64 0, .slice none 0 0, .string ⟨#[]⟩, .slice none 0 0, .int .i64 0, .int .i64 0, ?_⟩
 have := heap_alloc_new ((w.alloc (.cells #[.string ⟨l.toArray⟩, .int .i64 (i : Int), .int .i64 (e : Int), .int .i64 (bad : Int)] 111)).alloc (.cells #[.string ⟨#[]⟩, .int .i64 0, .int .i64 0, .int .i64 0] 111)) (.cells #[.int .i64 0, .slice none 0 0, .string ⟨#[]⟩, .slice none 0 0, .int .i64 0, .int .i64 0] 38)
 rw [show ((w.alloc (.cells #[.string ⟨l.toArray⟩, .int .i64 (i : Int), .int .i64 (e : Int), .int .i64 (bad : Int)] 111)).alloc (.cells #[.string ⟨#[]⟩, .int .i64 0, .int .i64 0, .int .i64 0] 111)).heap.size = w.heap.size + 1 + 1 by simp] at this
 exact this
theorem RN.sz (h : RN w l i e bad W) : w.heap.size + 1 + 1 < W.heap.size := by
 obtain ⟨x, y, z, u, v, t, h⟩ := h.nb
 exact (Array.getElem?_eq_some_iff.1 h).1
theorem RN.on (h : RN w l i e bad W) {B : Nat} (k : Below B W W') (hB : w.heap.size + 1 + 1 < B) : RN w l i e bad W' := by
 obtain ⟨x, y, z, u, v, t, hr⟩ := h.nb
 exact ⟨h.ri.on k (by omega), x, y, z, u, v, t, (k.block _ hB).trans hr⟩
theorem RN.go (h : RN w l i e bad W) (k : Below W.heap.size W W') : RN w l i e bad W' := h.on k h.sz
theorem RN.to (h : RN w l i e bad W) (j : Nat) : RN w l j e bad (W.setCell ⟨w.heap.size, 1, none⟩ (.int .i64 (j : Int))) := by
 obtain ⟨x, y, z, u, v, t, hr⟩ := h.nb
 exact ⟨h.ri.to j, x, y, z, u, v, t, (heap_setCell_other W ⟨w.heap.size, 1, none⟩ (w.heap.size + 1 + 1) _ (by simp only; omega)).trans hr⟩
theorem RN.put (h : RN w l i e bad W) (i' e' bad' : Nat) : RN w l i' e' bad' ((((W.setCell ⟨w.heap.size, 0, none⟩ (.string ⟨l.toArray⟩)).setCell ⟨w.heap.size, 1, none⟩ (.int .i64 (i' : Int))).setCell ⟨w.heap.size, 2, none⟩ (.int .i64 (e' : Int))).setCell ⟨w.heap.size, 3, none⟩ (.int .i64 (bad' : Int))) := by
 obtain ⟨x, y, z, u, v, t, hr⟩ := h.nb
 refine ⟨h.ri.put i' e' bad', x, y, z, u, v, t, ?_⟩
 unfold NbA
 rw [heap_setCell_other _ _ _ _ (by simp only; omega), heap_setCell_other _ _ _ _ (by simp only; omega), heap_setCell_other _ _ _ _ (by simp only; omega), heap_setCell_other _ _ _ _ (by simp only; omega)]
 exact hr
theorem RN.ns (h : RN w l i e bad W) : (∃ x y z u v t, W.cell? ⟨w.heap.size + 1 + 1, 0, none⟩ = some x ∧ W.cell? ⟨w.heap.size + 1 + 1, 1, none⟩ = some y ∧ W.cell? ⟨w.heap.size + 1 + 1, 2, none⟩ = some z ∧ W.cell? ⟨w.heap.size + 1 + 1, 3, none⟩ = some u ∧ W.cell? ⟨w.heap.size + 1 + 1, 4, none⟩ = some v ∧ W.cell? ⟨w.heap.size + 1 + 1, 5, none⟩ = some t) ∧
  (W.frozen? ⟨w.heap.size + 1 + 1, 0, none⟩ = false ∧ W.frozen? ⟨w.heap.size + 1 + 1, 1, none⟩ = false ∧ W.frozen? ⟨w.heap.size + 1 + 1, 2, none⟩ = false ∧ W.frozen? ⟨w.heap.size + 1 + 1, 3, none⟩ = false ∧ W.frozen? ⟨w.heap.size + 1 + 1, 4, none⟩ = false ∧ W.frozen? ⟨w.heap.size + 1 + 1, 5, none⟩ = false) := by
 obtain ⟨x, y, z, u, v, t, hr⟩ := h.nb
 unfold NbA at hr
 exact ⟨⟨x, y, z, u, v, t, Lib.cell_of_heap hr 0, Lib.cell_of_heap hr 1, Lib.cell_of_heap hr 2, Lib.cell_of_heap hr 3, Lib.cell_of_heap hr 4, Lib.cell_of_heap hr 5⟩, Lib.frozen_of_heap hr 0, Lib.frozen_of_heap hr 1, Lib.frozen_of_heap hr 2, Lib.frozen_of_heap hr 3, Lib.frozen_of_heap hr 4, Lib.frozen_of_heap hr 5⟩
theorem stR_keep (w W : World) (a b c d : Value) {k : Nat} (hk : k ≠ w.heap.size + 1) : (stR w W a b c d).heap[k]? = W.heap[k]? := by
 unfold stR
 rw [heap_setCell_other _ _ _ _ (by simpa using hk), heap_setCell_other _ _ _ _ (by simpa using hk), heap_setCell_other _ _ _ _ (by simpa using hk), heap_setCell_other _ _ _ _ (by simpa using hk)]
theorem stN_keep (w W : World) (x y z u v t : Value) {k : Nat} (hk : k ≠ w.heap.size + 1 + 1) : (stN w W x y z u v t).heap[k]? = W.heap[k]? := by
 unfold stN
 rw [heap_setCell_other _ _ _ _ (by simpa using hk), heap_setCell_other _ _ _ _ (by simpa using hk), heap_setCell_other _ _ _ _ (by simpa using hk), heap_setCell_other _ _ _ _ (by simpa using hk), heap_setCell_other _ _ _ _ (by simpa using hk), heap_setCell_other _ _ _ _ (by simpa using hk)]
theorem stN_size (w W : World) (x y z u v t : Value) : (stN w W x y z u v t).heap.size = W.heap.size := by unfold stN; simp
theorem stR_size (w W : World) (x y z u : Value) : (stR w W x y z u).heap.size = W.heap.size := by unfold stR; simp
theorem stN_below (w W : World) (x y z u v t : Value) : Below w.heap.size W (stN w W x y z u v t) := by
 have hn : w.heap.size ≤ w.heap.size + 1 + 1 := by omega
 unfold stN
 exact ((((((Below.refl _ W).setCell (p := ⟨w.heap.size + 1 + 1, 0, none⟩) hn _).setCell (p := ⟨w.heap.size + 1 + 1, 1, none⟩) hn _).setCell (p := ⟨w.heap.size + 1 + 1, 2, none⟩) hn _).setCell (p := ⟨w.heap.size + 1 + 1, 3, none⟩) hn _).setCell (p := ⟨w.heap.size + 1 + 1, 4, none⟩) hn _).setCell (p := ⟨w.heap.size + 1 + 1, 5, none⟩) hn _
theorem stR_below (w W : World) (x y z u : Value) : Below w.heap.size W (stR w W x y z u) := by
 have hn : w.heap.size ≤ w.heap.size + 1 := by omega
 unfold stR
 exact ((((Below.refl _ W).setCell (p := ⟨w.heap.size + 1, 0, none⟩) hn _).setCell (p := ⟨w.heap.size + 1, 1, none⟩) hn _).setCell (p := ⟨w.heap.size + 1, 2, none⟩) hn _).setCell (p := ⟨w.heap.size + 1, 3, none⟩) hn _
theorem RN.ret (h : RN w l i e bad W) {fn : Func} {P N : Tmp} (hfn : fn.results = #[.cell P 111, .cell N 38]) {tmps : Array Value} (hp : tmps.getD P undef = .pointer (some ⟨w.heap.size + 1, 0, none⟩)) (hn : tmps.getD N undef = .pointer (some ⟨w.heap.size + 1 + 1, 0, none⟩)) {r : Out NT} {j e' bad' : Nat} {t : NT} {v0 v1 v2 v3 v4 v5 : Value}
  (hT : NG (fun k => w.heap.size + 1 + 1 < k) W t (.agg #[v0, v1, v2, v3, v4, v5])) (hr : match r with | .ok (t', j') => (j = j' ∧ e' = 0 ∧ bad' = 0) ∧ t = t' ∧ j ≤ l.length | .error (k, x) => (e' = x ∧ x ≠ 0 ∧ bad' = k) ∧ j ≤ 2000) :
  bodyPost Tryz.prog fn (RfP l r w) Exit.ret { tmps := tmps, defers := [] } (stN w (stR w W (.string ⟨l.toArray⟩) (.int .i64 (j : Int)) (.int .i64 (e' : Int)) (.int .i64 (bad' : Int))) v0 v1 v2 v3 v4 v5) := by
 obtain ⟨a, b, c, d, hrb⟩ := h.ri.rb
 obtain ⟨x, y, z, u, v, s, hnb⟩ := h.nb
 have h1 : (stR w W (.string ⟨l.toArray⟩) (.int .i64 (j : Int)) (.int .i64 (e' : Int)) (.int .i64 (bad' : Int))).heap[w.heap.size + 1]? = _ := st_four hrb
 have h2 := (stN_keep w (stR w W (.string ⟨l.toArray⟩) (.int .i64 (j : Int)) (.int .i64 (e' : Int)) (.int .i64 (bad' : Int))) v0 v1 v2 v3 v4 v5 (k := w.heap.size + 1) (by omega)).trans h1
 have h3 : (stN w (stR w W (.string ⟨l.toArray⟩) (.int .i64 (j : Int)) (.int .i64 (e' : Int)) (.int .i64 (bad' : Int))) v0 v1 v2 v3 v4 v5).heap[w.heap.size + 1 + 1]? = _ := st_six ((stR_keep w W _ _ _ _ (by omega)).trans hnb)
 refine ret_cc hfn hp hn (lv_rp h2) (lv_nd h3) ⟨j, e', bad', t, _, rfl, ?_, ?_, hr⟩
 ·exact NG.go ⟨by rw [stN_size, stR_size]; exact Nat.le_refl _, fun k hk _ => ⟨by omega, (stN_keep _ _ _ _ _ _ _ _ (by omega)).trans (stR_keep _ _ _ _ _ _ (by omega))⟩⟩ _ _ hT
 ·exact (h.ri.bl.trans (stR_below w W _ _ _ _)).trans (stN_below _ _ _ _ _ _ _ _)
theorem RN.ret0 (h : RN w l i e bad W) {fn : Func} {P N : Tmp} (hfn : fn.results = #[.cell P 111, .cell N 38]) {tmps : Array Value} (hp : tmps.getD P undef = .pointer (some ⟨w.heap.size + 1, 0, none⟩)) (hn : tmps.getD N undef = .pointer (some ⟨w.heap.size + 1 + 1, 0, none⟩)) {r : Out NT} {j x k : Nat} (hr : r = .error (k, x)) (hx : x ≠ 0) (hj : j ≤ 2000) :
  bodyPost Tryz.prog fn (RfP l r w) Exit.ret { tmps := tmps, defers := [] } (stN w (stR w W (.string ⟨l.toArray⟩) (.int .i64 (j : Int)) (.int .i64 (x : Int)) (.int .i64 (k : Int))) (.int .i64 0) (.slice none 0 0) (.string ⟨#[]⟩) (.slice none 0 0) (.int .i64 0) (.int .i64 0)) := by
 subst hr
 exact h.ret hfn hp hn (NG.node (rs := []) (kids := []) RW.nil RW.nil 0 [] 0 0 (by simp)) ⟨⟨rfl, hx, rfl⟩, hj⟩
end
def NdV (w : World) (t : NT) (W : World) (v : Value) : Prop := (∃ (op : Int) (ra : Option Addr) (rn rc : Nat) (nm : List UInt8) (a : Option Addr) (n c : Nat) (mn mx : Int), v = .agg #[.int .i64 op, .slice ra rn rc, .string ⟨nm.toArray⟩, .slice a n c, .int .i64 mn, .int .i64 mx]) ∧ NG (fun k => w.heap.size + 1 + 1 < k) W t v
def NdA (w : World) (t : NT) (W : World) : Prop := ∃ v0 v1 v2 v3 v4 v5, NbA w W v0 v1 v2 v3 v4 v5 ∧ NG (fun k => w.heap.size + 1 + 1 < k) W t (.agg #[v0, v1, v2, v3, v4, v5])
def RvN (w : World) (l : List UInt8) (j : Nat) (t : NT) (W W' : World) : Prop := (PAt w l j 0 0 W → PAt w l j 0 0 W') ∧ (∀ v, NdV w t W v → NdV w t W' v) ∧ (NdA w t W → NdA w t W')
theorem RvN.refl (w : World) (l : List UInt8) (j : Nat) (t : NT) (W : World) : RvN w l j t W W := ⟨id, fun _ => id, id⟩
def GvN (w : World) (l : List UInt8) (j : Nat) (A : Value) (t : NT) (k : Nat) (v : Value) (W : World) : Prop :=
 match k with
 | 0 => v = .agg #[.string ⟨l.toArray⟩, .int .i64 (j : Int), .int .i64 0, .int .i64 0]
 | 1 => v = A
 | 2 => NdV w t W v
 | 3 => PAt w l j 0 0 W
 | 4 => NdA w t W
 | _ => True
theorem GvN.keep (w : World) (l : List UInt8) (j : Nat) (A : Value) (t : NT) : ∀ k v W W', RvN w l j t W W' → GvN w l j A t k v W → GvN w l j A t k v W' := by
 intro k v W W' hr hg
 match k with
 | 0 => exact hg
 | 1 => exact hg
 | 2 => exact hr.2.1 v hg
 | 3 => exact hr.1 hg
 | 4 => exact hr.2.2 hg
 | k + 5 => trivial
section
variable {w : World} {l : List UInt8} {j : Nat} {t : NT} {W W' : World}
theorem NG.far {B : Nat} {t : NT} {v : Value} (h : NG (fun k => B < k) W t v) (hs : W.heap.size ≤ W'.heap.size) (hk : ∀ k, B < k → k < W.heap.size → W'.heap[k]? = W.heap[k]?) : NG (fun k => B < k) W' t v := NG.go ⟨hs, fun k h1 h2 => ⟨h1, hk k h1 h2⟩⟩ _ _ h
theorem RvN.on (h : RN w l j 0 0 W) (hb : Below W.heap.size W W') : RvN w l j t W W' := by
 have hz := h.sz
 refine ⟨fun k => (hb.block _ (by omega)).trans k, fun v ⟨h1, h2⟩ => ⟨h1, h2.far hb.size fun k _ hl => hb.block k hl⟩, fun ⟨v0, v1, v2, v3, v4, v5, h1, h2⟩ => ⟨v0, v1, v2, v3, v4, v5, (hb.block _ hz).trans h1, h2.far hb.size fun k _ hl => hb.block k hl⟩⟩
theorem RN.stp (h : RN w l j 0 0 W) : RN w l j 0 0 (stR w W (.string ⟨l.toArray⟩) (.int .i64 (j : Int)) (.int .i64 0) (.int .i64 0)) ∧ RvN w l j t W (stR w W (.string ⟨l.toArray⟩) (.int .i64 (j : Int)) (.int .i64 0) (.int .i64 0)) ∧ PAt w l j 0 0 (stR w W (.string ⟨l.toArray⟩) (.int .i64 (j : Int)) (.int .i64 0) (.int .i64 0)) := by
 obtain ⟨a, b, c, d, hrb⟩ := h.ri.rb
 obtain ⟨x, y, z, u, v, s, hnb⟩ := h.nb
 have h1 : PAt w l j 0 0 (stR w W (.string ⟨l.toArray⟩) (.int .i64 (j : Int)) (.int .i64 0) (.int .i64 0)) := st_four hrb
 have hsz : W.heap.size ≤ (stR w W (.string ⟨l.toArray⟩) (.int .i64 (j : Int)) (.int .i64 0) (.int .i64 0)).heap.size := by rw [stR_size]; exact Nat.le_refl _
 refine ⟨⟨⟨(stR_keep _ _ _ _ _ _ (by omega)).trans h.ri.pb, ⟨_, _, _, _, h1⟩, h.ri.bl.trans (stR_below w W _ _ _ _)⟩, x, y, z, u, v, s, (stR_keep _ _ _ _ _ _ (by omega)).trans hnb⟩, ⟨fun _ => h1, fun v ⟨k1, k2⟩ => ⟨k1, k2.far hsz fun k hk _ => stR_keep _ _ _ _ _ _ (by omega)⟩, fun ⟨v0, v1, v2, v3, v4, v5, k1, k2⟩ => ⟨v0, v1, v2, v3, v4, v5, (stR_keep _ _ _ _ _ _ (by omega)).trans k1, k2.far hsz fun k hk _ => stR_keep _ _ _ _ _ _ (by omega)⟩⟩, h1⟩
theorem RN.stn (h : RN w l j 0 0 W) {v0 v1 v2 v3 v4 v5 : Value} (hT : NG (fun k => w.heap.size + 1 + 1 < k) W t (.agg #[v0, v1, v2, v3, v4, v5])) : RN w l j 0 0 (stN w W v0 v1 v2 v3 v4 v5) ∧ RvN w l j t W (stN w W v0 v1 v2 v3 v4 v5) ∧ NdA w t (stN w W v0 v1 v2 v3 v4 v5) := by
 obtain ⟨a, b, c, d, hrb⟩ := h.ri.rb
 obtain ⟨x, y, z, u, v, s, hnb⟩ := h.nb
 have h1 : NbA w (stN w W v0 v1 v2 v3 v4 v5) v0 v1 v2 v3 v4 v5 := st_six hnb
 have hsz : W.heap.size ≤ (stN w W v0 v1 v2 v3 v4 v5).heap.size := by rw [stN_size]; exact Nat.le_refl _
 have hT2 := hT.far hsz fun k hk _ => stN_keep w W v0 v1 v2 v3 v4 v5 (k := k) (by omega)
 exact ⟨⟨⟨(stN_keep _ _ _ _ _ _ _ _ (by omega)).trans h.ri.pb, ⟨a, b, c, d, (stN_keep _ _ _ _ _ _ _ _ (by omega)).trans hrb⟩, h.ri.bl.trans (stN_below w W _ _ _ _ _ _)⟩, v0, v1, v2, v3, v4, v5, h1⟩, ⟨fun k => (stN_keep _ _ _ _ _ _ _ _ (by omega)).trans k, fun v ⟨k1, k2⟩ => ⟨k1, k2.far hsz fun k hk _ => stN_keep _ _ _ _ _ _ _ _ (by omega)⟩, fun _ => ⟨v0, v1, v2, v3, v4, v5, h1, hT2⟩⟩, ⟨v0, v1, v2, v3, v4, v5, h1, hT2⟩⟩
end
theorem RN.end {w : World} {l : List UInt8} {j : Nat} {t : NT} {W : World} (hP : PAt w l j 0 0 W) (hN : NdA w t W) (hb : Below w.heap.size w W) (hj : j ≤ l.length) {fn : Func} {P N : Tmp} (hfn : fn.results = #[.cell P 111, .cell N 38]) {tmps : Array Value} (hp : tmps.getD P undef = .pointer (some ⟨w.heap.size + 1, 0, none⟩)) (hn : tmps.getD N undef = .pointer (some ⟨w.heap.size + 1 + 1, 0, none⟩)) {r : Out NT} (hr : r = .ok (t, j)) :
  bodyPost Tryz.prog fn (RfP l r w) Exit.ret { tmps := tmps, defers := [] } W := by
 subst hr
 obtain ⟨v0, v1, v2, v3, v4, v5, h1, h2⟩ := hN
 exact ret_cc hfn hp hn (lv_rp hP) (lv_nd h1) ⟨j, 0, 0, t, _, rfl, NG.go ⟨Nat.le_refl _, fun k hk _ => ⟨by omega, rfl⟩⟩ _ _ h2, hb, ⟨rfl, rfl, rfl⟩, rfl, hj⟩
end Go.Proofs.YtgcpinnnfoanjaaGreatDoor
namespace Go.Proofs.YtgcpinnnfoanjaaGreatDoor
open Go.RowKit
def escN (l : List UInt8) (i : Nat) : Out NT := match escM l i with
 | .error x => .error x
 | .ok ((s, _, _), j) => .ok (clsT s, j)
set_option maxHeartbeats 16000000 in
set_option maxRecDepth 1000000 in
theorem rescape_any (l : List UInt8) (i : Nat) (hl : l.length ≤ 1000) (hi : i ≤ l.length) (w : World) : Calls Tryz.prog 138 #[.agg #[.string ⟨l.toArray⟩, .int .i64 (i : Int), .int .i64 0, .int .i64 0]] w (RfP l (escN l i) w) := by
 have hv := (zero_of_info infoQ).1
 simp only [← setA_false] at hv
 obtain ⟨M, hM⟩ : ∃ M, escN l i = M := ⟨_, rfl⟩
 have HM : Hid ((match escM l i with | .error x => .error x | .ok ((s, _, _), j) => .ok (clsT s, j)) = M) := Lib.hid hM
 rw [hM]
 clear hM
 have HN0 : Hid (RN w l i 0 0 (((w.alloc (.cells #[.string ⟨l.toArray⟩, .int .i64 (i : Int), .int .i64 0, .int .i64 0] 111)).alloc (.cells #[.string ⟨#[]⟩, .int .i64 0, .int .i64 0, .int .i64 0] 111)).alloc (.cells #[.int .i64 0, .slice none 0 0, .string ⟨#[]⟩, .slice none 0 0, .int .i64 0, .int .i64 0] 38))) := Lib.hid (RN.start w l i 0 0)
 have HPK := Lib.hid fun W => rpeek0 l i W
 have HF := Lib.hid fun W => rfail0 l i W
 have hw1 : IntKind.i64.wrap ((i : Int) + 1) = (i : Int) + 1 := IntWalk.i64_in _ (by omega)
 obtain ⟨⟨c0, c1, c2, c3⟩, f0, f1, f2, f3⟩ := HN0.out.ri.cs
 obtain ⟨⟨ra, rb, rc, rd, r0, r1, r2, r3⟩, g0, g1, g2, g3⟩ := HN0.out.ri.rs
 obtain ⟨⟨na, nb, nc, nd, ne, nf, n0, n1, n2, n3, n4, n5⟩, m0, m1, m2, m3, m4, m5⟩ := HN0.out.ns
 clear c0 c1 c2 c3 f0 f1 f2 f3 r0 r1 r2 r3 g0 g1 g2 g3 n0 n1 n2 n3 n4 n5 m0 m1 m2 m3 m4 m5
 go_enter Tryz.func138, Tryz.ntmps138
 by_cases hend : l.length ≤ i
 ·have HR := Lib.hid (show M = .error (i, 1) by rw [← HM.out, escM_end (by unfold Asc.at_; rw [List.getElem?_eq_none hend])])
  have z1 : decide ((l.length : Int) ≤ (i : Int)) = true := decide_eq_true (by omega)
  have y1 : decide (l.length ≤ i) = true := decide_eq_true hend
  clear HM hend
  go_wp2_with fail
  refine (HF.out _).mono ?_
  rintro e w1 ⟨rfl, hb⟩
  have HN1 := Lib.hid (HN0.out.go hb)
  clear hb HN0
  obtain ⟨⟨c0, c1, c2, c3⟩, f0, f1, f2, f3⟩ := HN1.out.ri.cs
  obtain ⟨⟨ra, rb, rc, rd, r0, r1, r2, r3⟩, g0, g1, g2, g3⟩ := HN1.out.ri.rs
  obtain ⟨⟨na, nb, nc, nd, ne, nf, n0, n1, n2, n3, n4, n5⟩, m0, m1, m2, m3, m4, m5⟩ := HN1.out.ns
  go_wp2_with fail
  exact HN1.out.ret0 (P := 2) (N := 3) rfl (by rfl) (by rfl) HR.out (by decide) (j := i) (by omega)
 ·have z1 : decide ((l.length : Int) ≤ (i : Int)) = false := decide_eq_false (by omega)
  have y1 : decide (l.length ≤ i) = false := decide_eq_false hend
  go_wp2_with fail
  refine (HPK.out _).mono ?_
  rintro e w3 ⟨rfl, hb⟩
  have HN3 := Lib.hid (HN0.out.go hb)
  clear hb HN0 HPK
  have hd8 := pk_lt l i
  have hpi := pk_in (show i < l.length by omega)
  obtain ⟨d, hd⟩ : ∃ d, pk l i = d := ⟨_, rfl⟩
  rw [hd] at hd8 hpi ⊢
  have HAT : Hid (Asc.at_ l i = d) := Lib.hid hpi.symm
  have HND := Lib.hid fun W => rnamed_any d W
  have HSD := Lib.hid fun W => rsingle_any d hd8 W
  have HLE : Hid (i + 1 ≤ l.length) := Lib.hid (by omega)
  clear hd hpi hend
  obtain ⟨gb, hgb⟩ : ∃ b, nmG d = b := ⟨_, rfl⟩
  obtain ⟨sb, hsb⟩ : ∃ b, sgB d = b := ⟨_, rfl⟩
  rw [hgb] at HND
  rw [hsb] at HSD
  have HGB := Lib.hid hgb
  have HSB := Lib.hid hsb
  clear hgb hsb
  go_wp2_with fail
  refine (HND.out _).mono ?_
  rintro e w4 ⟨rfl, hb⟩
  have HN4 := Lib.hid (HN3.out.go hb)
  have HQ0 := Lib.hid (SbQ.new w4 (fun _ => false))
  have HN5 := Lib.hid (HN4.out.go (al_below w4 (.cells (setA (fun _ => false)) 167)))
  have hqb := HN4.out.sz
  have HQL : Hid (w4.heap.size ≠ w.heap.size + 1 + 1 ∧ w4.heap.size ≠ w.heap.size + 1) := Lib.hid (by omega)
  obtain ⟨w6, e6, h6, hb6, e6'⟩ := put_set2 HQ0.out (nmF d)
  have HN6 := Lib.hid (HN5.out.on hb6 hqb)
  have HQ6 : Hid (SbQ w4.heap.size (nmF d) w6) := Lib.hid h6
  clear hb HN3 HND hb6 h6 HN4 HN5 HQ0
  obtain ⟨⟨c0, c1, c2, c3⟩, f0, f1, f2, f3⟩ := HN6.out.ri.cs
  obtain ⟨⟨ra, rb, rc, rd, r0, r1, r2, r3⟩, g0, g1, g2, g3⟩ := HN6.out.ri.rs
  obtain ⟨⟨na, nb, nc, nd, ne, nf, n0, n1, n2, n3, n4, n5⟩, m0, m1, m2, m3, m4, m5⟩ := HN6.out.ns
  cases gb with
  | true =>
   have HR := Lib.hid (show M = .ok (clsT (nmF d), i + 1) by rw [← HM.out, escM_named HAT.out HGB.out])
   have HN7 : Hid (RN w l (i + 1) 0 0 (w6.setCell ⟨w.heap.size, 1, none⟩ (.int .i64 ((i : Int) + 1)))) := Lib.hid (HN6.out.to (i + 1))
   have HQ7 : Hid (SbQ w4.heap.size (nmF d) (w6.setCell ⟨w.heap.size, 1, none⟩ (.int .i64 ((i : Int) + 1)))) := Lib.hid (HQ6.out.other 1 _ (by omega))
   go_wp2_with fail
   clear c0 c1 c2 c3 f0 f1 f2 f3 r0 r1 r2 r3 g0 g1 g2 g3 n0 n1 n2 n3 n4 n5 m0 m1 m2 m3 m4 m5 e6 e6' HN6 HQ6 HM
   obtain ⟨w7, hw7⟩ : ∃ w7, w6.setCell ⟨w.heap.size, 1, none⟩ (.int .i64 ((i : Int) + 1)) = w7 := ⟨_, rfl⟩
   rw [hw7] at HN7 HQ7 ⊢
   clear hw7
   refine wp_region_slotsB (by rfl) (by kernel_rfl) (by kernel_rfl) 54 [] [(1, .pointer (some ⟨w.heap.size, 0, none⟩)), (2, .pointer (some ⟨w.heap.size + 1, 0, none⟩)), (3, .pointer (some ⟨w.heap.size + 1 + 1, 0, none⟩)), (5, .pointer (some ⟨w4.heap.size, 0, none⟩))] (by kernel_rfl) (fun W => RN w l (i + 1) 0 0 W ∧ SbQ w4.heap.size (nmF d) W) (RvN w l (i + 1) (clsT (nmF d))) (GvN w l (i + 1) (.agg (setA (nmF d))) (clsT (nmF d))) (GvN.keep w l (i + 1) (.agg (setA (nmF d))) (clsT (nmF d))) ?_ ?_ ⟨rfl, rfl, fun s v hs => ?_, HN7.out.go (Below.refl _ _).drew, HQ7.out.on (Below.refl _ _).drew HQ7.out.lt⟩
   case refine_1 =>
    intro k o ho ac W hB hd K hK
    have hk5 : k < 5 := (Array.getElem?_eq_some_iff.1 ho).1
    have hs1 : ac.tmps.getD 1 undef = .pointer (some ⟨w.heap.size, 0, none⟩) := hB.fixed 1 _ (by simp)
    have hs2 : ac.tmps.getD 2 undef = .pointer (some ⟨w.heap.size + 1, 0, none⟩) := hB.fixed 2 _ (by simp)
    have hs3 : ac.tmps.getD 3 undef = .pointer (some ⟨w.heap.size + 1 + 1, 0, none⟩) := hB.fixed 3 _ (by simp)
    have hs5 : ac.tmps.getD 5 undef = .pointer (some ⟨w4.heap.size, 0, none⟩) := hB.fixed 5 _ (by simp)
    obtain ⟨hi, hq⟩ := hB.inv
    have HIW := Lib.hid hi
    have HQW := Lib.hid hq
    have HKK := Lib.hid hK
    obtain ⟨⟨c0, c1, c2, c3⟩, f0, f1, f2, f3⟩ := HIW.out.ri.cs
    obtain ⟨⟨ra, rb, rc, rd, r0, r1, r2, r3⟩, g0, g1, g2, g3⟩ := HIW.out.ri.rs
    obtain ⟨⟨na, nb, nc, nd, ne, nf, n0, n1, n2, n3, n4, n5⟩, m0, m1, m2, m3, m4, m5⟩ := HIW.out.ns
    clear hK hB hi hq
    rcases (show k = 0 ∨ k = 1 ∨ k = 2 ∨ k = 3 ∨ k = 4 by omega) with rfl | rfl | rfl | rfl | rfl
    ·obtain rfl := Option.some.inj ho
     go_simp
     exact HKK.out _ _ (RvN.refl _ _ _ _ _) ⟨HIW.out, HQW.out⟩ rfl
    ·obtain rfl := Option.some.inj ho
     refine wp_load_setQ _ rfl w4.heap.size ((show ac.eval (Operand.tmp 5) = ac.tmps.getD 5 undef from rfl).trans hs5) _ _ HQW.out ?_
     exact HKK.out _ _ (RvN.refl _ _ _ _ _) ⟨HIW.out, HQW.out⟩ rfl
    ·obtain rfl := Option.some.inj ho
     have hd1 : ac.tmps.getD 33 undef = .agg (setA (nmF d)) := hd ⟨1, .data⟩ (by simp) rfl
     go_simp
     refine (rclass_any _ W).mono ?_
     rintro e W3 ⟨v3, rfl, hT3, hb3⟩
     have S1 := Lib.hid (HIW.out.go hb3)
     have S2 := Lib.hid (HQW.out.on hb3 HQW.out.lt)
     have hz3 := HIW.out.sz
     have S3 := Lib.hid (RvN.on (t := clsT (nmF d)) HIW.out hb3)
     have S4 := Lib.hid (NG.go (F' := fun k => w.heap.size + 1 + 1 < k) (w' := W3) ⟨Nat.le_refl _, fun k hk _ => ⟨Nat.lt_of_lt_of_le hz3 hk, rfl⟩⟩ _ _ hT3)
     obtain ⟨op3, rs3, nm3, kk3, mn3, mx3, ra3, rc3, a3, cc3, ht3, rfl, _⟩ := hT3.open
     exact HKK.out _ _ S3.out ⟨S1.out, S2.out⟩ ⟨⟨_, _, _, _, _, _, _, _, _, _, rfl⟩, S4.out⟩
    ·obtain rfl := Option.some.inj ho
     have hd0 : ac.tmps.getD 32 undef = .agg #[.string ⟨l.toArray⟩, .int .i64 ((i + 1 : Nat) : Int), .int .i64 0, .int .i64 0] := hd ⟨0, .data⟩ (by simp) rfl
     obtain ⟨s1, s2, s3⟩ := HIW.out.stp (t := clsT (nmF d))
     have S1 := Lib.hid s1
     have S2 := Lib.hid s2
     have S3 := Lib.hid s3
     have S4 := Lib.hid ((stR_keep w W (.string ⟨l.toArray⟩) (.int .i64 ((i + 1 : Nat) : Int)) (.int .i64 0) (.int .i64 0) (k := w4.heap.size) HQL.out.2).trans HQW.out)
     clear s1 s2 s3
     go_simp
     exact HKK.out undef _ S2.out ⟨S1.out, S4.out⟩ S3.out
    ·obtain rfl := Option.some.inj ho
     obtain ⟨⟨op4, ra4, rn4, rc4, nm4, a4, nn4, cc4, mn4, mx4, hd2⟩, hT3⟩ : NdV w (clsT (nmF d)) W (ac.tmps.getD 34 undef) := hd ⟨2, .data⟩ (by simp) rfl
     rw [hd2] at hT3
     obtain ⟨s1, s2, s3⟩ := HIW.out.stn hT3
     have S1 := Lib.hid s1
     have S2 := Lib.hid s2
     have S3 := Lib.hid s3
     have S4 := Lib.hid ((stN_keep w W (.int .i64 op4) (.slice ra4 rn4 rc4) (.string ⟨nm4.toArray⟩) (.slice a4 nn4 cc4) (.int .i64 mn4) (.int .i64 mx4) (k := w4.heap.size) HQL.out.1).trans HQW.out)
     clear s1 s2 s3 hT3
     go_simp
     exact HKK.out undef _ S2.out ⟨S1.out, S4.out⟩ S3.out
   case refine_2 =>
    intro ac W hB hG
    have h2 : PAt w l (i + 1) 0 0 W := hG 3 (by decide)
    have h4 : NdA w (clsT (nmF d)) W := hG 4 (by decide)
    have hs2 : ac.tmps.getD 2 undef = .pointer (some ⟨w.heap.size + 1, 0, none⟩) := hB.fixed 2 _ (by simp)
    have hs3 : ac.tmps.getD 3 undef = .pointer (some ⟨w.heap.size + 1 + 1, 0, none⟩) := hB.fixed 3 _ (by simp)
    have hbw := hB.inv.1.ri.bl
    have hdf := hB.defers
    obtain ⟨tm, df⟩ := ac
    obtain rfl : df = [] := hdf
    have HR := Lib.hid (RN.end h2 h4 hbw (HLE.out) (fn := Tryz.f138) (tmps := tm) rfl hs2 hs3 (HR.out))
    clear hB hG h2 h4 hs2 hs3
    go_wp2_with fail
    exact HR.out
   case refine_3 =>
    simp only [List.mem_cons, Prod.mk.injEq, List.not_mem_nil, or_false] at hs
    rcases hs with ⟨rfl, rfl⟩ | ⟨rfl, rfl⟩ | ⟨rfl, rfl⟩ | ⟨rfl, rfl⟩ <;> rfl
  | false =>
   go_wp2_with fail
   refine (HSD.out _).mono ?_
   rintro e w7 ⟨rfl, rfl⟩
   cases sb with
   | true =>
    have HR := Lib.hid (show M = .ok (clsT (spanF (sgN d) (sgN d + 1)), i + 1) by rw [← HM.out, escM_single HAT.out HGB.out HSB.out])
    have HN7 : Hid (RN w l (i + 1) 0 0 (w6.setCell ⟨w.heap.size, 1, none⟩ (.int .i64 ((i : Int) + 1)))) := Lib.hid (HN6.out.to (i + 1))
    have hsg := sgN_lt hd8
    go_wp2_with fail
    clear c0 c1 c2 c3 f0 f1 f2 f3 r0 r1 r2 r3 g0 g1 g2 g3 n0 n1 n2 n3 n4 n5 m0 m1 m2 m3 m4 m5 e6 e6' HN6 HQ6 HM
    obtain ⟨w8, hw8⟩ : ∃ w8, w6.setCell ⟨w.heap.size, 1, none⟩ (.int .i64 ((i : Int) + 1)) = w8 := ⟨_, rfl⟩
    rw [hw8] at HN7 ⊢
    clear hw8
    refine wp_region_slotsB (by rfl) (by kernel_rfl) (by kernel_rfl) 54 [] [(1, .pointer (some ⟨w.heap.size, 0, none⟩)), (2, .pointer (some ⟨w.heap.size + 1, 0, none⟩)), (3, .pointer (some ⟨w.heap.size + 1 + 1, 0, none⟩)), (7, .int .i64 (sgN d : Int))] (by kernel_rfl) (fun W => RN w l (i + 1) 0 0 W ∧ True) (RvN w l (i + 1) (clsT (spanF (sgN d) (sgN d + 1)))) (GvN w l (i + 1) (.int .i64 (sgN d : Int)) (clsT (spanF (sgN d) (sgN d + 1)))) (GvN.keep w l (i + 1) (.int .i64 (sgN d : Int)) (clsT (spanF (sgN d) (sgN d + 1)))) ?_ ?_ ⟨rfl, rfl, fun s v hs => ?_, HN7.out.go (Below.refl _ _).drew, trivial⟩
    case refine_1 =>
     intro k o ho ac W hB hd K hK
     have hk5 : k < 5 := (Array.getElem?_eq_some_iff.1 ho).1
     have hs1 : ac.tmps.getD 1 undef = .pointer (some ⟨w.heap.size, 0, none⟩) := hB.fixed 1 _ (by simp)
     have hs2 : ac.tmps.getD 2 undef = .pointer (some ⟨w.heap.size + 1, 0, none⟩) := hB.fixed 2 _ (by simp)
     have hs3 : ac.tmps.getD 3 undef = .pointer (some ⟨w.heap.size + 1 + 1, 0, none⟩) := hB.fixed 3 _ (by simp)
     have hs5 : ac.tmps.getD 7 undef = .int .i64 (sgN d : Int) := hB.fixed 7 _ (by simp)
     obtain ⟨hi, hq⟩ := hB.inv
     have HIW := Lib.hid hi
     have HKK := Lib.hid hK
     obtain ⟨⟨c0, c1, c2, c3⟩, f0, f1, f2, f3⟩ := HIW.out.ri.cs
     obtain ⟨⟨ra, rb, rc, rd, r0, r1, r2, r3⟩, g0, g1, g2, g3⟩ := HIW.out.ri.rs
     obtain ⟨⟨na, nb, nc, nd, ne, nf, n0, n1, n2, n3, n4, n5⟩, m0, m1, m2, m3, m4, m5⟩ := HIW.out.ns
     clear hK hB hi hq
     rcases (show k = 0 ∨ k = 1 ∨ k = 2 ∨ k = 3 ∨ k = 4 by omega) with rfl | rfl | rfl | rfl | rfl
     ·obtain rfl := Option.some.inj ho
      go_simp
      exact HKK.out _ _ (RvN.refl _ _ _ _ _) ⟨HIW.out, trivial⟩ rfl
     ·obtain rfl := Option.some.inj ho
      go_simp
      exact HKK.out _ _ (RvN.refl _ _ _ _ _) ⟨HIW.out, trivial⟩ rfl
     ·obtain rfl := Option.some.inj ho
      have hd1 : ac.tmps.getD 52 undef = .int .i64 (sgN d : Int) := hd ⟨1, .data⟩ (by simp) rfl
      go_simp
      refine (rone_any _ hsg W).mono ?_
      rintro e W3 ⟨v3, rfl, hT3, hb3⟩
      have S1 := Lib.hid (HIW.out.go hb3)
      have hz3 := HIW.out.sz
      have S3 := Lib.hid (RvN.on (t := clsT (spanF (sgN d) (sgN d + 1))) HIW.out hb3)
      have S4 := Lib.hid (NG.go (F' := fun k => w.heap.size + 1 + 1 < k) (w' := W3) ⟨Nat.le_refl _, fun k hk _ => ⟨Nat.lt_of_lt_of_le hz3 hk, rfl⟩⟩ _ _ hT3)
      obtain ⟨op3, rs3, nm3, kk3, mn3, mx3, ra3, rc3, a3, cc3, ht3, rfl, _⟩ := hT3.open
      exact HKK.out _ _ S3.out ⟨S1.out, trivial⟩ ⟨⟨_, _, _, _, _, _, _, _, _, _, rfl⟩, S4.out⟩
     ·obtain rfl := Option.some.inj ho
      have hd0 : ac.tmps.getD 51 undef = .agg #[.string ⟨l.toArray⟩, .int .i64 ((i + 1 : Nat) : Int), .int .i64 0, .int .i64 0] := hd ⟨0, .data⟩ (by simp) rfl
      obtain ⟨s1, s2, s3⟩ := HIW.out.stp (t := clsT (spanF (sgN d) (sgN d + 1)))
      have S1 := Lib.hid s1
      have S2 := Lib.hid s2
      have S3 := Lib.hid s3
      clear s1 s2 s3
      go_simp
      exact HKK.out undef _ S2.out ⟨S1.out, trivial⟩ S3.out
     ·obtain rfl := Option.some.inj ho
      obtain ⟨⟨op4, ra4, rn4, rc4, nm4, a4, nn4, cc4, mn4, mx4, hd2⟩, hT3⟩ : NdV w (clsT (spanF (sgN d) (sgN d + 1))) W (ac.tmps.getD 53 undef) := hd ⟨2, .data⟩ (by simp) rfl
      rw [hd2] at hT3
      obtain ⟨s1, s2, s3⟩ := HIW.out.stn hT3
      have S1 := Lib.hid s1
      have S2 := Lib.hid s2
      have S3 := Lib.hid s3
      clear s1 s2 s3 hT3
      go_simp
      exact HKK.out undef _ S2.out ⟨S1.out, trivial⟩ S3.out
    case refine_2 =>
     intro ac W hB hG
     have h2 : PAt w l (i + 1) 0 0 W := hG 3 (by decide)
     have h4 : NdA w (clsT (spanF (sgN d) (sgN d + 1))) W := hG 4 (by decide)
     have hs2 : ac.tmps.getD 2 undef = .pointer (some ⟨w.heap.size + 1, 0, none⟩) := hB.fixed 2 _ (by simp)
     have hs3 : ac.tmps.getD 3 undef = .pointer (some ⟨w.heap.size + 1 + 1, 0, none⟩) := hB.fixed 3 _ (by simp)
     have hbw := hB.inv.1.ri.bl
     have hdf := hB.defers
     obtain ⟨tm, df⟩ := ac
     obtain rfl : df = [] := hdf
     have HR := Lib.hid (RN.end h2 h4 hbw (HLE.out) (fn := Tryz.f138) (tmps := tm) rfl hs2 hs3 (HR.out))
     clear hB hG h2 h4 hs2 hs3
     go_wp2_with fail
     exact HR.out
    case refine_3 =>
     simp only [List.mem_cons, Prod.mk.injEq, List.not_mem_nil, or_false] at hs
     rcases hs with ⟨rfl, rfl⟩ | ⟨rfl, rfl⟩ | ⟨rfl, rfl⟩ | ⟨rfl, rfl⟩ <;> rfl
   | false =>
    have HR := Lib.hid (show M = .error (i, 1) by rw [← HM.out, escM_bad HAT.out HGB.out HSB.out])
    clear e6 e6' HM
    go_wp2_with fail
    refine (HF.out _).mono ?_
    rintro e w7 ⟨rfl, hb⟩
    have HN7 := Lib.hid (HN6.out.go hb)
    clear hb HN6 HQ6 c0 c1 c2 c3 f0 f1 f2 f3 r0 r1 r2 r3 g0 g1 g2 g3 n0 n1 n2 n3 n4 n5 m0 m1 m2 m3 m4 m5
    obtain ⟨⟨c0, c1, c2, c3⟩, f0, f1, f2, f3⟩ := HN7.out.ri.cs
    obtain ⟨⟨ra, rb, rc, rd, r0, r1, r2, r3⟩, g0, g1, g2, g3⟩ := HN7.out.ri.rs
    obtain ⟨⟨na, nb, nc, nd, ne, nf, n0, n1, n2, n3, n4, n5⟩, m0, m1, m2, m3, m4, m5⟩ := HN7.out.ns
    go_wp2_with fail
    exact HN7.out.ret0 (P := 2) (N := 3) rfl (by rfl) (by rfl) HR.out (by decide) (j := i) (by omega)
end Go.Proofs.YtgcpinnnfoanjaaGreatDoor
namespace Go.Proofs.YtgcpinnnfoanjaaGreatDoor
open Go.RowKit
set_option maxHeartbeats 16000000 in
set_option maxRecDepth 1000000 in
theorem runion_any (f g : Nat → Bool) (w : World) : Calls Tryz.prog 152 #[.agg (setA f), .agg (setA g)] w fun e w' => e = .returned (.agg (setA (fun c => f c || g c))) ∧ Below w.heap.size w w' := by
 have hv := (zero_of_info infoQ).1
 simp only [← setA_false] at hv
 go_enter Tryz.func152, Tryz.ntmps152
 go_wp2
 have hb1 := al_below w (.cells (setA f) 167)
 have hb2 := al_below (w.alloc (.cells (setA f) 167)) (.cells (setA g) 167)
 have hb3 := al_below ((w.alloc (.cells (setA f) 167)).alloc (.cells (setA g) 167)) (.cells (setA (fun _ => false)) 167)
 obtain ⟨w0, hw0⟩ : ∃ w0, ((w.alloc (.cells (setA f) 167)).alloc (.cells (setA g) 167)).alloc (.cells (setA (fun _ => false)) 167) = w0 := ⟨_, rfl⟩
 have H0 : Hid (SbQ w.heap.size (mixF (fun c => f c || g c) f 0) w0) := Lib.hid (by rw [← hw0]; exact ((((SbQ.new w f).on hb2 (by simp)).on hb3 (by simp; omega)).eq (mixF_none _ _).symm))
 have H1 : Hid (SbQ (w.heap.size + 1) g w0) := Lib.hid (by
  have := SbQ.new (w.alloc (.cells (setA f) 167)) g
  rw [← hw0]
  exact SbQ.on (by simpa using this) hb3 (by simp))
 have H2 : Hid (SbQ (w.heap.size + 1 + 1) (fun _ => false) w0) := Lib.hid (by
  have := SbQ.new ((w.alloc (.cells (setA f) 167)).alloc (.cells (setA g) 167)) (fun _ => false)
  rw [← hw0]
  rwa [show ((w.alloc (.cells (setA f) 167)).alloc (.cells (setA g) 167)).heap.size = w.heap.size + 1 + 1 by simp] at this)
 have HB : Hid (Below w.heap.size w w0) := Lib.hid (by rw [← hw0]; exact hb1.trans ((hb2.trans (hb3.mono hb2.size)).mono hb1.size))
 rw [hw0]
 clear hb1 hb2 hb3 hw0
 go_loopw [5] (fun i wr => ∃ (k : Nat), i = .int .i64 k ∧ k ≤ 256 ∧ Hid (SbQ w.heap.size (mixF (fun c => f c || g c) f k) wr) ∧ Hid (SbQ (w.heap.size + 1) g wr) ∧ Hid (SbQ (w.heap.size + 1 + 1) (fun _ => false) wr) ∧ Hid (Below w.heap.size w wr)) (fun i _ => 256 - (intOf i).toNat)
 case atStart => exact ⟨0, rfl, by omega, H0, H1, H2, HB⟩
 case round =>
  obtain ⟨k, rfl, hk, HS, HT, HR, HBL⟩ := hrel
  clear H0 H1 H2 HB
  by_cases hle : k < 256
  ·have z1 : decide ((k : Int) < 256) = true := decide_eq_true (by omega)
   have y1 : decide (k < 256) = true := decide_eq_true hle
   have i1 : (k : Int) < 256 := by omega
   have i2 : (0 : Int) ≤ (k : Int) := by omega
   have hw1 : IntKind.i64.wrap ((k : Int) + 1) = (k : Int) + 1 := IntWalk.i64_in _ (by omega)
   have hc : wr.cell? ⟨w.heap.size, k, none⟩ = some (.bool (f k)) := by
    rw [HS.out.cell hle]
    simp [mixF]
   have hd : wr.cell? ⟨w.heap.size + 1, k, none⟩ = some (.bool (g k)) := HT.out.cell hle
   have hf := HS.out.fz k
   have HX := Lib.hid (fun (x : Bool) (hx : (f k || g k) = x) => ((HS.out.set k x).eq (by rw [← hx]; exact mixF_succ (fun c => f c || g c) f k) : SbQ w.heap.size (mixF (fun c => f c || g c) f (k + 1)) (wr.setCell ⟨w.heap.size, k, none⟩ (.bool x))))
   cases hfk : f k with
   | true =>
    rw [hfk] at hc HX
    have HX' := Lib.hid (HX.out true rfl)
    clear HX hfk
    go_wp2
    refine ⟨⟨k + 1, by go_num, by omega, HX', Lib.hid (HT.out.other k _ (by simp)), Lib.hid (HR.out.other k _ (by omega)), Lib.hid (HBL.out.setCell (p := ⟨w.heap.size, k, none⟩) (Nat.le_refl _) _)⟩, by simp [intOf]; omega⟩
   | false =>
    rw [hfk] at hc HX
    have HX' := Lib.hid (HX.out (g k) rfl)
    clear HX hfk
    go_wp2
    refine ⟨⟨k + 1, by go_num, by omega, HX', Lib.hid (HT.out.other k _ (by simp)), Lib.hid (HR.out.other k _ (by omega)), Lib.hid (HBL.out.setCell (p := ⟨w.heap.size, k, none⟩) (Nat.le_refl _) _)⟩, by simp [intOf]; omega⟩
  ·have z1 : decide ((k : Int) < 256) = false := decide_eq_false (by omega)
   have y1 : decide (k < 256) = false := decide_eq_false hle
   obtain rfl : k = 256 := by omega
   have hs := HS.out.eq (mixF_all (fun c => f c || g c) f)
   obtain ⟨w4, e4, h4, hb4, e4'⟩ := put_set2 HR.out (fun c => f c || g c)
   have HB4 := Lib.hid (HBL.out.trans (hb4.mono (by omega)))
   clear hb4 HS
   go_wp2_with (refine wpl_load_setQ rfl _ rfl w.heap.size rfl _ hs ?_)
   exact ret_1 (p := 4) rfl (by rfl) (lv_st h4) ⟨rfl, HB4.out⟩
def RbP (l : List UInt8) (r : Out Nat) (w : World) (en : Ending) (w' : World) : Prop :=
 ∃ (j e bad : Nat) (n : Int), en = .returned (.tuple #[.agg #[.string ⟨l.toArray⟩, .int .i64 (j : Int), .int .i64 (e : Int), .int .i64 (bad : Int)], .int .i64 n]) ∧ Below w.heap.size w w' ∧
  (match r with
  | .ok (v, j') => (j = j' ∧ e = 0 ∧ bad = 0) ∧ n = (v : Int) ∧ v ≤ 99 ∧ j ≤ l.length
  | .error (k, x) => (e = x ∧ x ≠ 0 ∧ bad = k) ∧ j ≤ 1001 ∧ 0 ≤ n ∧ n ≤ 99)
theorem RI.rct {i e bad : Nat} {l : List UInt8} {w W : World} (h : RI w l i e bad W) {fn : Func} {P T : Tmp} (hfn : fn.results = #[.cell P 111, .tmp T]) {tmps : Array Value} (hp : tmps.getD P undef = .pointer (some ⟨w.heap.size + 1, 0, none⟩)) {u : Value} (ht : tmps.getD T undef = u) {x y z v : Value} {post : Ending → World → Prop}
  (hpost : ∀ w', Below w.heap.size w w' → post (.returned (.tuple #[.agg #[x, y, z, v], u])) w') : bodyPost Tryz.prog fn post Exit.ret { tmps := tmps, defers := [] } (stR w W x y z v) := by
 obtain ⟨h1, h2, _⟩ := h.res x y z v
 exact ret_ct hfn hp ht (lv_rp h1) (hpost _ h2)
theorem RI.rctt {i e bad : Nat} {l : List UInt8} {w W : World} (h : RI w l i e bad W) {fn : Func} {P T S : Tmp} (hfn : fn.results = #[.cell P 111, .tmp T, .tmp S]) {tmps : Array Value} (hp : tmps.getD P undef = .pointer (some ⟨w.heap.size + 1, 0, none⟩)) {u s : Value} (ht : tmps.getD T undef = u) (hs : tmps.getD S undef = s) {x y z v : Value} {post : Ending → World → Prop}
  (hpost : ∀ w', Below w.heap.size w w' → post (.returned (.tuple #[.agg #[x, y, z, v], u, s])) w') : bodyPost Tryz.prog fn post Exit.ret { tmps := tmps, defers := [] } (stR w W x y z v) := by
 obtain ⟨h1, h2, _⟩ := h.res x y z v
 exact ret_ctt hfn hp ht hs (lv_rp h1) (hpost _ h2)
theorem digit_pk (l : List UInt8) (i : Nat) : Asc.isDigit (pk l i) = Asc.isDigit (Asc.at_ l i) := by
 unfold pk
 split
 ·next h => rw [h]; decide
 ·rfl
theorem digit_in {l : List UInt8} {i : Nat} (h : Asc.isDigit (pk l i) = true) : Asc.at_ l i = pk l i ∧ i < l.length ∧ 48 ≤ pk l i ∧ pk l i ≤ 57 := by
 have h2 : 48 ≤ pk l i ∧ pk l i ≤ 57 := by unfold Asc.isDigit at h; simpa using h
 have h3 : Asc.at_ l i = pk l i := (pk_eq (by omega) (by omega)).1 rfl
 exact ⟨h3, Asc.at_lt (by omega), h2⟩
set_option maxHeartbeats 16000000 in
set_option maxRecDepth 1000000 in
theorem rbound_any (l : List UInt8) (i : Nat) (hl : l.length ≤ 1000) (hi : i ≤ l.length) (w : World) : Calls Tryz.prog 141 #[.agg #[.string ⟨l.toArray⟩, .int .i64 (i : Int), .int .i64 0, .int .i64 0]] w (RbP l (boundM l i) w) := by
 obtain ⟨M, hM⟩ : ∃ M, boundM l i = M := ⟨_, rfl⟩
 have HM := Lib.hid hM
 rw [hM]
 clear hM
 have HI0 : Hid (RI w l i 0 0 ((w.alloc (.cells #[.string ⟨l.toArray⟩, .int .i64 (i : Int), .int .i64 0, .int .i64 0] 111)).alloc (.cells #[.string ⟨#[]⟩, .int .i64 0, .int .i64 0, .int .i64 0] 111))) := Lib.hid (RI.start w l i 0 0)
 have HPK := Lib.hid fun W => rpeek0 l i W
 have HPK2 := Lib.hid fun W => rpeek0 l (i + 1) W
 have HF := Lib.hid fun W => rfail0 l i W
 have HF2 := Lib.hid fun W => rfail_any l (i + 1 + 1) 0 2 (i + 1 + 1) W
 have HDG := Lib.hid fun W => rdigit_any (pk l i) W (pk_lt l i)
 have HDG2 := Lib.hid fun W => rdigit_any (pk l (i + 1)) W (pk_lt l (i + 1))
 have HIN := Lib.hid (digit_in (l := l) (i := i))
 have HIN2 := Lib.hid (digit_in (l := l) (i := i + 1))
 have HPD := Lib.hid (digit_pk l i)
 have HPD2 := Lib.hid (digit_pk l (i + 1))
 obtain ⟨c, hc⟩ : ∃ c, pk l i = c := ⟨_, rfl⟩
 obtain ⟨d, hd⟩ : ∃ d, pk l (i + 1) = d := ⟨_, rfl⟩
 obtain ⟨bc, hbc⟩ : ∃ b, Asc.isDigit c = b := ⟨_, rfl⟩
 obtain ⟨bd, hbd⟩ : ∃ b, Asc.isDigit d = b := ⟨_, rfl⟩
 rw [hc] at HPK HDG HIN HPD
 rw [hd] at HPK2 HDG2 HIN2 HPD2
 rw [hbc] at HDG HIN HPD
 rw [hbd] at HDG2 HIN2 HPD2
 rw [show ((i + 1 : Nat) : Int) = (i : Int) + 1 from rfl] at HPK2
 rw [show ((i + 1 + 1 : Nat) : Int) = (i : Int) + 1 + 1 from rfl] at HF2
 have hw1 : IntKind.i64.wrap ((i : Int) + 1) = (i : Int) + 1 := IntWalk.i64_in _ (by omega)
 have hw2 : IntKind.i64.wrap ((i : Int) + 1 + 1) = (i : Int) + 1 + 1 := IntWalk.i64_in _ (by omega)
 clear hc hd hbc hbd
 go_enter Tryz.func141, Tryz.ntmps141
 go_wp2_with fail
 refine (HPK.out _).mono ?_
 rintro e w1 ⟨rfl, hb⟩
 have HI1 := Lib.hid (HI0.out.go hb)
 clear hb
 clear HI0
 go_wp2_with fail
 refine (HDG.out _).mono ?_
 rintro e wx ⟨rfl, rfl⟩
 obtain ⟨⟨c0, c1, c2, c3⟩, f0, f1, f2, f3⟩ := HI1.out.cs
 obtain ⟨⟨ra, rb, rc, rd, r0, r1, r2, r3⟩, g0, g1, g2, g3⟩ := HI1.out.rs
 cases bc with
 | false =>
  have HR := Lib.hid (show M = .error (i, 1) by rw [← HM.out]; unfold boundM; rw [← HPD.out]; rfl)
  clear HM
  go_wp2_with fail
  refine (HF.out _).mono ?_
  rintro e w2 ⟨rfl, hb⟩
  have HI2 := Lib.hid (HI1.out.go hb)
  clear hb
  clear c0 c1 c2 c3 f0 f1 f2 f3 r0 r1 r2 r3 g0 g1 g2 g3 HI1
  obtain ⟨⟨c0, c1, c2, c3⟩, f0, f1, f2, f3⟩ := HI2.out.cs
  obtain ⟨⟨ra, rb, rc, rd, r0, r1, r2, r3⟩, g0, g1, g2, g3⟩ := HI2.out.rs
  go_wp2_with fail
  exact HI2.out.rct (P := 2) (T := 3) rfl (by rfl) (by rfl) (fun w' hb => by rw [HR.out]; exact ⟨i, 1, i, 0, rfl, hb, ⟨rfl, by decide, rfl⟩, by omega, by decide, by decide⟩)
 | true =>
  obtain ⟨ha, hin, h48, h57⟩ := HIN.out rfl
  obtain ⟨x, hx⟩ : ∃ x, c - 48 = x := ⟨_, rfl⟩
  have hcx : (c : Int) - 48 = (x : Int) := by omega
  have hx9 : x ≤ 9 := by omega
  have hu1 : IntKind.u8.wrap ((c : Int) - 48) = (x : Int) := by rw [hcx]; exact IntWalk.u8_in _ (by omega)
  have hu2 : IntKind.i64.wrap (x : Int) = (x : Int) := IntWalk.i64_in _ (by omega)
  have HX := Lib.hid (show Asc.at_ l i - 48 = x by rw [ha]; exact hx)
  go_wp2_with fail
  refine (HPK.out _).mono ?_
  rintro e w2 ⟨rfl, hb⟩
  have HI2 := Lib.hid (HI1.out.go hb)
  clear hb
  clear c0 c1 c2 c3 f0 f1 f2 f3 r0 r1 r2 r3 g0 g1 g2 g3 HI1
  obtain ⟨⟨c0, c1, c2, c3⟩, f0, f1, f2, f3⟩ := HI2.out.cs
  obtain ⟨⟨ra, rb, rc, rd, r0, r1, r2, r3⟩, g0, g1, g2, g3⟩ := HI2.out.rs
  go_wp2_with fail
  have HI3 : Hid (RI w l (i + 1) 0 0 (w2.setCell ⟨w.heap.size, 1, none⟩ (.int .i64 ((i : Int) + 1)))) := Lib.hid (HI2.out.to (i + 1))
  refine (HPK2.out _).mono ?_
  rintro e w4 ⟨rfl, hb⟩
  have HI4 := Lib.hid (HI3.out.go hb)
  clear hb
  clear c0 c1 c2 c3 f0 f1 f2 f3 r0 r1 r2 r3 g0 g1 g2 g3 HI2 HI3
  obtain ⟨⟨c0, c1, c2, c3⟩, f0, f1, f2, f3⟩ := HI4.out.cs
  obtain ⟨⟨ra, rb, rc, rd, r0, r1, r2, r3⟩, g0, g1, g2, g3⟩ := HI4.out.rs
  go_wp2_with fail
  refine (HDG2.out _).mono ?_
  rintro e wx ⟨rfl, rfl⟩
  cases bd with
  | false =>
   have z1 : decide ((40 : Int) < (x : Int)) = false := decide_eq_false (by omega)
   have y1 : decide (40 < x) = false := decide_eq_false (by omega)
   have HR := Lib.hid (show M = .ok (x, i + 1) by rw [← HM.out]; unfold boundM; rw [← HPD.out, ← HPD2.out, HX.out]; rfl)
   have HLE : Hid (i + 1 ≤ l.length) := Lib.hid (by omega)
   clear HM ha hcx hu1 hin h48 h57 hx
   go_wp2_with fail
   exact HI4.out.rct (P := 2) (T := 3) rfl (by rfl) (by rfl) (fun w' hb => by rw [HR.out]; exact ⟨i + 1, 0, 0, x, rfl, hb, ⟨rfl, rfl, rfl⟩, rfl, by omega, HLE.out⟩)
  | true =>
   obtain ⟨ha2, hin2, h482, h572⟩ := HIN2.out rfl
   obtain ⟨y, hy⟩ : ∃ y, d - 48 = y := ⟨_, rfl⟩
   have hcy : (d : Int) - 48 = (y : Int) := by omega
   have hy9 : y ≤ 9 := by omega
   have hv1 : IntKind.u8.wrap ((d : Int) - 48) = (y : Int) := by rw [hcy]; exact IntWalk.u8_in _ (by omega)
   have hv2 : IntKind.i64.wrap (y : Int) = (y : Int) := IntWalk.i64_in _ (by omega)
   have hv3 : IntKind.i64.wrap (10 * (x : Int)) = 10 * (x : Int) := IntWalk.i64_in _ (by omega)
   have hv4 : IntKind.i64.wrap (10 * (x : Int) + (y : Int)) = 10 * (x : Int) + (y : Int) := IntWalk.i64_in _ (by omega)
   have HY := Lib.hid (show Asc.at_ l (i + 1) - 48 = y by rw [ha2]; exact hy)
   have HLE : Hid (i + 1 + 1 ≤ l.length) := Lib.hid (by omega)
   have HB : Hid (M = if 40 < x * 10 + y then .error (i + 2, 2) else .ok (x * 10 + y, i + 2)) := Lib.hid (by rw [← HM.out]; unfold boundM; rw [← HPD.out, ← HPD2.out, HX.out, HY.out]; rfl)
   clear HM ha hcx hu1 hin h48 h57 hx ha2 hin2 h482 h572 hy HX HY
   go_wp2_with fail
   refine (HPK2.out _).mono ?_
   rintro e w5 ⟨rfl, hb⟩
   have HI5 := Lib.hid (HI4.out.go hb)
   clear hb
   clear c0 c1 c2 c3 f0 f1 f2 f3 r0 r1 r2 r3 g0 g1 g2 g3 HI4
   obtain ⟨⟨c0, c1, c2, c3⟩, f0, f1, f2, f3⟩ := HI5.out.cs
   obtain ⟨⟨ra, rb, rc, rd, r0, r1, r2, r3⟩, g0, g1, g2, g3⟩ := HI5.out.rs
   have HI6 : Hid (RI w l (i + 1 + 1) 0 0 (w5.setCell ⟨w.heap.size, 1, none⟩ (.int .i64 ((i : Int) + 1 + 1)))) := Lib.hid (HI5.out.to (i + 1 + 1))
   by_cases h40 : 40 < x * 10 + y
   ·have z1 : decide ((40 : Int) < 10 * (x : Int) + (y : Int)) = true := decide_eq_true (by omega)
    have y1 : decide (40 < 10 * x + y) = true := decide_eq_true (by omega)
    have HR := Lib.hid (show M = .error (i + 2, 2) by rw [HB.out, if_pos h40])
    have HV : Hid ((0 : Int) ≤ 10 * (x : Int) + (y : Int) ∧ 10 * (x : Int) + (y : Int) ≤ 99) := Lib.hid (by omega)
    clear HB h40 hcy
    go_wp2_with fail
    refine (HF2.out _).mono ?_
    rintro e w7 ⟨rfl, hb⟩
    have HI7 := Lib.hid (HI6.out.go hb)
    clear hb
    clear c0 c1 c2 c3 f0 f1 f2 f3 r0 r1 r2 r3 g0 g1 g2 g3 HI5 HI6
    obtain ⟨⟨c0, c1, c2, c3⟩, f0, f1, f2, f3⟩ := HI7.out.cs
    obtain ⟨⟨ra, rb, rc, rd, r0, r1, r2, r3⟩, g0, g1, g2, g3⟩ := HI7.out.rs
    go_wp2_with fail
    exact HI7.out.rct (P := 2) (T := 3) rfl (by rfl) (by rfl) (fun w' hb => by rw [HR.out]; exact ⟨i + 2, 2, i + 2, 0, rfl, hb, ⟨rfl, by decide, rfl⟩, by have := HLE.out; omega, by decide, by decide⟩)
   ·have z1 : decide ((40 : Int) < 10 * (x : Int) + (y : Int)) = false := decide_eq_false (by omega)
    have y1 : decide (40 < 10 * x + y) = false := decide_eq_false (by omega)
    have HR := Lib.hid (show M = .ok (x * 10 + y, i + 2) by rw [HB.out, if_neg h40])
    clear HB h40 hcy
    go_wp2_with fail
    exact HI6.out.rct (P := 2) (T := 3) rfl (by rfl) (by rfl) (fun w' hb => by rw [HR.out]; exact ⟨i + 2, 0, 0, _, rfl, hb, ⟨rfl, rfl, rfl⟩, by omega, by omega, HLE.out⟩)
end Go.Proofs.YtgcpinnnfoanjaaGreatDoor
namespace Go.Proofs.YtgcpinnnfoanjaaGreatDoor
open Go.RowKit
def wN (q : List UInt8) : Nat := (q.takeWhile fun x => Asc.isWord x.toNat).length
theorem wN_le (q : List UInt8) : wN q ≤ q.length := (List.takeWhile_prefix _).length_le
theorem wN_in : ∀ {q : List UInt8} {j : Nat} (h : j < q.length), j < wN q → Asc.isWord (q[j]).toNat = true
 | [], j, h, _ => by simp at h
 | c :: t, j, h, hj => by
  unfold wN at hj
  rw [List.takeWhile_cons] at hj
  split at hj
  ·next hc =>
   cases j with
   | zero => exact hc
   | succ j =>
    rw [List.getElem_cons_succ]
    exact wN_in (q := t) (by simpa using h) (by unfold wN; simpa using hj)
  ·simp at hj
theorem wN_at : ∀ {q : List UInt8} (h : wN q < q.length), Asc.isWord (q[wN q]).toNat = false
 | [], h => by simp at h
 | c :: t, h => by
  by_cases hc : Asc.isWord c.toNat = true
  ·have e : wN (c :: t) = wN t + 1 := by unfold wN; rw [List.takeWhile_cons, if_pos hc]; rfl
   simp only [e, List.getElem_cons_succ]
   exact wN_at (by rw [e] at h; simpa using h)
  ·have e : wN (c :: t) = 0 := by unfold wN; rw [List.takeWhile_cons, if_neg hc]; rfl
   simp only [e, List.getElem_cons_zero]
   simpa using hc
theorem letter_word {c : Nat} (h : Asc.isLetter c = true) : Asc.isWord c = true := by unfold Asc.isWord; rw [h]; simp
theorem wN_name (q : List UInt8) : (NmOk (q.take (wN q)) → nlen q = wN q) ∧ (¬ NmOk (q.take (wN q)) → nlen q = 0) := by
 cases q with
 | nil => exact ⟨fun _ => rfl, fun _ => rfl⟩
 | cons c t =>
  by_cases hl : Asc.isLetter c.toNat = true
  ·have hw := letter_word hl
   have e : wN (c :: t) = wN t + 1 := by unfold wN; rw [List.takeWhile_cons, if_pos hw]; rfl
   have en : nlen (c :: t) = if 32 < wN (c :: t) then 0 else wN (c :: t) := by
    rw [nlen, if_pos hl, e]
    unfold wN
    rw [Nat.add_comm]
   have hle := wN_le (c :: t)
   constructor
   ·intro h
    have := h.2.1
    rw [List.length_take, Nat.min_eq_left hle] at this
    rw [en, if_neg (by omega)]
   ·intro h
    rw [en]
    by_cases h32 : 32 < wN (c :: t)
    ·rw [if_pos h32]
    ·refine absurd ⟨?_, ?_, ?_, ?_⟩ h
     ·rw [List.length_take, Nat.min_eq_left hle]; omega
     ·rw [List.length_take, Nat.min_eq_left hle]; omega
     ·intro h0
      rw [List.getElem_take]
      exact hl
     ·intro i hi
      rw [List.getElem_take]
      rw [List.length_take, Nat.min_eq_left hle] at hi
      exact wN_in _ hi
  ·have en : nlen (c :: t) = 0 := by rw [nlen, if_neg hl]
   refine ⟨fun h => ?_, fun _ => en⟩
   have h0 := h.1
   have := h.2.2.1 h0
   rw [List.getElem_take] at this
   exact absurd this hl
theorem capN_t1 {q : List UInt8} (ha : Asc.at_ q (wN q) = 58) (hn : NmOk (q.take (wN q))) : capN q = wN q := by
 have e := (wN_name q).1 hn
 have h0 := hn.1
 rw [List.length_take, Nat.min_eq_left (wN_le q)] at h0
 rw [capN_yes q (by omega) (by rw [e]; exact ha), e]
theorem capN_t0 {q : List UInt8} (h : ¬ (Asc.at_ q (wN q) = 58 ∧ NmOk (q.take (wN q)))) : capN q = 0 := by
 refine capN_no q fun hc => ?_
 by_cases hn : NmOk (q.take (wN q))
 ·have e := (wN_name q).1 hn
  exact h ⟨by rw [← e]; exact hc.2, hn⟩
 ·have := hc.1
  rw [(wN_name q).2 hn] at this
  omega
theorem at_drop (l : List UInt8) (i j : Nat) : Asc.at_ (l.drop i) j = Asc.at_ l (i + j) := by
 unfold Asc.at_
 rw [List.getElem?_drop]
theorem rname_any' (l : List UInt8) (w : World) (hml : l.length ≤ 100000) : Calls Tryz.prog 30 #[.string ⟨l.toArray⟩, .int .i64 32] w fun e w' => e = .returned (.bool (nmB l)) ∧ w = w' := rname_any l w (by omega)
set_option maxHeartbeats 16000000 in
set_option maxRecDepth 1000000 in
theorem rtitle_any (l : List UInt8) (i : Nat) (hl : l.length ≤ 1000) (hi : i ≤ l.length) (w : World) : Calls Tryz.prog 134 #[.agg #[.string ⟨l.toArray⟩, .int .i64 (i : Int), .int .i64 0, .int .i64 0]] w fun e w' => e = .returned (.int .i64 (capN (l.drop i) : Int)) ∧ Below w.heap.size w w' := by
 have HC1 := Lib.hid (capN_t1 (q := l.drop i))
 have HC0 := Lib.hid (capN_t0 (q := l.drop i))
 obtain ⟨R, hR⟩ : ∃ R, capN (l.drop i) = R := ⟨_, rfl⟩
 rw [hR] at HC1 HC0 ⊢
 obtain ⟨K, hK⟩ : ∃ K, wN (l.drop i) = K := ⟨_, rfl⟩
 have HIN : Hid (∀ n (h : n < l.length), i ≤ n → n < i + K → Asc.isWord (l[n]).toNat = true) := Lib.hid (fun n h h1 h2 => by
  have := wN_in (q := l.drop i) (j := n - i) (by rw [List.length_drop]; omega) (by omega)
  rw [List.getElem_drop] at this
  simpa [show i + (n - i) = n by omega] using this)
 have HAT : Hid (∀ h : i + K < l.length, Asc.isWord (l[i + K]).toNat = false) := Lib.hid (fun h => by
  have := wN_at (q := l.drop i) (by rw [List.length_drop]; omega)
  rw [List.getElem_drop] at this
  simpa [hK] using this)
 have hKl : i + K ≤ l.length := by
  have := wN_le (l.drop i)
  rw [List.length_drop] at this
  omega
 simp only [hK, at_drop, show (l.drop i).take K = Asc.seg l i (i + K) by unfold Asc.seg; rw [show i + K - i = K by omega]] at HC1 HC0
 have HB0 := Lib.hid (al_below w (.cells #[.string ⟨l.toArray⟩, .int .i64 (i : Int), .int .i64 0, .int .i64 0] 111))
 have HNM := Lib.hid fun W => rname_any' (Asc.seg l i (i + K)) W (by rw [Asc.seg_length l hKl]; omega)
 clear hR hK
 go_enter Tryz.func134, Tryz.ntmps134
 go_wp2_with fail
 go_loopw [3] (fun v wr => ∃ n : Nat, v = .int .i64 n ∧ i ≤ n ∧ n ≤ i + K ∧ w.alloc (.cells #[.string ⟨l.toArray⟩, .int .i64 (i : Int), .int .i64 0, .int .i64 0] 111) = wr) (fun v _ => l.length - (intOf v).toNat)
 case atStart => exact ⟨i, rfl, Nat.le_refl _, by omega, rfl⟩
 case round =>
  obtain ⟨n, rfl, hin, hnk, rfl⟩ := hrel
  by_cases hlt : n < l.length
  ·obtain ⟨c, ⟨_, hx⟩, hc, hb⟩ := byte_at l n hlt
   have HW := Lib.hid fun W => rword_any c W hb
   have z1 : decide ((n : Int) < (l.length : Int)) = true := decide_eq_true (by omega)
   have y1 : decide (n < l.length) = true := decide_eq_true hlt
   have i1 : (n : Int) < (l.length : Int) := by omega
   have i2 : (0 : Int) ≤ (n : Int) := by omega
   have hw1 : IntKind.i64.wrap ((n : Int) + 1) = (n : Int) + 1 := IntWalk.i64_in _ (by omega)
   by_cases hgo : n < i + K
   ·have hwd : Asc.isWord c = true := by rw [← hc]; exact HIN.out n hlt hin hgo
    rw [hwd] at HW
    clear hc hwd
    go_wp2_with (go_at_call 48; refine (HW.out _).mono ?_; rintro e wx ⟨rfl, rfl⟩)
    refine ⟨⟨n + 1, by go_num, by omega, by omega, trivial⟩, by simp [intOf]; omega⟩
   ·obtain rfl : n = i + K := by omega
    have hwd : Asc.isWord c = false := by rw [← hc]; exact HAT.out hlt
    rw [hwd] at HW
    have HAC := Lib.hid (show Asc.at_ l (i + K) = c by rw [Asc.at_of hlt, hc])
    have hww : IntKind.i64.wrap (((i + K : Nat) : Int) - (i : Int)) = (K : Int) := by rw [show ((i + K : Nat) : Int) - (i : Int) = (K : Int) by omega]; exact IntWalk.i64_in _ (by omega)
    have hww' : IntKind.i64.wrap ((i : Int) + (K : Int) - (i : Int)) = (K : Int) := by rw [show (i : Int) + (K : Int) - (i : Int) = (K : Int) by omega]; exact IntWalk.i64_in _ (by omega)
    have i3 : (i : Int) ≤ ((i + K : Nat) : Int) := by omega
    have i4 : (0 : Int) ≤ (i : Int) := by omega
    have i5 : ((i + K : Nat) : Int) ≤ (l.length : Int) := by omega
    have x1 : (ByteArray.mk l.toArray).extract i (i + K) = ⟨(Asc.seg l i (i + K)).toArray⟩ := Asc.extract_seg l i (i + K)
    obtain ⟨sg, hsg⟩ : ∃ sg, Asc.seg l i (i + K) = sg := ⟨_, rfl⟩
    rw [hsg] at x1 HNM HC1 HC0
    clear hc hwd hgo hsg
    by_cases h58 : c = 58
    ·subst h58
     obtain ⟨nb, hnb⟩ : ∃ b, nmB sg = b := ⟨_, rfl⟩
     rw [hnb] at HNM
     have HNB := Lib.hid hnb
     clear hnb
     cases nb with
     | true =>
      have HR := Lib.hid (HC1.out HAC.out (by unfold nmB at HNB; exact @of_decide_eq_true _ (Classical.propDecidable _) HNB.out))
      go_wp2_with (first | (go_at_call 48; refine (HW.out _).mono ?_; rintro e wx ⟨rfl, rfl⟩) | (go_at_call 30; refine (HNM.out _).mono ?_; rintro e wx ⟨rfl, rfl⟩))
      go_ret
      exact ⟨by rw [HR.out]; rfl, HB0.out⟩
     | false =>
      have HR := Lib.hid (HC0.out (fun h => by have := nmB_yes h.2; rw [HNB.out] at this; cases this))
      go_wp2_with (first | (go_at_call 48; refine (HW.out _).mono ?_; rintro e wx ⟨rfl, rfl⟩) | (go_at_call 30; refine (HNM.out _).mono ?_; rintro e wx ⟨rfl, rfl⟩))
      go_ret
      exact ⟨by rw [HR.out]; rfl, HB0.out⟩
    ·have z2 : ((c : Int) == 58) = false := by rw [beq_eq_false_iff_ne]; omega
     have HR := Lib.hid (HC0.out (fun h => h58 (HAC.out.symm.trans h.1)))
     clear h58
     go_wp2_with (first | (go_at_call 48; refine (HW.out _).mono ?_; rintro e wx ⟨rfl, rfl⟩) | (go_at_call 30; refine (HNM.out _).mono ?_; rintro e wx ⟨rfl, rfl⟩))
     go_ret
     exact ⟨by rw [HR.out]; rfl, HB0.out⟩
  ·have z1 : decide ((n : Int) < (l.length : Int)) = false := decide_eq_false (by omega)
   have y1 : decide (n < l.length) = false := decide_eq_false hlt
   have HR := Lib.hid (HC0.out (fun h => by have := Asc.at_lt (l := l) (i := i + K) (by rw [h.1]; decide); omega))
   go_wp2_with fail
   go_ret
   exact ⟨by rw [HR.out]; rfl, HB0.out⟩
end Go.Proofs.YtgcpinnnfoanjaaGreatDoor

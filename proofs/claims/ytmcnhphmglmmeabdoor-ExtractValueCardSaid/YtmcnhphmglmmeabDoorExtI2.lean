/-
  The event and the item while they are made: cell by cell.
-/
import Derived.Test.YtmcnhphmglmmeabDoorExtI
import Derived.Laws.Rows
namespace Go.Proofs.YtmcnhphmglmmeabDoor
open Go.RowKit

def evE (to tm wt : Int) (la : Option Addr) (n lc : Nat) (tr st : List UInt8) (fa : Option Addr) (m fc : Nat) : Nat → Value := fun i => (#[.int .i64 1, .int .i64 5, .int .i64 0, .int .i64 to, .slice la n lc, .int .i64 tm, .int .i64 wt, .string ⟨tr.toArray⟩, .string ⟨st.toArray⟩, .slice fa m fc] : Array Value)[i]!
theorem IV.cong {w W : World} {g : Nat} {E E' : Nat → Value} (h : IV w g E W) (he : ∀ i, i < 10 → E i = E' i) : IV w g E' W :=
  ⟨fun i hi => (h.ev i hi).trans (congrArg some (he i hi)), h.fz, h.it, h.itf, h.apart, h.codes, h.big⟩
theorem IV.al {w W : World} {g : Nat} {E : Nat → Value} (h : IV w g E W) (hg : g < w.heap.size) (o : Obj) : IV w g E (W.alloc o) := h.on hg ((Below.refl _ W).alloc h.big o)
theorem IV.dr {w W : World} {g : Nat} {E : Nat → Value} (h : IV w g E W) (hg : g < w.heap.size) : IV w g E W.drew := h.on hg (Below.refl _ W).drew
theorem IV.ten {w W : World} {g : Nat} {to tm wt : Int} {la : Option Addr} {n lc : Nat} {tr st : List UInt8} {fa : Option Addr} {m fc : Nat} (h : IV w g (evE to tm wt la n lc tr st fa m fc) W) :
    W.cell? ⟨w.heap.size + 1, 0, none⟩ = some (.int .i64 1) ∧ W.cell? ⟨w.heap.size + 1, 1, none⟩ = some (.int .i64 5) ∧ W.cell? ⟨w.heap.size + 1, 2, none⟩ = some (.int .i64 0) ∧ W.cell? ⟨w.heap.size + 1, 3, none⟩ = some (.int .i64 to) ∧ W.cell? ⟨w.heap.size + 1, 4, none⟩ = some (.slice la n lc) ∧ W.cell? ⟨w.heap.size + 1, 5, none⟩ = some (.int .i64 tm) ∧ W.cell? ⟨w.heap.size + 1, 6, none⟩ = some (.int .i64 wt) ∧ W.cell? ⟨w.heap.size + 1, 7, none⟩ = some (.string ⟨tr.toArray⟩) ∧ W.cell? ⟨w.heap.size + 1, 8, none⟩ = some (.string ⟨st.toArray⟩) ∧ W.cell? ⟨w.heap.size + 1, 9, none⟩ = some (.slice fa m fc) :=
  ⟨h.ev 0 (by omega), h.ev 1 (by omega), h.ev 2 (by omega), h.ev 3 (by omega), h.ev 4 (by omega), h.ev 5 (by omega), h.ev 6 (by omega), h.ev 7 (by omega), h.ev 8 (by omega), h.ev 9 (by omega)⟩
theorem IV.tenF {w W : World} {g : Nat} {E : Nat → Value} (h : IV w g E W) :
    W.frozen? ⟨w.heap.size + 1, 0, none⟩ = false ∧ W.frozen? ⟨w.heap.size + 1, 1, none⟩ = false ∧ W.frozen? ⟨w.heap.size + 1, 2, none⟩ = false ∧ W.frozen? ⟨w.heap.size + 1, 3, none⟩ = false ∧ W.frozen? ⟨w.heap.size + 1, 4, none⟩ = false ∧ W.frozen? ⟨w.heap.size + 1, 5, none⟩ = false ∧ W.frozen? ⟨w.heap.size + 1, 6, none⟩ = false ∧ W.frozen? ⟨w.heap.size + 1, 7, none⟩ = false ∧ W.frozen? ⟨w.heap.size + 1, 8, none⟩ = false ∧ W.frozen? ⟨w.heap.size + 1, 9, none⟩ = false :=
  ⟨h.fz 0 (by omega), h.fz 1 (by omega), h.fz 2 (by omega), h.fz 3 (by omega), h.fz 4 (by omega), h.fz 5 (by omega), h.fz 6 (by omega), h.fz 7 (by omega), h.fz 8 (by omega), h.fz 9 (by omega)⟩
theorem IV.tenA {w W : World} {g : Nat} {to tm wt : Int} {la : Option Addr} {n lc : Nat} {tr st : List UInt8} {fa : Option Addr} {m fc : Nat} (h : IV w g (evE to tm wt la n lc tr st fa m fc) W) (hg : g < w.heap.size) :
    (∀ o, (W.alloc o).cell? ⟨w.heap.size + 1, 0, none⟩ = some (.int .i64 1)) ∧ (∀ o, (W.alloc o).cell? ⟨w.heap.size + 1, 1, none⟩ = some (.int .i64 5)) ∧ (∀ o, (W.alloc o).cell? ⟨w.heap.size + 1, 2, none⟩ = some (.int .i64 0)) ∧ (∀ o, (W.alloc o).cell? ⟨w.heap.size + 1, 3, none⟩ = some (.int .i64 to)) ∧ (∀ o, (W.alloc o).cell? ⟨w.heap.size + 1, 4, none⟩ = some (.slice la n lc)) ∧ (∀ o, (W.alloc o).cell? ⟨w.heap.size + 1, 5, none⟩ = some (.int .i64 tm)) ∧ (∀ o, (W.alloc o).cell? ⟨w.heap.size + 1, 6, none⟩ = some (.int .i64 wt)) ∧ (∀ o, (W.alloc o).cell? ⟨w.heap.size + 1, 7, none⟩ = some (.string ⟨tr.toArray⟩)) ∧ (∀ o, (W.alloc o).cell? ⟨w.heap.size + 1, 8, none⟩ = some (.string ⟨st.toArray⟩)) ∧ (∀ o, (W.alloc o).cell? ⟨w.heap.size + 1, 9, none⟩ = some (.slice fa m fc)) :=
  ⟨fun o => (h.al hg o).ev 0 (by omega), fun o => (h.al hg o).ev 1 (by omega), fun o => (h.al hg o).ev 2 (by omega), fun o => (h.al hg o).ev 3 (by omega), fun o => (h.al hg o).ev 4 (by omega), fun o => (h.al hg o).ev 5 (by omega), fun o => (h.al hg o).ev 6 (by omega), fun o => (h.al hg o).ev 7 (by omega), fun o => (h.al hg o).ev 8 (by omega), fun o => (h.al hg o).ev 9 (by omega)⟩
theorem IV.elf {w W : World} {g : Nat} {E : Nat → Value} (h : IV w g E W) : ∃ u0 u1 u2 u3 u4 u5 u6 u7 u8 u9 u10, W.cell? ⟨w.heap.size, 0, none⟩ = some u0 ∧ W.cell? ⟨w.heap.size, 1, none⟩ = some u1 ∧ W.cell? ⟨w.heap.size, 2, none⟩ = some u2 ∧ W.cell? ⟨w.heap.size, 3, none⟩ = some u3 ∧ W.cell? ⟨w.heap.size, 4, none⟩ = some u4 ∧ W.cell? ⟨w.heap.size, 5, none⟩ = some u5 ∧ W.cell? ⟨w.heap.size, 6, none⟩ = some u6 ∧ W.cell? ⟨w.heap.size, 7, none⟩ = some u7 ∧ W.cell? ⟨w.heap.size, 8, none⟩ = some u8 ∧ W.cell? ⟨w.heap.size, 9, none⟩ = some u9 ∧ W.cell? ⟨w.heap.size, 10, none⟩ = some u10 := by
  obtain ⟨u0, h0⟩ := h.it 0 (by omega)
  obtain ⟨u1, h1⟩ := h.it 1 (by omega)
  obtain ⟨u2, h2⟩ := h.it 2 (by omega)
  obtain ⟨u3, h3⟩ := h.it 3 (by omega)
  obtain ⟨u4, h4⟩ := h.it 4 (by omega)
  obtain ⟨u5, h5⟩ := h.it 5 (by omega)
  obtain ⟨u6, h6⟩ := h.it 6 (by omega)
  obtain ⟨u7, h7⟩ := h.it 7 (by omega)
  obtain ⟨u8, h8⟩ := h.it 8 (by omega)
  obtain ⟨u9, h9⟩ := h.it 9 (by omega)
  obtain ⟨u10, h10⟩ := h.it 10 (by omega)
  exact ⟨u0, u1, u2, u3, u4, u5, u6, u7, u8, u9, u10, h0, h1, h2, h3, h4, h5, h6, h7, h8, h9, h10⟩
theorem IV.elfF {w W : World} {g : Nat} {E : Nat → Value} (h : IV w g E W) : W.frozen? ⟨w.heap.size, 0, none⟩ = false ∧ W.frozen? ⟨w.heap.size, 1, none⟩ = false ∧ W.frozen? ⟨w.heap.size, 2, none⟩ = false ∧ W.frozen? ⟨w.heap.size, 3, none⟩ = false ∧ W.frozen? ⟨w.heap.size, 4, none⟩ = false ∧ W.frozen? ⟨w.heap.size, 5, none⟩ = false ∧ W.frozen? ⟨w.heap.size, 6, none⟩ = false ∧ W.frozen? ⟨w.heap.size, 7, none⟩ = false ∧ W.frozen? ⟨w.heap.size, 8, none⟩ = false ∧ W.frozen? ⟨w.heap.size, 9, none⟩ = false ∧ W.frozen? ⟨w.heap.size, 10, none⟩ = false :=
  ⟨h.itf 0 (by omega), h.itf 1 (by omega), h.itf 2 (by omega), h.itf 3 (by omega), h.itf 4 (by omega), h.itf 5 (by omega), h.itf 6 (by omega), h.itf 7 (by omega), h.itf 8 (by omega), h.itf 9 (by omega), h.itf 10 (by omega)⟩

/-- Cells that are stored one behind the other. -/
def setL (W : World) (b : Nat) : List Value → Nat → World
  | [], _ => W
  | v :: vs, i => setL (W.setCell ⟨b, i, none⟩ v) b vs (i + 1)
theorem nest_eq (W : World) {b : Nat} {v0 v1 v2 v3 v4 v5 v6 v7 v8 v9 v10 : Value} : (((((((((((W.setCell ⟨b, 0, none⟩ v0).setCell ⟨b, 1, none⟩ v1).setCell ⟨b, 2, none⟩ v2).setCell ⟨b, 3, none⟩ v3).setCell ⟨b, 4, none⟩ v4).setCell ⟨b, 5, none⟩ v5).setCell ⟨b, 6, none⟩ v6).setCell ⟨b, 7, none⟩ v7).setCell ⟨b, 8, none⟩ v8).setCell ⟨b, 9, none⟩ v9).setCell ⟨b, 10, none⟩ v10) = setL W b [v0, v1, v2, v3, v4, v5, v6, v7, v8, v9, v10] 0 := rfl
theorem setL_below {B b : Nat} (hB : B ≤ b) (vs : List Value) : ∀ (W : World) (i : Nat), Below B W (setL W b vs i) := by
  induction vs with
  | nil => intro W i; exact Below.refl _ _
  | cons v vs ih => intro W i; exact ((Below.refl _ W).setCell (p := ⟨b, i, none⟩) hB v).trans (ih _ _)
theorem setL_heap {b k : Nat} (vs : List Value) (hk : k ≠ b) : ∀ (W : World) (i : Nat), (setL W b vs i).heap[k]? = W.heap[k]? := by
  induction vs with
  | nil => intro W i; rfl
  | cons v vs ih => intro W i; exact (ih _ _).trans (Below.heap_setCell _ _ _ k (fun e => hk e))
theorem FI.except {W W' : World} {b n : Nat} {fa : Option Addr} {fc : Nat} {d : List Fd} (h : FI W (.slice fa d.length fc) d) (hb : ∀ k, (Value.slice fa n fc).ownBlock = some k → k ≠ b) (hs : W.heap.size ≤ W'.heap.size) (he : ∀ k, k ≠ b → W'.heap[k]? = W.heap[k]?) : FI W' (.slice fa d.length fc) d := by
  obtain ⟨a, c, e, h⟩ := h
  injection e with e1 e2 e3
  subst e1
  refine ⟨fa, fc, rfl, fun h0 => ?_⟩
  obtain ⟨g, off, rfl, hg, hf⟩ := h h0
  have hn : g ≠ b := hb g rfl
  exact ⟨g, off, rfl, Nat.lt_of_lt_of_le hg hs, fun i hi => ⟨(World.cell?_of_block (w := W) (w' := W') (a := ⟨g, off + i * 2, none⟩) (he g hn)).trans (hf i hi).1, (World.cell?_of_block (w := W) (w' := W') (a := ⟨g, off + i * 2 + 1, none⟩) (he g hn)).trans (hf i hi).2⟩⟩
theorem setL_other {b : Nat} (vs : List Value) : ∀ (W : World) (i j : Nat), j < i → (setL W b vs i).cell? ⟨b, j, none⟩ = W.cell? ⟨b, j, none⟩ := by
  induction vs with
  | nil => intro W i j _; rfl
  | cons v vs ih =>
    intro W i j h
    rw [setL, ih _ _ _ (by omega), World.cell?_setCell_other _ _ _ _ (by intro e; simp only [Addr.mk.injEq] at e; omega)]
theorem setL_at {b : Nat} (vs : List Value) : ∀ (W : World) (i : Nat), (∀ j, i ≤ j → j < i + vs.length → ∃ u, W.cell? ⟨b, j, none⟩ = some u) → ∀ j v, vs[j]? = some v → (setL W b vs i).cell? ⟨b, i + j, none⟩ = some v := by
  induction vs with
  | nil => intro W i _ j v h; simp at h
  | cons x vs ih =>
    intro W i hx j v h
    rw [setL]
    cases j with
    | zero =>
      simp at h
      subst h
      show (setL (W.setCell ⟨b, i, none⟩ x) b vs (i + 1)).cell? ⟨b, i, none⟩ = some x
      rw [setL_other vs _ (i + 1) i (Nat.lt_succ_self i)]
      obtain ⟨u, hu⟩ := hx i (Nat.le_refl _) (by simp)
      exact World.cell?_setCell_same _ _ _ hu
    | succ j =>
      rw [show i + (j + 1) = i + 1 + j by omega]
      refine ih _ _ (fun k h1 h2 => ?_) j v (by simpa using h)
      obtain ⟨u, hu⟩ := hx k (by omega) (by simp; omega)
      exact ⟨u, by rw [World.cell?_setCell_other _ _ _ _ (by intro e; simp only [Addr.mk.injEq] at e; omega)]; exact hu⟩
theorem results_item {P : Program} {fn : Func} {p : Tmp} {ty : TypeId} (h : fn.results = #[.cell p ty]) (tmps : Array Value) (w : World) (g : Nat) (cs : List Value) (d : TypeDesc)
    (hp : tmps.getD p undef = .pointer (some ⟨g, 0, none⟩)) (hc : ∀ j v, cs[j]? = some v → w.cell? ⟨g, j, none⟩ = some v)
    (hu : P.underlying ty = some d) (hd : (match d with | .struct _ | .array _ _ => true | _ => false) = true) (hi : (P.info? ty).map (·.size) = some cs.length) :
    (results fn tmps).run P w = .ok (.agg cs.toArray) w := by
  have hl : (loadCells ⟨g, 0, none⟩ cs.length).run P w = .ok cs.toArray w :=
    run_loadCells_list (P := P) w ⟨g, 0, none⟩ cs (fun j v hv => by
      have hadd : (⟨g, 0, none⟩ : Addr).add j = ⟨g, j, none⟩ := by unfold Addr.add; split <;> simp_all
      rw [hadd]
      exact hc j v hv)
  have hv : (loadVar ty ⟨g, 0, none⟩).run P w = .ok (.agg cs.toArray) w := by
    cases hq : P.info? ty with
    | none => simp [hq] at hi
    | some i =>
      have hs : i.size = cs.length := by simpa [hq] using hi
      have hagg : (isAgg ty).run P w = .ok true w := by
        unfold isAgg
        rw [Sem.run_bind, run_underlying hu w]
        cases d <;> simp_all
      simp [loadVar, Sem.run_bind, hagg, sizeOf, typeInfo, hq, hs, hl]
  have hp' : tmps[p]?.getD undef = .pointer (some ⟨g, 0, none⟩) := by simpa using hp
  simp [results, h, hp', asAddr, hv]
/-- An event or a skip. -/
def ItemQ (g : Nat) (w : World) (e : Ending) (w' : World) : Prop :=
  ∃ (r : ByteArray) (to : Int) (la : Option Addr) (n lc tm wt : Nat) (tr st : List UInt8) (fa : Option Addr) (fc : Nat) (d : List Fd),
    e = .returned (.agg #[.string r, .int .i64 1, .int .i64 5, .int .i64 0, .int .i64 to, .slice la n lc, .int .i64 tm, .int .i64 wt, .string ⟨tr.toArray⟩, .string ⟨st.toArray⟩, .slice fa d.length fc]) ∧
    FI w' (.slice fa d.length fc) d ∧ (∀ k, (Value.slice fa d.length fc).ownBlock = some k → g < k) ∧ EvOk ⟨1, 5, tm, wt, tr, st, d⟩ ∧ CodesAt w' g ∧ Apart g w w'
theorem IV.fin {w W W' : World} {g : Nat} {E : Nat → Value} (h : IV w g E W) (hg : g < w.heap.size) (hb : Below w.heap.size W W') : CodesAt W' g ∧ Apart g w W' :=
  ⟨h.codes.of_below hg hb, h.apart.1.trans (hb.mono (by omega)), fun k h1 h2 => (hb.block k h2).trans (h.apart.2 k h1 h2)⟩
/-- The end: the item is stored and handed back. -/
theorem IV.ret {w W : World} {g : Nat} {E : Nat → Value} (h : IV w g E W) (hg : g < w.heap.size) (tmps : Array Value) (df : _) (hdf : df = []) (r : ByteArray) (to : Int) (la : Option Addr) (n lc tm wt : Nat) (tr st : List UInt8) (fa : Option Addr) (fc : Nat) (d : List Fd)
    (hp : tmps.getD 8 undef = .pointer (some ⟨w.heap.size, 0, none⟩)) (hf : ∀ W', W.heap.size ≤ W'.heap.size → (∀ k, k ≠ w.heap.size → W'.heap[k]? = W.heap[k]?) → FI W' (.slice fa d.length fc) d) (hk : ∀ k, (Value.slice fa d.length fc).ownBlock = some k → g < k) (ho : EvOk ⟨1, 5, tm, wt, tr, st, d⟩) :
    bodyPost Tryd.prog Tryd.f6 (ItemQ g w) Exit.ret { tmps := tmps, defers := df }
      (setL W w.heap.size [.string r, .int .i64 1, .int .i64 5, .int .i64 0, .int .i64 to, .slice la n lc, .int .i64 tm, .int .i64 wt, .string ⟨tr.toArray⟩, .string ⟨st.toArray⟩, .slice fa d.length fc] 0) := by
  have hb := setL_below (B := w.heap.size) (b := w.heap.size) (Nat.le_refl _) [.string r, .int .i64 1, .int .i64 5, .int .i64 0, .int .i64 to, .slice la n lc, .int .i64 tm, .int .i64 wt, .string ⟨tr.toArray⟩, .string ⟨st.toArray⟩, .slice fa d.length fc] W 0
  have hc := setL_at (b := w.heap.size) [.string r, .int .i64 1, .int .i64 5, .int .i64 0, .int .i64 to, .slice la n lc, .int .i64 tm, .int .i64 wt, .string ⟨tr.toArray⟩, .string ⟨st.toArray⟩, .slice fa d.length fc] W 0 (fun j _ hj => h.it j (by simpa using hj))
  obtain ⟨h1, h2⟩ := h.fin hg hb
  refine bodyPost_ret (results_item (ty := 31) rfl tmps _ w.heap.size [.string r, .int .i64 1, .int .i64 5, .int .i64 0, .int .i64 to, .slice la n lc, .int .i64 tm, .int .i64 wt, .string ⟨tr.toArray⟩, .string ⟨st.toArray⟩, .slice fa d.length fc] _ hp (fun j v hv => by have := hc j v hv; rwa [Nat.zero_add] at this) Tryd.underlying31 rfl (by kernel_rfl)) hdf ⟨r, to, la, n, lc, tm, wt, tr, st, fa, fc, d, rfl, hf _ hb.size (fun k hk => setL_heap _ hk _ _), hk, ho, h1, h2⟩
theorem EvV.of {W : World} {to tm wt : Nat} {la : Option Addr} {n lc : Nat} {tr st : List UInt8} {fa : Option Addr} {fc : Nat} {d : List Fd} (hf : FI W (.slice fa d.length fc) d) :
    EvV W (.agg #[.int .i64 1, .int .i64 5, .int .i64 0, .int .i64 to, .slice la n lc, .int .i64 tm, .int .i64 wt, .string ⟨tr.toArray⟩, .string ⟨st.toArray⟩, .slice fa d.length fc]) ⟨1, 5, tm, wt, tr, st, d⟩ :=
  ⟨0, to, la, n, lc, fa, fc, rfl, hf⟩

end Go.Proofs.YtmcnhphmglmmeabDoor

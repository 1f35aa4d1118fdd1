/-
  Repair of package ascii: the string and the number of damaged bytes, for every slice of bytes.
-/
import Derived.Test.YtloilffkggkgdaaDoorAscC
import Derived.RangeFuncKeeps
namespace Go.Proofs.YtloilffkggkgdaaDoor
open Go.RowKit Go.Shelf
attribute [local go_sem] Oper.semAt_some

theorem Bld.kept {B b : Nat} {bs : List Value} {W W' : World} {row : Option Nat} (h : Bld B b bs W) (hg : W.grownBy W' row) (hb : some b ≠ row) (hrow : ∀ r, row = some r → ∀ c fz, W.heap[r]? ≠ some (.cells c 5 fz)) : Bld B b bs W' := by
  have key : ∀ p, Lib.BuilderAt 43 5 B b p bs W → Lib.BuilderAt 43 5 B b p bs W' := by
    rintro p ⟨hB, v, hbk, hown, hne⟩
    have hlt : b < W.heap.size := (Array.getElem?_eq_some_iff.1 hbk).1
    refine ⟨hB, v, (hg.block b hlt hb).trans hbk, hown.kept hg ?_, hne⟩
    cases hv : v.ownBlock with
    | none => exact .inl rfl
    | some g =>
      obtain ⟨c, fz, hc⟩ := ownsRow_kind hown g hv
      exact .inr fun e => hrow g e.symm c fz hc
  exact h.elim (fun x => .inl (key _ x)) (fun x => .inr (key _ x))

/-- A LOOP OVER AN ITERATOR THAT KEEPS ITS PLACE IN A BOX: the law, from the iterator's contract and the body's walk. -/
theorem range_box {P : Program} {m : Nat} {g : Operand} {ps : Array Tmp} {assign body : Code} {Q : Exit → Act → World → Prop} {a : Act} {w : World}
    {gf : Nat} {lb : Array Value} (hg : a.eval g = .func (.func gf) #[] lb) (eg : ∀ args w, (callFunc gf args).run P w = .ok (.enter gf args) w)
    (Bs n0 N : Nat) (T : TypeId) (hn0 : n0 ≤ w.heap.size) (encs : Nat → Array Value) (nx : Nat → Nat) (hps : ∀ k, (encs k).size = ps.size)
    (I : Nat → World → Prop) (hIset : ∀ k W v, I k W → I k (W.setCell ⟨Bs, 0, none⟩ v))
    (hIput : ∀ k W l o o', I k W → w.heap.size ≤ l → W.heap[l]? = some o → o.isCells = false → I k (W.putObj l o'))
    (h0 : ∀ o, I 0 ((w.alloc (.deferred (some []))).alloc (.loop o)))
    (hseq : ∀ (l : Nat) (R : Nat → World → Prop), (∀ k W v, R k W → R k (W.setCell ⟨Bs, 0, none⟩ v)) →
      (∀ k W, R k W → k < N → YieldAt Fence.wide m P l (encs k) W fun e W' => e = .returned (.bool true) ∧ R (nx k) W' ∧ (∀ v, Boxed W Bs T v → Boxed W' Bs T v) ∧ Below n0 W W') →
      ∀ o, R 0 ((w.alloc (.deferred (some []))).alloc (.loop o)) → CallsIn Fence.wide (m + 1) P gf (#[.func (.yield l) #[] #[]] ++ lb) ((w.alloc (.deferred (some []))).alloc (.loop o)) fun e W' => (∃ v, e = .returned v) ∧ R N W')
    (a₁ : Nat → Act)
    (hassign : ∀ (l k : Nat) (W : World) (K : Act → World → Prop), K (a₁ k) W →
      assign.wpIn (Fence.wide.inRound l) m P (Exit.then K (fun _ _ _ => False)) { tmps := (ps.zip (encs k)).foldl (fun t (p, v) => t.setIfInBounds p v) a.tmps, defers := [] } W)
    (hbody : ∀ (l k : Nat) (W : World), I k W → k < N → body.wpIn (Fence.wide.inRound l) m P (fun e _ W' => e = .normal ∧ KeepsOthers W W' ∧ Below n0 W W' ∧ (∀ v, Boxed W Bs T v → Boxed W' Bs T v) ∧ I (nx k) W') (a₁ k) W)
    (hdone : ∀ W, I N W → W.heap[w.heap.size]? = some (.deferred (some [])) → Q .normal { a with defers := { target := .collected w.heap.size, args := #[] } :: a.defers } W) :
    (Code.rangeFunc g ps assign body).wpIn Fence.wide (m + 2) P Q a w := by
  refine wpIn_rangeFunc ?_
  intro fn hfn
  have hro : Fence.wide.round = none := rfl
  rw [hro]
  obtain ⟨rec, hrec⟩ : ∃ rec : LoopState → Option Code → Loop, rec = fun st pe => { state := st, pending := pe, fn, tmps := a.tmps, params := ps, assign, body, defers := w.heap.size } := ⟨_, rfl⟩
  have hL1 : ((w.alloc (.deferred (some []))).alloc (.loop (rec .ready none))).heap[w.heap.size + 1]? = some (.loop (rec .ready none)) := by
    have := World.alloc_heap_new (w.alloc (.deferred (some []))) (.loop (rec .ready none)); rwa [World.size_alloc] at this
  have hK1 : ((w.alloc (.deferred (some []))).alloc (.loop (rec .ready none))).heap[w.heap.size]? = some (.deferred (some [])) :=
    (Below.heap_alloc _ _ _ (by simp)).trans (World.alloc_heap_new w _)
  refine ⟨w.heap.size + 1, [{ target := .collected w.heap.size, args := #[] }], (w.alloc (.deferred (some []))).alloc (.loop (rec .ready none)), { target := .fn (.func gf) lb, args := #[.func (.yield (w.heap.size + 1)) #[] #[]] }, (w.alloc (.deferred (some []))).alloc (.loop (rec .ready none)), gf,
    #[.func (.yield (w.heap.size + 1)) #[] #[]] ++ lb, (w.alloc (.deferred (some []))).alloc (.loop (rec .ready none)), ?_, ?_, ?_, ?_, fun _ => by omega, ?_⟩
  · rw [hrec]; exact run_enterLoop_outer _ _ _ _ _
  · simp only [resolve, hg]
    simp [go_sem]
  · intro f' _; trivial
  · simp [invoke, go_sem, eg]
  · refine (hseq (w.heap.size + 1) (fun k W => I k W ∧ W.heap[w.heap.size + 1]? = some (.loop (rec .ready none)) ∧ W.heap[w.heap.size]? = some (.deferred (some [])))
      ?_ ?_ (rec .ready none) ⟨h0 _, hL1, hK1⟩).mono ?_
    · rintro k W v ⟨hi, hl, hk⟩
      exact ⟨hIset _ _ _ hi, (KeepsOthers.setCell W _ v).same _ _ hl rfl, (KeepsOthers.setCell W _ v).same _ _ hk rfl⟩
    · rintro k W ⟨hi, hl, hk⟩ hlt
      have hlt' : w.heap.size + 1 < W.heap.size := (Array.getElem?_eq_some_iff.1 hl).1
      have hy := run_yield (P := P) (args := encs k) hl (by rw [hrec]; exact hps k)
      rw [hrec] at hy
      refine ⟨fn, _, assign, body, hy, roundIn_of_wpIn hfn (hassign _ k W _ ⟨_, run_beginRound hl (by rw [hrec]), ?_⟩)⟩
      have hl2 : (W.putObj (w.heap.size + 1) (.loop { rec .ready none with state := .busy })).heap[w.heap.size + 1]? = some (.loop { rec .ready none with state := .busy }) := World.putObj_heap_same hlt'
      have hk2 : (W.putObj (w.heap.size + 1) (.loop { rec .ready none with state := .busy })).heap[w.heap.size]? = some (.deferred (some [])) := (World.putObj_heap_other (by omega)).trans hk
      have hb2 : Below n0 W (W.putObj (w.heap.size + 1) (.loop { rec .ready none with state := .busy })) := belowK_b hn0 _ _ _ _ (by omega) hl rfl rfl
      have hx2 : ∀ v, Boxed W Bs T v → Boxed (W.putObj (w.heap.size + 1) (.loop { rec .ready none with state := .busy })) Bs T v := fun v hv => by
        have hne : w.heap.size + 1 ≠ Bs := fun e => by
          have hv' : W.heap[Bs]? = _ := hv
          rw [← e, hl] at hv'; cases hv'
        exact (World.putObj_heap_other (Ne.symm hne)).trans hv
      refine wpIn_mono (hbody _ k _ (hIput _ _ _ _ _ hi (by omega) hl rfl) hlt) ?_
      rintro e a3 W3 ⟨rfl, hk3, hb3, hx3, hi3⟩
      have hl3 := hk3.same _ _ hl2 rfl
      have hr := run_endRound (P := P) none hl3
      rw [hrec] at hr
      have hl3' := hl3
      rw [hrec] at hl3'
      refine ⟨_, _, hr, rfl, ⟨hIput _ _ _ _ _ hi3 (by omega) hl3' rfl, ?_, ?_⟩, ?_, ?_⟩
      · rw [hrec]; exact World.putObj_heap_same (Array.getElem?_eq_some_iff.1 hl3).1
      · exact (World.putObj_heap_other (by omega)).trans (hk3.same _ _ hk2 rfl)
      · intro v hv
        have hv3 := hx3 v (hx2 v hv)
        have hne : w.heap.size + 1 ≠ Bs := fun e => by
          have hv' : W3.heap[Bs]? = _ := hv3
          rw [← e, hl3] at hv'; cases hv'
        exact (World.putObj_heap_other (Ne.symm hne)).trans hv3
      · exact (hb2.trans hb3).trans (belowK_b hn0 _ _ _ _ (by omega) hl3 rfl rfl)
    · rintro e W2 ⟨⟨v, rfl⟩, hi, hl, hk⟩
      refine ⟨none, _, by have := run_endLoop (P := P) hl (by rw [hrec]; simp); rw [hrec] at this; exact this, ?_⟩
      refine hdone _ (hIput _ _ _ _ _ hi (by omega) hl rfl) ((World.putObj_heap_other (by omega)).trans hk)

/-- What Repair's own memory holds when k bytes have come: the builder, the counter, the iterator's box. -/
structure RepI (w : World) (bs : List UInt8) (k : Nat) (out : List UInt8) (c : Nat) (W : World) : Prop where
  bld : Bld w.heap.size w.heap.size (Lib.byteCells out) W
  cnt : Boxed W (w.heap.size + 1) 3 (.int .i64 c)
  sbox : ∃ v, Boxed W (w.heap.size + 2) 22 v
  e1 : Asc.repL bs = out ++ Asc.repL (bs.drop k)
  e2 : Asc.badL bs = c + Asc.badL (bs.drop k)
  len : out.length = k
  cle : c ≤ k
  below : Below w.heap.size w W

end Go.Proofs.YtloilffkggkgdaaDoor

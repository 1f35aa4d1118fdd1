/-
  Queries in memory.
-/
import Derived.Test.YtmcnhphmglmmeaaQryJ
namespace Go.Proofs.Ytmcnhphmglmmeaa
open Go.RowKit

/-- A query, plainly. -/
structure QQ where
  t : QT
  ss : List QS
  kd : Int
  lm : Int
  ls : Bool
  ns : List (List UInt8)
  gs : List (Int × List UInt8)
  sk : Int
  o : QT
  ky : List UInt8
  wi : Int
def qVal (op : Int) (nm tx : List UInt8) (num : Int) (a : Option Addr) (n c : Nat) (sa : Option Addr) (sn sc : Nat) (kd lm : Int) (ls : Bool) (na : Option Addr) (nn nc : Nat) (ga : Option Addr) (gn gc : Nat) (sk : Int)
    (oop : Int) (onm otx : List UInt8) (onum : Int) (oa : Option Addr) (on oc : Nat) (ky : List UInt8) (wi : Int) : Array Value :=
  #[.int .i64 op, .string ⟨nm.toArray⟩, .string ⟨tx.toArray⟩, .int .i64 num, .slice a n c, .slice sa sn sc, .int .i64 kd, .int .i64 lm, .bool ls, .slice na nn nc, .slice ga gn gc, .int .i64 sk,
    .int .i64 oop, .string ⟨onm.toArray⟩, .string ⟨otx.toArray⟩, .int .i64 onum, .slice oa on oc, .string ⟨ky.toArray⟩, .int .i64 wi]
def QAt (w : World) (q : QQ) (v : Value) : Prop := ∃ op nm tx num a n c sa sn sc na nn nc ga gn gc oop onm otx onum oa on oc,
  v = .agg (qVal op nm tx num a n c sa sn sc q.kd q.lm q.ls na nn nc ga gn gc q.sk oop onm otx onum oa on oc q.ky q.wi) ∧
  TAt w q.t (.agg #[.int .i64 op, .string ⟨nm.toArray⟩, .string ⟨tx.toArray⟩, .int .i64 num, .slice a n c]) ∧ LAt w q.ss (.slice sa sn sc) ∧ NAt w q.ns (.slice na nn nc) ∧ GAt w q.gs (.slice ga gn gc) ∧
  TAt w q.o (.agg #[.int .i64 oop, .string ⟨onm.toArray⟩, .string ⟨otx.toArray⟩, .int .i64 onum, .slice oa on oc])
theorem QAt.later {w w' : World} (hb : Below w.heap.size w w') {q : QQ} {v : Value} (h : QAt w q v) : QAt w' q v := by
  obtain ⟨op, nm, tx, num, a, n, c, sa, sn, sc, na, nn, nc, ga, gn, gc, oop, onm, otx, onum, oa, on, oc, e, h1, h2, h3, h4, h5⟩ := h
  exact ⟨op, nm, tx, num, a, n, c, sa, sn, sc, na, nn, nc, ga, gn, gc, oop, onm, otx, onum, oa, on, oc, e, TAt.later hb _ _ h1, h2.later hb, h3.later hb, h4.later hb, TAt.later hb _ _ h5⟩

noncomputable def eqQ (s t : QQ) : Bool := @decide (s = t) (Classical.propDecidable _)
theorem eqQ_no {s t : QQ} (h : s ≠ t) : eqQ s t = false := by unfold eqQ; exact @decide_eq_false _ (Classical.propDecidable _) h
theorem eqQ_yes {s t : QQ} (h : s = t) : eqQ s t = true := by unfold eqQ; exact @decide_eq_true _ (Classical.propDecidable _) h

/-- Two boxes of the call's own. -/
structure QPre (w W : World) (C1 C2 : Array Value) : Prop where
  size : W.heap.size = w.heap.size + 2
  below : Below w.heap.size w W
  c1 : ∀ W', Below W.heap.size W W' → ∀ i u, C1[i]? = some u → W'.cell? ⟨w.heap.size, i, none⟩ = some u
  c2 : ∀ W', Below W.heap.size W W' → ∀ i u, C2[i]? = some u → W'.cell? ⟨w.heap.size + 1, i, none⟩ = some u
theorem qpre (w : World) (C1 C2 : Array Value) : QPre w ((w.alloc (.cells C1 29)).alloc (.cells C2 29)) C1 C2 := by
  have hs : ((w.alloc (.cells C1 29)).alloc (.cells C2 29)).heap.size = w.heap.size + 2 := by simp
  refine ⟨hs, ((Below.refl _ w).alloc (Nat.le_refl _) _).alloc (by simp) _, fun W' hb i u h => ?_, fun W' hb i u h => ?_⟩
  · refine (hb.cell (p := ⟨w.heap.size, i, none⟩) (by rw [hs]; show w.heap.size < _; omega)).trans ?_
    simp [go_sem, h]
  · refine (hb.cell (p := ⟨w.heap.size + 1, i, none⟩) (by rw [hs]; show w.heap.size + 1 < _; omega)).trans ?_
    simp [go_sem, h]

end Go.Proofs.Ytmcnhphmglmmeaa

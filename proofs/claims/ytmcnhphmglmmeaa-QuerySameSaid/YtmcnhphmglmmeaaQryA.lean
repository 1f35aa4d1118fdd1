/-
  Trees of tests in memory.
-/
import Derived.Test.YtmcnhphmglmmeaaDraw
namespace Go.Proofs.Ytmcnhphmglmmeaa
open Go.RowKit

/-- A test, plainly. -/
inductive QT where
  | node (op : Int) (name text : List UInt8) (num : Int) (kids : List QT)
/-- The value v is the test t in the world w. -/
def TAt (w : World) : QT → Value → Prop
  | .node op nm tx num kids, v => ∃ a c, v = .agg #[.int .i64 op, .string ⟨nm.toArray⟩, .string ⟨tx.toArray⟩, .int .i64 num, .slice a kids.length c] ∧ kids.length ≤ 9223372036854775807 ∧
    (0 < kids.length → ∃ blk off, a = some ⟨blk, off, none⟩ ∧ blk < w.heap.size ∧ ∀ i (h : i < kids.length), ∃ u0 u1 u2 u3 u4,
      w.cell? ⟨blk, off + i * 5, none⟩ = some u0 ∧ w.cell? ⟨blk, off + i * 5 + 1, none⟩ = some u1 ∧ w.cell? ⟨blk, off + i * 5 + 2, none⟩ = some u2 ∧ w.cell? ⟨blk, off + i * 5 + 3, none⟩ = some u3 ∧ w.cell? ⟨blk, off + i * 5 + 4, none⟩ = some u4 ∧
      TAt w kids[i] (.agg #[u0, u1, u2, u3, u4]))
termination_by t => SizeOf.sizeOf t
decreasing_by
  have := List.sizeOf_lt_of_mem (List.getElem_mem h)
  simp
  omega
theorem TAt.later {w w' : World} (hb : Below w.heap.size w w') : ∀ (t : QT) (v : Value), TAt w t v → TAt w' t v
  | .node op nm tx num kids, v, h => by
    rw [TAt] at h ⊢
    obtain ⟨a, c, e, hm, hk⟩ := h
    refine ⟨a, c, e, hm, fun h0 => ?_⟩
    obtain ⟨blk, off, e1, hl, hc⟩ := hk h0
    refine ⟨blk, off, e1, Nat.lt_of_lt_of_le hl hb.size, fun i hi => ?_⟩
    obtain ⟨u0, u1, u2, u3, u4, c0, c1, c2, c3, c4, ht⟩ := hc i hi
    exact ⟨u0, u1, u2, u3, u4, (hb.cell (p := ⟨blk, off + i * 5, none⟩) hl).trans c0, (hb.cell (p := ⟨blk, off + i * 5 + 1, none⟩) hl).trans c1, (hb.cell (p := ⟨blk, off + i * 5 + 2, none⟩) hl).trans c2, (hb.cell (p := ⟨blk, off + i * 5 + 3, none⟩) hl).trans c3, (hb.cell (p := ⟨blk, off + i * 5 + 4, none⟩) hl).trans c4, TAt.later hb kids[i] _ ht⟩
termination_by t => SizeOf.sizeOf t
decreasing_by
  have := List.sizeOf_lt_of_mem (List.getElem_mem hi)
  simp
  omega

end Go.Proofs.Ytmcnhphmglmmeaa

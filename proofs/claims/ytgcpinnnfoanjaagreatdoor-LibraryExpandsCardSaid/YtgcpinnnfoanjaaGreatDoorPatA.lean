/-
  Nodes of patterns in memory.
-/
import Derived.Test.YtgcpinnnfoanjaaGreatDoorRowM
namespace Go.Proofs.YtgcpinnnfoanjaaGreatDoor
open Go.RowKit

/-- A node, plainly. -/
inductive NT where
  | node (op : Int) (rs : List (UInt8 × UInt8)) (name : List UInt8) (kids : List NT) (mn mx : Int)
def RgAt (w : World) (rs : List (UInt8 × UInt8)) (v : Value) : Prop := ∃ a c, v = .slice a rs.length c ∧ rs.length ≤ 9223372036854775807 ∧
    (∀ i (h : i < rs.length), ∃ blk off, a = some ⟨blk, off, none⟩ ∧ blk < w.heap.size ∧ w.cell? ⟨blk, off + i * 2, none⟩ = some (.int .u8 (rs[i].1.toNat : Int)) ∧ w.cell? ⟨blk, off + i * 2 + 1, none⟩ = some (.int .u8 (rs[i].2.toNat : Int)))
theorem RgAt.later {w w' : World} (hb : Below w.heap.size w w') {rs : List (UInt8 × UInt8)} {v : Value} (h : RgAt w rs v) : RgAt w' rs v := by
  obtain ⟨a, c, e, hm, hk⟩ := h
  refine ⟨a, c, e, hm, fun i hi => ?_⟩
  obtain ⟨blk, off, e1, hl, c0, c1⟩ := hk i hi
  exact ⟨blk, off, e1, Nat.lt_of_lt_of_le hl hb.size, (hb.cell (p := ⟨blk, off + i * 2, none⟩) hl).trans c0, (hb.cell (p := ⟨blk, off + i * 2 + 1, none⟩) hl).trans c1⟩
/-- The value v is the node t in the world w. -/
def NAt (w : World) : NT → Value → Prop
  | .node op rs nm kids mn mx, v => ∃ ra rc a c, v = .agg #[.int .i64 op, .slice ra rs.length rc, .string ⟨nm.toArray⟩, .slice a kids.length c, .int .i64 mn, .int .i64 mx] ∧ (RgAt w rs (.slice ra rs.length rc) ∧ kids.length ≤ 9223372036854775807 ∧ nm.length ≤ 9223372036854775807) ∧
    (0 < kids.length → ∃ blk off, a = some ⟨blk, off, none⟩ ∧ blk < w.heap.size ∧ ∀ i (h : i < kids.length), ∃ u0 u1 u2 u3 u4 u5,
      w.cell? ⟨blk, off + i * 6, none⟩ = some u0 ∧ w.cell? ⟨blk, off + i * 6 + 1, none⟩ = some u1 ∧ w.cell? ⟨blk, off + i * 6 + 2, none⟩ = some u2 ∧ w.cell? ⟨blk, off + i * 6 + 3, none⟩ = some u3 ∧ w.cell? ⟨blk, off + i * 6 + 4, none⟩ = some u4 ∧ w.cell? ⟨blk, off + i * 6 + 5, none⟩ = some u5 ∧
      NAt w kids[i] (.agg #[u0, u1, u2, u3, u4, u5]))
termination_by t => SizeOf.sizeOf t
decreasing_by
  have := List.sizeOf_lt_of_mem (List.getElem_mem h)
  simp
  omega
theorem NAt.later {w w' : World} (hb : Below w.heap.size w w') : ∀ (t : NT) (v : Value), NAt w t v → NAt w' t v
  | .node op rs nm kids mn mx, v, h => by
    rw [NAt] at h ⊢
    obtain ⟨ra, rc, a, c, e, hm, hk⟩ := h
    refine ⟨ra, rc, a, c, e, ⟨hm.1.later hb, hm.2⟩, fun h0 => ?_⟩
    obtain ⟨blk, off, e1, hl, hc⟩ := hk h0
    refine ⟨blk, off, e1, Nat.lt_of_lt_of_le hl hb.size, fun i hi => ?_⟩
    obtain ⟨u0, u1, u2, u3, u4, u5, c0, c1, c2, c3, c4, c5, ht⟩ := hc i hi
    exact ⟨u0, u1, u2, u3, u4, u5, (hb.cell (p := ⟨blk, off + i * 6, none⟩) hl).trans c0, (hb.cell (p := ⟨blk, off + i * 6 + 1, none⟩) hl).trans c1, (hb.cell (p := ⟨blk, off + i * 6 + 2, none⟩) hl).trans c2, (hb.cell (p := ⟨blk, off + i * 6 + 3, none⟩) hl).trans c3, (hb.cell (p := ⟨blk, off + i * 6 + 4, none⟩) hl).trans c4, (hb.cell (p := ⟨blk, off + i * 6 + 5, none⟩) hl).trans c5, NAt.later hb kids[i] _ ht⟩
termination_by t => SizeOf.sizeOf t
decreasing_by
  have := List.sizeOf_lt_of_mem (List.getElem_mem hi)
  simp
  omega
theorem NAt.open {w : World} {t : NT} {v : Value} (h : NAt w t v) : ∃ op rs nm kids mn mx ra rc a c, t = .node op rs nm kids mn mx ∧ v = .agg #[.int .i64 op, .slice ra rs.length rc, .string ⟨nm.toArray⟩, .slice a kids.length c, .int .i64 mn, .int .i64 mx] ∧ RgAt w rs (.slice ra rs.length rc) ∧ (kids.length ≤ 9223372036854775807 ∧ nm.length ≤ 9223372036854775807) ∧
    (∀ i (h : i < kids.length), ∃ blk off op' ra' rn' rc' nm' a' n' c' mn' mx', a = some ⟨blk, off, none⟩ ∧ blk < w.heap.size ∧ w.cell? ⟨blk, off + i * 6, none⟩ = some (.int .i64 op') ∧ w.cell? ⟨blk, off + i * 6 + 1, none⟩ = some (.slice ra' rn' rc') ∧
      w.cell? ⟨blk, off + i * 6 + 2, none⟩ = some (.string ⟨(nm' : List UInt8).toArray⟩) ∧ w.cell? ⟨blk, off + i * 6 + 3, none⟩ = some (.slice a' n' c') ∧ w.cell? ⟨blk, off + i * 6 + 4, none⟩ = some (.int .i64 mn') ∧ w.cell? ⟨blk, off + i * 6 + 5, none⟩ = some (.int .i64 mx') ∧
      NAt w kids[i] (.agg #[.int .i64 op', .slice ra' rn' rc', .string ⟨nm'.toArray⟩, .slice a' n' c', .int .i64 mn', .int .i64 mx'])) := by
  obtain ⟨op, rs, nm, kids, mn, mx⟩ := t
  rw [NAt] at h
  obtain ⟨ra, rc, a, c, e, hm, hk⟩ := h
  refine ⟨op, rs, nm, kids, mn, mx, ra, rc, a, c, rfl, e, hm.1, hm.2, fun i hi => ?_⟩
  obtain ⟨blk, off, e1, hl, hc⟩ := hk (by omega)
  obtain ⟨u0, u1, u2, u3, u4, u5, c0, c1, c2, c3, c4, c5, ht⟩ := hc i hi
  have ht2 := ht
  generalize kids[i] = t' at ht ht2
  obtain ⟨op', rs', nm', kids', mn', mx'⟩ := t'
  rw [NAt] at ht
  obtain ⟨ra', rc', a', c', e2, _, _⟩ := ht
  injection e2 with e2
  simp only [Array.mk.injEq, List.cons.injEq, and_true] at e2
  obtain ⟨rfl, rfl, rfl, rfl, rfl, rfl⟩ := e2
  exact ⟨blk, off, op', ra', _, rc', nm', a', _, c', mn', mx', e1, hl, c0, c1, c2, c3, c4, c5, ht2⟩
theorem kid_lt {op : Int} {rs : List (UInt8 × UInt8)} {nm : List UInt8} {kids : List NT} {mn mx : Int} (i : Nat) (h : i < kids.length) : SizeOf.sizeOf kids[i] < SizeOf.sizeOf (NT.node op rs nm kids mn mx) := by
  have := List.sizeOf_lt_of_mem (List.getElem_mem h)
  simp
  omega

mutual
def nSz : NT → Nat
  | .node _ _ _ ks _ _ => min (nSzs 1 ks) 401
def nSzs : Nat → List NT → Nat
  | n, [] => n
  | n, k :: ks => if 400 < n then n else nSzs (n + nSz k) ks
end
theorem nSz_le (t : NT) : nSz t ≤ 401 := by
  obtain ⟨op, rs, nm, kids, mn, mx⟩ := t
  rw [nSz]
  omega
theorem nSzs_step {kids : List NT} {k : Nat} (h : k < kids.length) (n : Nat) : nSzs n (kids.drop k) = if 400 < n then n else nSzs (n + nSz kids[k]) (kids.drop (k + 1)) := by
  rw [List.drop_eq_getElem_cons h, nSzs]

end Go.Proofs.YtgcpinnnfoanjaaGreatDoor

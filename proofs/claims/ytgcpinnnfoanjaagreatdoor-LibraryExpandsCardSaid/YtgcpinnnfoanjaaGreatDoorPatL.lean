/-
  The reference's walk over a node.
-/
import Derived.Test.YtgcpinnnfoanjaaGreatDoorPatK
namespace Go.Proofs.YtgcpinnnfoanjaaGreatDoor
open Go.RowKit

def WalkP (w0 w : World) (B : Nat) (vn : Value) (r : Nat × List (List UInt8) × Nat) (e : Ending) (w' : World) : Prop :=
  ∃ v', e = .returned (.tuple #[.int .i64 r.1, v', .int .i64 r.2.2]) ∧ w'.ownsRow B 9 1 v' r.2.1.length (strCellsL r.2.1) ∧ CF (fun _ => False) vn v' w w' ∧ Below w0.heap.size w0 w'
structure WKS (w0 Wb : World) (B : Nat) (vn : Value) (ns : List (List UInt8)) (v : Value) (W : World) : Prop where
  row : W.ownsRow B 9 1 v ns.length (strCellsL ns)
  cf : CF (fun _ => False) vn v Wb W
  bl : Below w0.heap.size w0 W
  BW : B ≤ W.heap.size
  B0 : w0.heap.size ≤ B
section
variable {w0 Wb W W' : World} {B : Nat} {vn v : Value} {ns : List (List UInt8)}
theorem WKS.below (h : WKS w0 Wb B vn ns v W) (hb : Below W.heap.size W W') : WKS w0 Wb B vn ns v W' :=
  ⟨own_at h.row fun k hk => hb.block k (h.row.lt k hk).2, h.cf.trans (CF.of_below hb), h.bl.trans (hb.mono h.bl.size), Nat.le_trans h.BW hb.size, h.B0⟩
theorem WKS.push {o : Obj} {q cap H : Nat} (h : WKS w0 Wb B vn ns v W) (hgr : (W.alloc o).grownBy W' v.ownBlock) (hat : v.ownBlock = some q ∨ q = H) (hH : (W.alloc o).heap.size = H) (nm : List UInt8)
    (ho : W'.ownsRow B 9 1 (.slice (some ⟨q, 0, none⟩) (ns.length + 1) cap) (ns.length + 1) (strCellsL ns ++ [.string ⟨nm.toArray⟩])) : WKS w0 Wb B vn (ns ++ [nm]) (.slice (some ⟨q, 0, none⟩) (ns.length + 1) cap) W' := by
  refine ⟨?_, h.cf.trans (CF.push hgr hat hH.symm), h.bl.trans (((Below.refl _ W).alloc h.bl.size o).grown hgr (by have := h.bl.size; simp; omega) (fun k hk => by have := (h.row.lt k hk).1; have := h.B0; omega)), Nat.le_trans h.BW (Nat.le_trans (by simp) hgr.size), h.B0⟩
  have : (ns ++ [nm]).length = ns.length + 1 := by simp
  rw [this, show strCellsL (ns ++ [nm]) = strCellsL ns ++ [.string ⟨nm.toArray⟩] by simp [strCellsL]]
  exact ho
theorem WKS.box (h : WKS w0 Wb B vn ns v W) {b n : Nat} {E : Nat → Value} (hbk : BK b n E Wb) (hv : vn.ownBlock ≠ some b) : BK b n E W := hbk.keep (h.cf.keep b hbk.lt (fun h => h) hv) h.cf.size
theorem WKS.call (h : WKS w0 Wb B vn ns v W) {r : Nat × List (List UInt8) × Nat} {v' : Value} (h1 : W'.ownsRow B 9 1 v' r.2.1.length (strCellsL r.2.1)) (h2 : CF (fun _ => False) v v' W W') (h3 : Below w0.heap.size w0 W') : WKS w0 Wb B vn r.2.1 v' W' :=
  ⟨h1, h.cf.trans h2, h3, Nat.le_trans h.BW h2.size, h.B0⟩
end

end Go.Proofs.YtgcpinnnfoanjaaGreatDoor

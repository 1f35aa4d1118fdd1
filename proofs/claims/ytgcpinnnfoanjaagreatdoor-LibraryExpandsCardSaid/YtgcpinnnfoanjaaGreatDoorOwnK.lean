/-
  APPENDING TO A ROW OF THE CALL'S OWN WHOSE ELEMENTS HAVE SEVERAL CELLS, over any program.
-/
import Derived.Test.YtgcpinnnfoanjaaGreatDoorOwn
namespace Go.Proofs.YtgcpinnnfoanjaaGreatDoor
open Go.RowKit

theorem wpList_append_k {P : Program} {wr : World} {ops : Array Oper} {rest : List Oper} {o : Oper} {a : Act} {Q : Exit → Act → World → Prop} (hgd : o.guard = none) (s x : Operand) (t e : TypeId) (z : Value) (k bytes : Nat)
    (ho : o.op = .call { callee := .builtin .append, args := #[s, x], argTypes := #[t, t] }) (ht : P.underlying t = some (.slice e)) (hinfo : (P.info? e).map (fun i => (i.zero, i.size, i.bytes)) = some (some z, k, bytes)) (hzs : z.cells.size = k) (hk : 0 < k)
    (B : Nat) (v : Value) (n : Nat) (xs : List Value) (hs : a.eval s = v) (hown : wr.ownsRow B e k v n xs) (ys : List Value) (hyl : ys.length = k) (g : Nat) (hgz : g = wr.heap.size) (hx : a.eval x = .slice (some ⟨g, 0, none⟩) 1 1) (hy : ∀ u ∈ ys, u.oneCell' = true)
    (hn : n + 1 ≤ 140737488355328) (hb : (n + 1) * bytes ≤ 140737488355328) (hB : B ≤ wr.heap.size)
    (h : ∀ v' w', w'.ownsRow B e k v' (n + 1) (xs ++ ys) → (wr.alloc (.cells ys.toArray e)).grownBy w' v.ownBlock → wpList P ops Q rest (a.put o.dst v') w') : wpList P ops Q (o :: rest) a (wr.alloc (.cells ys.toArray e)) := by
  obtain ⟨i0, hi, hz0, hz1, hz2⟩ := info_parts hinfo
  subst hgz
  refine wpList_append_own _ hgd s x t ho B e i0 z k bytes ht hi hz0 hz1 hz2 hzs hk v n xs hs (hown.alloc _) ⟨wr.heap.size, 0, none⟩ 1 1 ys hx (by rw [hyl]; omega) ?_ hy ?_ hb ?_ (fun v' w' h1 h2 _ => h v' w' h1 h2)
  · intro j u hj
    have e1 : (⟨wr.heap.size, 0, none⟩ : Addr).add j = ⟨wr.heap.size, j, none⟩ := by unfold Addr.add; split <;> simp_all
    rw [e1]
    simp [World.cell?, World.alloc, -World.alloc_eq]
    exact hj
  · unfold maxLen; omega
  · simp; omega

end Go.Proofs.YtgcpinnnfoanjaaGreatDoor

/-
  APPENDING ONE ELEMENT TO A ROW OF THE CALL'S OWN, over any program.
-/
import Derived.Test.YtgcpinnnfoanjaaGreatDoorKit
import Derived.Laws.AppendOwn
namespace Go.Proofs.YtgcpinnnfoanjaaGreatDoor
open Go.RowKit

theorem wpList_append_1 {P : Program} {wr : World} {ops : Array Oper} {rest : List Oper} {o : Oper} {a : Act} {Q : Exit → Act → World → Prop} (hgd : o.guard = none) (s x : Operand) (t e : TypeId) (z : Value) (bytes : Nat)
    (ho : o.op = .call { callee := .builtin .append, args := #[s, x], argTypes := #[t, t] }) (ht : P.underlying t = some (.slice e)) (hinfo : (P.info? e).map (fun i => (i.zero, i.size, i.bytes)) = some (some z, 1, bytes)) (hzs : z.cells.size = 1)
    (B : Nat) (v : Value) (n : Nat) (xs : List Value) (hs : a.eval s = v) (hown : wr.ownsRow B e 1 v n xs) (y : Value) (hx : a.eval x = .slice (some ⟨wr.heap.size, 0, none⟩) 1 1) (hy : y.oneCell' = true)
    (hn : n + 1 ≤ 140737488355328) (hb : (n + 1) * bytes ≤ 140737488355328) (hB : B ≤ wr.heap.size)
    (h : ∀ v' w', w'.ownsRow B e 1 v' (n + 1) (xs ++ [y]) → (wr.alloc (.cells #[y] e)).grownBy w' v.ownBlock → wpList P ops Q rest (a.put o.dst v') w') : wpList P ops Q (o :: rest) a (wr.alloc (.cells #[y] e)) := by
  obtain ⟨i0, hi, hz0, hz1, hz2⟩ := info_parts hinfo
  refine wpList_append_own _ hgd s x t ho B e i0 z 1 bytes ht hi hz0 hz1 hz2 hzs (by decide) v n xs hs (hown.alloc _) ⟨wr.heap.size, 0, none⟩ 1 1 [y] hx rfl ?_ ?_ ?_ hb ?_ (fun v' w' h1 h2 _ => h v' w' h1 h2)
  · intro j u hj
    match j, hj with
    | 0, hj => simp at hj; subst hj; simp [Addr.add]
  · intro u hu; simp at hu; subst hu; exact hy
  · unfold maxLen; omega
  · simp; omega

theorem own_step {w W W' : World} {v : Value} {e : TypeId} {o : Obj} {n : Nat} {xs : List Value} (hb : Below w.heap.size w W) (hown : W.ownsRow w.heap.size e 1 v n xs) (hg : (W.alloc o).grownBy W' v.ownBlock) : Below w.heap.size w W' :=
  hb.trans (((Below.refl _ W).alloc hb.size _).grown hg (by have := hb.size; simp; omega) (fun k hk => (hown.lt k hk).1))

end Go.Proofs.YtgcpinnnfoanjaaGreatDoor

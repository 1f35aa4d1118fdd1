/-
  A MAP OF FUNCTIONS THAT A LITERAL MAKES ('map[string]func(..) ..{"a": f, ..}'), over any program.
-/
import Derived.Test.YtmcnhphmglmmeabDoorKit
import Derived.Maps.OwnOps
import Derived.Maps.OwnSet
namespace Go.Proofs.YtmcnhphmglmmeabDoor
open Go.RowKit Go.ChangeMaps Go.Maps

theorem wpList_insert_own {H : Type} {P : Program} (w : World) {ops : Array Oper} {rest : List Oper} {o : Oper} {a : Act} {Q : Exit → Act → World → Prop}
    (hg : o.guard = none) (m x v : Operand) (t : TypeId) (hop : o.op = Op.insert t m x v)
    (k e : TypeId) (K : Keyed P k) (ht : P.underlying t = some (.map k e)) (R : Value → Option (DataW H × List MemPlace)) (b n : Nat) (D : DataW H)
    (hm : a.eval m = .map (some b)) (hown : w.ownsMap P k R b n D) (hn : n < maxLen) (key val : Value) (kl : Lit) (hx : a.eval x = key) (hv : a.eval v = val) (hkey : keyOf P k key = some kl)
    (d : DataW H) (ps : List MemPlace) (hval : R val = some (d, ps))
    (hK : ∀ w', w'.ownsMap P k R b (n + 1) (D.put kl d) → w.grownBy w' (some b) → wpList P ops Q rest (a.put o.dst undef) w') :
    wpList P ops Q (o :: rest) a w := by
  refine wpList_plain hg fun K' hK' => ?_
  obtain ⟨w', hrun, r1, r2⟩ := hown.update K ht hn hkey hval
  unfold Oper.wp
  simp [execOp, hop, hm, hx, hv, hrun, Result.andThen]
  exact hK' _ _ (hK w' r1 r2)

/-- A function as an element: its number. -/
def fnElem (v : Value) : Option (DataW Unit × List MemPlace) := match v with
  | .func (.func f) a b => if a.size = 0 ∧ b.size = 0 then some (.lit (.int .i64 f), []) else none
  | .nilFunc => some (.nil, [])
  | _ => none
theorem fnElem_inv {v : Value} {f : Nat} {ps : List MemPlace} (h : fnElem v = some (.lit (.int .i64 f), ps)) : v = .func (.func f) #[] #[] := by
  unfold fnElem at h
  split at h
  · rename_i f' a b
    split at h
    · rename_i hc
      obtain ⟨ha, hb⟩ := hc
      simp only [Option.some.injEq, Prod.mk.injEq, DataW.lit.injEq, Lit.int.injEq, true_and] at h
      obtain ⟨h1, _⟩ := h
      have : f' = f := by first | exact h1 | exact_mod_cast h1
      rw [this, Array.size_eq_zero_iff.1 ha, Array.size_eq_zero_iff.1 hb]
    · cases h
  · cases h
  · cases h

end Go.Proofs.YtmcnhphmglmmeabDoor

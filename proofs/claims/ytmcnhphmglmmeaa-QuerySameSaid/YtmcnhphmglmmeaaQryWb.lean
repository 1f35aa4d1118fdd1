/-
  Same of the program and of the reference, for any two queries.
-/
import Derived.Test.YtmcnhphmglmmeaaQryM
import Derived.Test.YtmcnhphmglmmeaaQryKa
import Derived.Test.YtmcnhphmglmmeaaQryKb
import Derived.Test.YtmcnhphmglmmeaaQryKc
import Derived.Test.YtmcnhphmglmmeaaQryKd
import Derived.Test.YtmcnhphmglmmeaaQryKe
import Derived.Test.YtmcnhphmglmmeaaQryLa
import Derived.Test.YtmcnhphmglmmeaaQryLb
import Derived.Test.YtmcnhphmglmmeaaQryLc
import Derived.Test.YtmcnhphmglmmeaaQryLd
import Derived.Test.YtmcnhphmglmmeaaQryLe
namespace Go.Proofs.Ytmcnhphmglmmeaa
open Go.RowKit

theorem ret_no {P : Program} {f : FuncId} {args : Array Value} {w : World} {b : Bool} (hb : b = false) (h : Calls P f args w fun e w' => e = .returned (.bool false) ∧ Below w.heap.size w w') : Calls P f args w fun e w' => e = .returned (.bool b) ∧ Below w.heap.size w w' := hb ▸ h
theorem ret_yes {P : Program} {f : FuncId} {args : Array Value} {w : World} {b : Bool} (hb : b = true) (h : Calls P f args w fun e w' => e = .returned (.bool true) ∧ Below w.heap.size w w') : Calls P f args w fun e w' => e = .returned (.bool b) ∧ Below w.heap.size w w' := hb ▸ h
theorem qsame_any (p q : QQ) (u v : Value) (w : World) (hs : QAt w p u) (ht : QAt w q v) : Calls Try.prog 9 #[u, v] w fun e w' => e = .returned (.bool (eqQ p q)) ∧ Below w.heap.size w w' := by
  by_cases e0 : p.t = q.t
  case neg => exact ret_no (eqQ_no fun h => e0 (by rw [h])) (qsame_c0 p q u v w hs ht  e0)
  by_cases e1 : p.ss = q.ss
  case neg => exact ret_no (eqQ_no fun h => e1 (by rw [h])) (qsame_c1 p q u v w hs ht e0 e1)
  by_cases e2 : p.kd = q.kd
  case neg => exact ret_no (eqQ_no fun h => e2 (by rw [h])) (qsame_c2 p q u v w hs ht e0 e1 e2)
  by_cases e3 : p.lm = q.lm
  case neg => exact ret_no (eqQ_no fun h => e3 (by rw [h])) (qsame_c3 p q u v w hs ht e0 e1 e2 e3)
  by_cases e4 : p.ls = q.ls
  case neg => exact ret_no (eqQ_no fun h => e4 (by rw [h])) (qsame_c4 p q u v w hs ht e0 e1 e2 e3 e4)
  by_cases e5 : p.ns = q.ns
  case neg => exact ret_no (eqQ_no fun h => e5 (by rw [h])) (qsame_c5 p q u v w hs ht e0 e1 e2 e3 e4 e5)
  by_cases e6 : p.gs = q.gs
  case neg => exact ret_no (eqQ_no fun h => e6 (by rw [h])) (qsame_c6 p q u v w hs ht e0 e1 e2 e3 e4 e5 e6)
  by_cases e7 : p.sk = q.sk
  case neg => exact ret_no (eqQ_no fun h => e7 (by rw [h])) (qsame_c7 p q u v w hs ht e0 e1 e2 e3 e4 e5 e6 e7)
  by_cases e8 : p.o = q.o
  case neg => exact ret_no (eqQ_no fun h => e8 (by rw [h])) (qsame_c8 p q u v w hs ht e0 e1 e2 e3 e4 e5 e6 e7 e8)
  by_cases e9 : p.ky = q.ky
  case neg => exact ret_no (eqQ_no fun h => e9 (by rw [h])) (qsame_c9 p q u v w hs ht e0 e1 e2 e3 e4 e5 e6 e7 e8 e9)
  by_cases e10 : p.wi = q.wi
  case neg => exact ret_no (eqQ_no fun h => e10 (by rw [h])) (qsame_c10 p q u v w hs ht e0 e1 e2 e3 e4 e5 e6 e7 e8 e9 e10)
  exact ret_yes (eqQ_yes (by cases p; cases q; simp_all)) (qsame_c11 p q u v w hs ht e0 e1 e2 e3 e4 e5 e6 e7 e8 e9 e10)
theorem rsame_any (p q : QQ) (u v : Value) (w : World) (hs : QAt w p u) (ht : QAt w q v) : Calls Try.prog 10 #[u, v] w fun e w' => e = .returned (.bool (eqQ p q)) ∧ Below w.heap.size w w' := by
  by_cases e0 : p.t = q.t
  case neg => exact ret_no (eqQ_no fun h => e0 (by rw [h])) (rsame_c0 p q u v w hs ht  e0)
  by_cases e1 : p.ss.length = q.ss.length
  case neg => exact ret_no (eqQ_no fun h => e1 (by rw [h])) (rsame_c1 p q u v w hs ht e0 e1)
  by_cases e2 : p.kd = q.kd
  case neg => exact ret_no (eqQ_no fun h => e2 (by rw [h])) (rsame_c2 p q u v w hs ht e0 e1 e2)
  by_cases e3 : p.lm = q.lm
  case neg => exact ret_no (eqQ_no fun h => e3 (by rw [h])) (rsame_c3 p q u v w hs ht e0 e1 e2 e3)
  by_cases e4 : p.ls = q.ls
  case neg => exact ret_no (eqQ_no fun h => e4 (by rw [h])) (rsame_c4 p q u v w hs ht e0 e1 e2 e3 e4)
  by_cases e5 : p.ns.length = q.ns.length
  case neg => exact ret_no (eqQ_no fun h => e5 (by rw [h])) (rsame_c5 p q u v w hs ht e0 e1 e2 e3 e4 e5)
  by_cases e6 : p.gs.length = q.gs.length
  case neg => exact ret_no (eqQ_no fun h => e6 (by rw [h])) (rsame_c6 p q u v w hs ht e0 e1 e2 e3 e4 e5 e6)
  by_cases e7 : p.sk = q.sk
  case neg => exact ret_no (eqQ_no fun h => e7 (by rw [h])) (rsame_c7 p q u v w hs ht e0 e1 e2 e3 e4 e5 e6 e7)
  by_cases e8 : p.o = q.o
  case neg => exact ret_no (eqQ_no fun h => e8 (by rw [h])) (rsame_c8 p q u v w hs ht e0 e1 e2 e3 e4 e5 e6 e7 e8)
  by_cases e9 : p.ky = q.ky
  case neg => exact ret_no (eqQ_no fun h => e9 (by rw [h])) (rsame_c9 p q u v w hs ht e0 e1 e2 e3 e4 e5 e6 e7 e8 e9)
  by_cases e10 : p.wi = q.wi
  case neg => exact ret_no (eqQ_no fun h => e10 (by rw [h])) (rsame_c10 p q u v w hs ht e0 e1 e2 e3 e4 e5 e6 e7 e8 e9 e10)
  have h := rsame_eq p q u v w hs ht e0 e1 e2 e3 e4 e5 e6 e7 e8 e9 e10
  have hb : (eqL p.ss q.ss && eqL p.ns q.ns && eqL p.gs q.gs) = eqQ p q := by
    by_cases h1 : p.ss = q.ss
    · by_cases h5 : p.ns = q.ns
      · by_cases h6 : p.gs = q.gs
        · rw [eqL_yes h1, eqL_yes h5, eqL_yes h6, eqQ_yes (by cases p; cases q; simp_all)]
          rfl
        · rw [eqL_no h6, eqQ_no (fun h => h6 (by rw [h])), Bool.and_false]
      · rw [eqL_no h5, eqQ_no (fun h => h5 (by rw [h])), Bool.and_false, Bool.false_and]
    · rw [eqL_no h1, eqQ_no (fun h => h1 (by rw [h])), Bool.false_and, Bool.false_and]
  rw [hb] at h
  exact h

end Go.Proofs.Ytmcnhphmglmmeaa

/-
  A query is stored as a whole: by one law, not cell by cell.
-/
import Derived.Test.YtmcnhphmglmmeaaQryY
import Derived.Deep.WholeRow
namespace Go.Proofs.Ytmcnhphmglmmeaa
open Go.RowKit

def store19 (a : Addr) (v0 v1 v2 v3 v4 v5 v6 v7 v8 v9 v10 v11 v12 v13 v14 v15 v16 v17 v18 : Value) : Sem Unit := storeCells a [v0, v1, v2, v3, v4, v5, v6, v7, v8, v9, v10, v11, v12, v13, v14, v15, v16, v17, v18] 0
@[go_sem high] theorem storeCells19 (a : Addr) (v0 v1 v2 v3 v4 v5 v6 v7 v8 v9 v10 v11 v12 v13 v14 v15 v16 v17 v18 : Value) : storeCells a [v0, v1, v2, v3, v4, v5, v6, v7, v8, v9, v10, v11, v12, v13, v14, v15, v16, v17, v18] 0 = store19 a v0 v1 v2 v3 v4 v5 v6 v7 v8 v9 v10 v11 v12 v13 v14 v15 v16 v17 v18 := rfl
/-- Into the block that was made last. -/
@[go_sem] theorem run_store19 (w : World) (op : Int) (nm tx : ByteArray) (num : Int) (a : Option Addr) (n c : Nat) (sa : Option Addr) (sn sc : Nat) (kd lm : Int) (ls : Bool) (na : Option Addr) (nn nc : Nat) (ga : Option Addr) (gn gc : Nat) (sk oop : Int) (onm otx : ByteArray) (onum : Int) (oa : Option Addr) (on oc : Nat) (ky : ByteArray) (wi : Int) (u0 u1 u2 u3 u4 u5 u6 u7 u8 u9 u10 u11 u12 u13 u14 u15 u16 u17 u18 : Value) :
    (store19 ⟨w.heap.size, 0, none⟩ (.int .i64 op) (.string nm) (.string tx) (.int .i64 num) (.slice a n c) (.slice sa sn sc) (.int .i64 kd) (.int .i64 lm) (.bool ls) (.slice na nn nc) (.slice ga gn gc) (.int .i64 sk) (.int .i64 oop) (.string onm) (.string otx) (.int .i64 onum) (.slice oa on oc) (.string ky) (.int .i64 wi)).run Try.prog (w.alloc (.cells #[u0, u1, u2, u3, u4, u5, u6, u7, u8, u9, u10, u11, u12, u13, u14, u15, u16, u17, u18] 29)) =
      .ok () (w.alloc (.cells #[.int .i64 op, .string nm, .string tx, .int .i64 num, .slice a n c, .slice sa sn sc, .int .i64 kd, .int .i64 lm, .bool ls, .slice na nn nc, .slice ga gn gc, .int .i64 sk, .int .i64 oop, .string onm, .string otx, .int .i64 onum, .slice oa on oc, .string ky, .int .i64 wi] 29)) := by
  have := run_storeCells_new (P := Try.prog) w 29 #[u0, u1, u2, u3, u4, u5, u6, u7, u8, u9, u10, u11, u12, u13, u14, u15, u16, u17, u18] #[.int .i64 op, .string nm, .string tx, .int .i64 num, .slice a n c, .slice sa sn sc, .int .i64 kd, .int .i64 lm, .bool ls, .slice na nn nc, .slice ga gn gc, .int .i64 sk, .int .i64 oop, .string onm, .string otx, .int .i64 onum, .slice oa on oc, .string ky, .int .i64 wi] (by kernel_rfl) rfl (by simp [Value.oneCell'])
  exact this
theorem setCells_setL (b : Nat) : ∀ (vs : List Value) (i : Nat) (W : World), W.setCells b i vs = setL W b vs i
  | [], _, _ => rfl
  | v :: vs, i, W => by
    rw [World.setCells, setL, setCells_setL b vs (i + 1)]
/-- Into a block of the call's own. -/
@[go_sem] theorem run_store19_own (w : World) (b : Nat) (op : Int) (nm tx : ByteArray) (num : Int) (a : Option Addr) (n c : Nat) (sa : Option Addr) (sn sc : Nat) (kd lm : Int) (ls : Bool) (na : Option Addr) (nn nc : Nat) (ga : Option Addr) (gn gc : Nat) (sk oop : Int) (onm otx : ByteArray) (onum : Int) (oa : Option Addr) (on oc : Nat) (ky : ByteArray) (wi : Int) (h : BK b 19 zE w) :
    (store19 ⟨b, 0, none⟩ (.int .i64 op) (.string nm) (.string tx) (.int .i64 num) (.slice a n c) (.slice sa sn sc) (.int .i64 kd) (.int .i64 lm) (.bool ls) (.slice na nn nc) (.slice ga gn gc) (.int .i64 sk) (.int .i64 oop) (.string onm) (.string otx) (.int .i64 onum) (.slice oa on oc) (.string ky) (.int .i64 wi)).run Try.prog w = .ok () (setL w b [.int .i64 op, .string nm, .string tx, .int .i64 num, .slice a n c, .slice sa sn sc, .int .i64 kd, .int .i64 lm, .bool ls, .slice na nn nc, .slice ga gn gc, .int .i64 sk, .int .i64 oop, .string onm, .string otx, .int .i64 onum, .slice oa on oc, .string ky, .int .i64 wi] 0) := by
  have := run_storeCells_cells (P := Try.prog) b 0 [.int .i64 op, .string nm, .string tx, .int .i64 num, .slice a n c, .slice sa sn sc, .int .i64 kd, .int .i64 lm, .bool ls, .slice na nn nc, .slice ga gn gc, .int .i64 sk, .int .i64 oop, .string onm, .string otx, .int .i64 onum, .slice oa on oc, .string ky, .int .i64 wi] 0 w (fun j hj => by rw [Nat.zero_add, h.ev j (by simpa using hj)]; rfl) (fun j hj => h.fz _) (by simp [Value.oneCell'])
  rw [← setCells_setL]
  exact this

def load19 (a : Addr) : Sem (Array Value) := loadCellsFrom a 0 19 #[]
@[go_sem ↓] theorem loadCells19 (a : Addr) : loadCellsFrom a 0 19 #[] = load19 a := rfl
/-- A query is read as a whole. -/
theorem run_load19 {w : World} {b : Nat} {op : Int} {nm tx : List UInt8} {num : Int} {a : Option Addr} {n c : Nat} {sa : Option Addr} {sn sc : Nat} {kd lm : Int} {ls : Bool} {na : Option Addr} {nn nc : Nat} {ga : Option Addr} {gn gc : Nat} {sk : Int}
    {oop : Int} {onm otx : List UInt8} {onum : Int} {oa : Option Addr} {on oc : Nat} {ky : List UInt8} {wi : Int} (h : BK b 19 (xE op nm tx num a n c sa sn sc kd lm ls na nn nc ga gn gc sk oop onm otx onum oa on oc ky wi) w) :
    (load19 ⟨b, 0, none⟩).run Try.prog w = .ok (qVal op nm tx num a n c sa sn sc kd lm ls na nn nc ga gn gc sk oop onm otx onum oa on oc ky wi) w := by
  have hl := run_loadCells_list (P := Try.prog) w ⟨b, 0, none⟩ (qVal op nm tx num a n c sa sn sc kd lm ls na nn nc ga gn gc sk oop onm otx onum oa on oc ky wi).toList (fun j v hv => by
    have hadd : (⟨b, 0, none⟩ : Addr).add j = ⟨b, j, none⟩ := by unfold Addr.add; split <;> simp_all
    have hj : j < 19 := (List.getElem?_eq_some_iff.1 hv).1
    rw [hadd, h.ev j hj]
    unfold xE
    rw [getElem!_def]
    rw [Array.getElem?_toList] at hv
    rw [hv])
  simpa [loadCells, load19, qVal] using hl
theorem small_iff {op : Int} {nm tx : List UInt8} {num : Int} {a : Option Addr} {n c : Nat} {sa : Option Addr} {sn sc : Nat} {kd lm : Int} {ls : Bool} {na : Option Addr} {nn nc : Nat} {ga : Option Addr} {gn gc : Nat} {sk : Int}
    {oop : Int} {onm otx : List UInt8} {onum : Int} {oa : Option Addr} {on oc : Nat} {ky : List UInt8} {wi : Int} : Small (xE op nm tx num a n c sa sn sc kd lm ls na nn nc ga gn gc sk oop onm otx onum oa on oc ky wi) ↔ n ≤ 1000 ∧ sn ≤ 1000 ∧ nn ≤ 1000 ∧ gn ≤ 1000 ∧ on ≤ 1000 := Iff.rfl

end Go.Proofs.Ytmcnhphmglmmeaa

/-
  Queries as they come in: trees, stages, names and aggregates out of a reading.
-/
import Derived.Test.YtmcnhphmglmmeaaQryK
import Derived.ProofKit
import Derived.ChangeArms
import Derived.ChangeSlices
namespace Go.Proofs.Ytmcnhphmglmmeaa
open Go.ChangeShapes Go.WideShapes Go.ChangeAt Go.RowKit

theorem ex_list {α : Type} {R : Nat → α → Prop} (n : Nat) (h : ∀ i, i < n → ∃ t, R i t) : ∃ l : List α, l.length = n ∧ ∀ i (hi : i < l.length), R i l[i] := by
  refine ⟨List.ofFn fun i : Fin n => Classical.choose (h i.1 i.2), by simp, fun i hi => ?_⟩
  rw [List.getElem_ofFn]
  exact Classical.choose_spec (h i (by simpa using hi))

section
variable {H : Type} {enc : TypeId × Value → H} {P : Program} {W : World} {base : Nat} {sp : Nat → Bool} {hd : Bool}

theorem open_row {t e : TypeId} {fuel : Nat} {cs : List Value} {x : DataW H × List MemPlace} (k : Nat) (ht : P.underlying t = some (.slice e)) (hk : P.cellsOf e = k) (h0 : 0 < k)
    (h : DataW.trod enc P W base sp hd fuel t cs = some x) : ∃ a len cap, cs = [.slice a len cap] ∧ len ≤ 9223372036854775807 ∧ ∀ i, i < len → ∃ blk off es y n, a = some ⟨blk, off, none⟩ ∧ blk < W.heap.size ∧ n < fuel ∧
      es.length = k ∧ (∀ j, j < k → W.cell? ⟨blk, off + i * k + j, none⟩ = es[j]?) ∧ DataW.trod enc P W base sp hd n e es = some y := by
  rcases DataW.trod_slice ht h with ⟨rfl, _⟩ | ⟨a, len, cap, elems, rest, n, rfl, rfl, _, hb, hl, hm, hlen, hel, _, _⟩
  · exact ⟨none, 0, 0, rfl, by omega, fun i hi => by omega⟩
  refine ⟨some a, len, cap, rfl, Nat.le_trans hl hm, fun i hi => ?_⟩
  have h1 := hel i hi
  rw [hk, List.getElem?_eq_getElem (by omega)] at h1
  obtain ⟨es, h2, h3⟩ := Option.bind_eq_some_iff.1 h1
  obtain ⟨_, h4, h5⟩ := World.cells?_some h2
  obtain ⟨blk, off, spot⟩ := a
  have h6 := h5 0 h0
  rw [List.getElem?_eq_getElem (by omega)] at h6
  have hs : spot = none := by
    have g1 := hel 0 (by omega)
    rw [hk, List.getElem?_eq_getElem (by omega)] at g1
    obtain ⟨es0, g2, g3⟩ := Option.bind_eq_some_iff.1 g1
    obtain ⟨_, g4, g5⟩ := World.cells?_some g2
    have g6 := g5 0 h0
    rw [List.getElem?_eq_getElem (by omega), Nat.zero_mul] at g6
    have h9 := World.cell?_spot g6
    rw [show ∀ a : Addr, (a.add 0).add 0 = a from fun a => by simp [Addr.add]] at h9
    exact h9
  subst hs
  have h7 := World.block_lt_of_cell? _ _ h6
  simp only [add_plain] at h5 h6 h7
  exact ⟨blk, off, es, _, n, rfl, h7, Nat.lt_succ_self _, h4, h5, h3⟩

theorem open_fields {t : TypeId} {fs : Array Field} {fuel : Nat} {cs : List Value} {x : DataW H × List MemPlace} (ht : P.underlying t = some (.struct fs)) (h : DataW.trod enc P W base sp hd fuel t cs = some x) :
    ∃ n, n < fuel ∧ cs.length = P.cellsOf t ∧ ∀ (i : Nat) (f : Field), fs[i]? = some f → ∃ y, DataW.trod enc P W base sp hd n f.type ((cs.drop f.offset).take (P.cellsOf f.type)) = some y := by
  obtain ⟨xs, n, rfl, _, hl, hx, hf⟩ := DataW.trod_struct ht h
  refine ⟨n, Nat.lt_succ_self _, hl, fun i f hi => ?_⟩
  have := hf i f hi
  have hlt : i < fs.size := (Array.getElem?_eq_some_iff.1 hi).1
  rw [List.getElem?_eq_getElem (by omega)] at this
  exact ⟨_, this⟩
theorem fld {fs : Array Field} {cs : List Value} {n : Nat} (hf : ∀ (i : Nat) (f : Field), fs[i]? = some f → ∃ y, DataW.trod enc P W base sp hd n f.type ((cs.drop f.offset).take (P.cellsOf f.type)) = some y) (i T o k : Nat)
    (hT : (fs[i]?).map (fun f => (f.type, f.offset)) = some (T, o)) (hk : P.cellsOf T = k) : ∃ y, DataW.trod enc P W base sp hd n T ((cs.drop o).take k) = some y := by
  obtain ⟨f, h1, h2⟩ := Option.map_eq_some_iff.1 hT
  simp only [Prod.mk.injEq] at h2
  obtain ⟨rfl, rfl⟩ := h2
  rw [← hk]
  exact hf i f h1
theorem str_list (s : ByteArray) : s = ⟨(s.data.toList).toArray⟩ := by cases s; simp
end

theorem cInt : Try.prog.cellsOf 3 = 1 := by kernel_rfl
theorem cStr : Try.prog.cellsOf 9 = 1 := by kernel_rfl
theorem cBool : Try.prog.cellsOf 4 = 1 := by kernel_rfl
theorem cTest : Try.prog.cellsOf 24 = 5 := by kernel_rfl
theorem cTests : Try.prog.cellsOf 22 = 1 := by kernel_rfl
theorem cStage : Try.prog.cellsOf 41 = 7 := by kernel_rfl
theorem cAgg : Try.prog.cellsOf 48 = 2 := by kernel_rfl
theorem cQuery : Try.prog.cellsOf 29 = 19 := by kernel_rfl
theorem cStages : Try.prog.cellsOf 25 = 1 := by kernel_rfl
theorem cStrs : Try.prog.cellsOf 26 = 1 := by kernel_rfl
theorem cAggs : Try.prog.cellsOf 27 = 1 := by kernel_rfl

section
variable {H : Type} {enc : TypeId × Value → H} {W : World} {base : Nat} {sp : Nat → Bool} {hd : Bool}

theorem open_test (fuel : Nat) : ∀ (cs : List Value) (x : DataW H × List MemPlace), DataW.trod enc Try.prog W base sp hd fuel 24 cs = some x →
    ∃ t op nm tx num a n c, cs = [.int .i64 op, .string ⟨(nm : List UInt8).toArray⟩, .string ⟨(tx : List UInt8).toArray⟩, .int .i64 num, .slice a n c] ∧ TAt W t (.agg cs.toArray) := by
  induction fuel using Nat.strongRecOn with
  | _ fuel ih =>
  intro cs x h
  obtain ⟨n, hn, hl, hf⟩ := open_fields Try.underlying24 h
  rw [cTest] at hl
  obtain ⟨u0, u1, u2, u3, u4, rfl⟩ : ∃ u0 u1 u2 u3 u4, cs = [u0, u1, u2, u3, u4] := by
    match cs, hl with
    | [u0, u1, u2, u3, u4], _ => exact ⟨_, _, _, _, _, rfl⟩
  obtain ⟨y0, h0⟩ := fld hf 0 3 0 1 rfl cInt
  obtain ⟨y1, h1⟩ := fld hf 1 9 1 1 rfl cStr
  obtain ⟨y2, h2⟩ := fld hf 2 9 2 1 rfl cStr
  obtain ⟨y3, h3⟩ := fld hf 3 3 3 1 rfl cInt
  obtain ⟨y4, h4⟩ := fld hf 4 22 4 1 rfl cTests
  simp only [List.drop, List.take] at h0 h1 h2 h3 h4
  obtain ⟨op, e0, _, _⟩ := DataW.trod_int Try.underlying3 h0
  obtain ⟨nm, e1, _, _⟩ := DataW.trod_string Try.underlying9 h1
  obtain ⟨tx, e2, _, _⟩ := DataW.trod_string Try.underlying9 h2
  obtain ⟨num, e3, _, _⟩ := DataW.trod_int Try.underlying3 h3
  obtain ⟨a, len, cap, e4, hlen, hr⟩ := open_row 5 Try.underlying22 cTest (by decide) h4
  simp only [List.cons.injEq, and_true] at e0 e1 e2 e3 e4
  obtain ⟨kids, hkl, hk⟩ := ex_list (R := fun i t => ∃ blk off u0 u1 u2 u3 u4, a = some ⟨blk, off, none⟩ ∧ blk < W.heap.size ∧ W.cell? ⟨blk, off + i * 5, none⟩ = some u0 ∧ W.cell? ⟨blk, off + i * 5 + 1, none⟩ = some u1 ∧ W.cell? ⟨blk, off + i * 5 + 2, none⟩ = some u2 ∧ W.cell? ⟨blk, off + i * 5 + 3, none⟩ = some u3 ∧ W.cell? ⟨blk, off + i * 5 + 4, none⟩ = some u4 ∧ TAt W t (.agg #[u0, u1, u2, u3, u4])) len (fun i hi => by
    obtain ⟨blk, off, es, y, m, ea, hb, hm, hes, hc, ht⟩ := hr i hi
    obtain ⟨t, op', nm', tx', num', a', n', c', rfl, hT⟩ := ih m (by omega) es y ht
    exact ⟨t, blk, off, _, _, _, _, _, ea, hb, hc 0 (by decide), hc 1 (by decide), hc 2 (by decide), hc 3 (by decide), hc 4 (by decide), hT⟩)
  refine ⟨.node op nm.data.toList tx.data.toList num kids, op, nm.data.toList, tx.data.toList, num, a, len, cap, by rw [← str_list, ← str_list, e0, e1, e2, e3, e4], ?_⟩
  rw [TAt]
  subst hkl
  refine ⟨a, cap, by rw [← str_list, ← str_list, e0, e1, e2, e3, e4], hlen, fun hpos => ?_⟩
  obtain ⟨blk, off, _, _, _, _, _, ea, hb, _⟩ := hk 0 hpos
  refine ⟨blk, off, ea, hb, fun i hi => ?_⟩
  obtain ⟨blk', off', v0, v1, v2, v3, v4, ea', _, c0, c1, c2, c3, c4, hT⟩ := hk i hi
  rw [ea] at ea'
  simp only [Option.some.injEq, Addr.mk.injEq, and_true] at ea'
  obtain ⟨rfl, rfl⟩ := ea'
  exact ⟨v0, v1, v2, v3, v4, c0, c1, c2, c3, c4, hT⟩

theorem open_stage (fuel : Nat) (cs : List Value) (x : DataW H × List MemPlace) (h : DataW.trod enc Try.prog W base sp hd fuel 41 cs = some x) :
    ∃ (s : QS) (op : Int) (nm tx : List UInt8) (num : Int) (a : Option Addr) (n c : Nat), cs = [.bool s.ex, .string ⟨s.src.toArray⟩, .int .i64 op, .string ⟨nm.toArray⟩, .string ⟨tx.toArray⟩, .int .i64 num, .slice a n c] ∧ TAt W s.t (.agg #[.int .i64 op, .string ⟨nm.toArray⟩, .string ⟨tx.toArray⟩, .int .i64 num, .slice a n c]) := by
  obtain ⟨n, hn, hl, hf⟩ := open_fields Try.underlying41 h
  rw [cStage] at hl
  obtain ⟨u0, u1, u2, u3, u4, u5, u6, rfl⟩ : ∃ u0 u1 u2 u3 u4 u5 u6, cs = [u0, u1, u2, u3, u4, u5, u6] := by
    match cs, hl with
    | [u0, u1, u2, u3, u4, u5, u6], _ => exact ⟨_, _, _, _, _, _, _, rfl⟩
  obtain ⟨y0, h0⟩ := fld hf 0 4 0 1 rfl cBool
  obtain ⟨y1, h1⟩ := fld hf 1 9 1 1 rfl cStr
  obtain ⟨y2, h2⟩ := fld hf 2 24 2 5 rfl cTest
  simp only [List.drop, List.take] at h0 h1 h2
  obtain ⟨ex, e0, _⟩ := DataW.trod_bool Try.underlying4 h0
  obtain ⟨src, e1, _, _⟩ := DataW.trod_string Try.underlying9 h1
  obtain ⟨t, op, nm, tx, num, a, m, c, e2, hT⟩ := open_test n _ _ h2
  rw [e2] at hT
  simp only [List.cons.injEq, and_true] at e0 e1 e2
  obtain ⟨rfl, rfl, rfl, rfl, rfl⟩ := e2
  exact ⟨⟨ex, src.data.toList, t⟩, op, nm, tx, num, a, m, c, by rw [e0, e1, ← str_list], hT⟩

theorem open_stages {fuel : Nat} {cs : List Value} {x : DataW H × List MemPlace} (h : DataW.trod enc Try.prog W base sp hd fuel 25 cs = some x) :
    ∃ ss a n c, cs = [.slice a n c] ∧ LAt W ss (.slice a n c) := by
  obtain ⟨a, len, cap, e, hlen, hr⟩ := open_row 7 Try.underlying25 cStage (by decide) h
  obtain ⟨ss, hkl, hk⟩ := ex_list (R := fun i (s : QS) => ∃ blk off ex src op' nm' tx' num' a' n' c', a = some ⟨blk, off, none⟩ ∧ blk < W.heap.size ∧ W.cell? ⟨blk, off + i * 7, none⟩ = some (.bool ex) ∧ W.cell? ⟨blk, off + i * 7 + 1, none⟩ = some (.string ⟨(src : List UInt8).toArray⟩) ∧
      W.cell? ⟨blk, off + i * 7 + 2, none⟩ = some (.int .i64 op') ∧ W.cell? ⟨blk, off + i * 7 + 3, none⟩ = some (.string ⟨(nm' : List UInt8).toArray⟩) ∧
      W.cell? ⟨blk, off + i * 7 + 4, none⟩ = some (.string ⟨(tx' : List UInt8).toArray⟩) ∧ W.cell? ⟨blk, off + i * 7 + 5, none⟩ = some (.int .i64 num') ∧ W.cell? ⟨blk, off + i * 7 + 6, none⟩ = some (.slice a' n' c') ∧
      s.ex = ex ∧ s.src = src ∧ TAt W s.t (.agg #[.int .i64 op', .string ⟨nm'.toArray⟩, .string ⟨tx'.toArray⟩, .int .i64 num', .slice a' n' c'])) len (fun i hi => by
    obtain ⟨blk, off, es, y, m, ea, hb, hm, hes, hc, ht⟩ := hr i hi
    obtain ⟨s, op', nm', tx', num', a', n', c', rfl, hT⟩ := open_stage m es y ht
    exact ⟨s, blk, off, _, _, _, _, _, _, _, _, _, ea, hb, hc 0 (by decide), hc 1 (by decide), hc 2 (by decide), hc 3 (by decide), hc 4 (by decide), hc 5 (by decide), hc 6 (by decide), rfl, rfl, hT⟩)
  subst hkl
  exact ⟨ss, a, _, cap, e, a, cap, rfl, hlen, hk⟩
theorem open_names {fuel : Nat} {cs : List Value} {x : DataW H × List MemPlace} (h : DataW.trod enc Try.prog W base sp hd fuel 26 cs = some x) :
    ∃ ns a n c, cs = [.slice a n c] ∧ NAt W ns (.slice a n c) := by
  obtain ⟨a, len, cap, e, hlen, hr⟩ := open_row 1 Try.underlying26 cStr (by decide) h
  obtain ⟨ss, hkl, hk⟩ := ex_list (R := fun i (s : List UInt8) => ∃ blk off, a = some ⟨blk, off, none⟩ ∧ blk < W.heap.size ∧ W.cell? ⟨blk, off + i, none⟩ = some (.string ⟨s.toArray⟩)) len (fun i hi => by
    obtain ⟨blk, off, es, y, m, ea, hb, hm, hes, hc, ht⟩ := hr i hi
    obtain ⟨s, rfl, _, _⟩ := DataW.trod_string Try.underlying9 ht
    have h0 := hc 0 (by decide)
    rw [Nat.mul_one] at h0
    refine ⟨s.data.toList, blk, off, ea, hb, ?_⟩
    rw [← str_list]
    exact h0)
  subst hkl
  exact ⟨ss, a, _, cap, e, a, cap, rfl, hlen, hk⟩
theorem open_aggs {fuel : Nat} {cs : List Value} {x : DataW H × List MemPlace} (h : DataW.trod enc Try.prog W base sp hd fuel 27 cs = some x) :
    ∃ gs a n c, cs = [.slice a n c] ∧ GAt W gs (.slice a n c) := by
  obtain ⟨a, len, cap, e, hlen, hr⟩ := open_row 2 Try.underlying27 cAgg (by decide) h
  obtain ⟨ss, hkl, hk⟩ := ex_list (R := fun i (s : Int × List UInt8) => ∃ blk off, a = some ⟨blk, off, none⟩ ∧ blk < W.heap.size ∧ W.cell? ⟨blk, off + i * 2, none⟩ = some (.int .i64 s.1) ∧ W.cell? ⟨blk, off + i * 2 + 1, none⟩ = some (.string ⟨s.2.toArray⟩)) len (fun i hi => by
    obtain ⟨blk, off, es, y, m, ea, hb, hm, hes, hc, ht⟩ := hr i hi
    obtain ⟨n, hn, hl, hf⟩ := open_fields Try.underlying48 ht
    rw [cAgg] at hl
    obtain ⟨u0, u1, rfl⟩ : ∃ u0 u1, es = [u0, u1] := by
      match es, hl with
      | [u0, u1], _ => exact ⟨_, _, rfl⟩
    obtain ⟨y0, h0⟩ := fld hf 0 3 0 1 rfl cInt
    obtain ⟨y1, h1⟩ := fld hf 1 9 1 1 rfl cStr
    simp only [List.drop, List.take] at h0 h1
    obtain ⟨k, e0, _, _⟩ := DataW.trod_int Try.underlying3 h0
    obtain ⟨f, e1, _, _⟩ := DataW.trod_string Try.underlying9 h1
    simp only [List.cons.injEq, and_true] at e0 e1
    subst e0 e1
    refine ⟨(k, f.data.toList), blk, off, ea, hb, hc 0 (by decide), ?_⟩
    rw [← str_list]
    exact hc 1 (by decide))
  subst hkl
  exact ⟨ss, a, _, cap, e, a, cap, rfl, hlen, hk⟩

theorem open_query {v : Value} {d : DataW H} {p : List MemPlace} (hv : ∃ cs, v = .agg cs ∧ cs.size = Try.prog.cellsOf 29) (h : DataW.Trod enc Try.prog W base sp hd 29 v d p) : ∃ q, QAt W q v := by
  obtain ⟨cs, rfl, hcs⟩ := hv
  obtain ⟨fuel, h⟩ := h
  simp only [Value.cells] at h
  obtain ⟨n, hn, hl, hf⟩ := open_fields Try.underlying29 h
  rw [cQuery] at hl
  obtain ⟨l, rfl⟩ : ∃ l : List Value, cs = l.toArray := ⟨cs.toList, by simp⟩
  clear hcs
  simp only at hl hf h
  obtain ⟨u0, u1, u2, u3, u4, u5, u6, u7, u8, u9, u10, u11, u12, u13, u14, u15, u16, u17, u18, rfl⟩ : ∃ u0 u1 u2 u3 u4 u5 u6 u7 u8 u9 u10 u11 u12 u13 u14 u15 u16 u17 u18, l = [u0, u1, u2, u3, u4, u5, u6, u7, u8, u9, u10, u11, u12, u13, u14, u15, u16, u17, u18] := by
    match l, hl with
    | [u0, u1, u2, u3, u4, u5, u6, u7, u8, u9, u10, u11, u12, u13, u14, u15, u16, u17, u18], _ => exact ⟨_, _, _, _, _, _, _, _, _, _, _, _, _, _, _, _, _, _, _, rfl⟩
  obtain ⟨y0, h0⟩ := fld hf 0 24 0 5 rfl cTest
  obtain ⟨y1, h1⟩ := fld hf 1 25 5 1 rfl cStages
  obtain ⟨y2, h2⟩ := fld hf 2 3 6 1 rfl cInt
  obtain ⟨y3, h3⟩ := fld hf 3 3 7 1 rfl cInt
  obtain ⟨y4, h4⟩ := fld hf 4 4 8 1 rfl cBool
  obtain ⟨y5, h5⟩ := fld hf 5 26 9 1 rfl cStrs
  obtain ⟨y6, h6⟩ := fld hf 6 27 10 1 rfl cAggs
  obtain ⟨y7, h7⟩ := fld hf 7 3 11 1 rfl cInt
  obtain ⟨y8, h8⟩ := fld hf 8 24 12 5 rfl cTest
  obtain ⟨y9, h9⟩ := fld hf 9 9 17 1 rfl cStr
  obtain ⟨y10, h10⟩ := fld hf 10 3 18 1 rfl cInt
  simp only [List.drop, List.take] at h0 h1 h2 h3 h4 h5 h6 h7 h8 h9 h10
  obtain ⟨t, op, nm, tx, num, a, m, c, e0, hT⟩ := open_test n _ _ h0
  obtain ⟨ss, sa, sn, sc, e1, hS⟩ := open_stages h1
  obtain ⟨kd, e2, _, _⟩ := DataW.trod_int Try.underlying3 h2
  obtain ⟨lm, e3, _, _⟩ := DataW.trod_int Try.underlying3 h3
  obtain ⟨ls, e4, _⟩ := DataW.trod_bool Try.underlying4 h4
  obtain ⟨ns, na, nn, nc, e5, hN⟩ := open_names h5
  obtain ⟨gs, ga, gn, gc, e6, hG⟩ := open_aggs h6
  obtain ⟨sk, e7, _, _⟩ := DataW.trod_int Try.underlying3 h7
  obtain ⟨o, oop, onm, otx, onum, oa, on, oc, e8, hO⟩ := open_test n _ _ h8
  obtain ⟨ky, e9, _, _⟩ := DataW.trod_string Try.underlying9 h9
  obtain ⟨wi, e10, _, _⟩ := DataW.trod_int Try.underlying3 h10
  rw [e0] at hT
  rw [e8] at hO
  simp only [List.cons.injEq, and_true] at e0 e1 e2 e3 e4 e5 e6 e7 e8 e9 e10
  obtain ⟨rfl, rfl, rfl, rfl, rfl⟩ := e0
  obtain ⟨rfl, rfl, rfl, rfl, rfl⟩ := e8
  subst e1 e2 e3 e4 e5 e6 e7 e9 e10
  exact ⟨⟨t, ss, kd, lm, ls, ns, gs, sk, o, ky.data.toList, wi⟩, op, nm, tx, num, a, m, c, sa, sn, sc, na, nn, nc, ga, gn, gc, oop, onm, otx, onum, oa, on, oc, by rw [qVal, ← str_list], hT, hS, hN, hG, hO⟩
end

end Go.Proofs.Ytmcnhphmglmmeaa

/-
  Nodes of patterns as they come in.
-/
import Derived.Test.YtpbdcghiabhliaaDoorPatA
import Derived.Test.YtpbdcghiabhliaaDoorOpenB
import Derived.ProofKit
import Derived.ChangeArms
import Derived.ChangeSlices
namespace Go.Proofs.YtpbdcghiabhliaaDoor
open Go.ChangeShapes Go.WideShapes Go.ChangeAt Go.RowKit

theorem ex_list {α : Type} {R : Nat → α → Prop} (n : Nat) (h : ∀ i, i < n → ∃ t, R i t) : ∃ l : List α, l.length = n ∧ ∀ i (hi : i < l.length), R i l[i] := by
  refine ⟨List.ofFn fun i : Fin n => Classical.choose (h i.1 i.2), by simp, fun i hi => ?_⟩
  rw [List.getElem_ofFn]
  exact Classical.choose_spec (h i (by simpa using hi))

section
variable {H : Type} {enc : TypeId × Value → H} {P : Program} {W : World} {base : Nat} {sp : Nat → Bool} {hd : Bool}

theorem open_row {t e : TypeId} {fuel : Nat} {cs : List Value} {x : DataW H × List MemPlace} (k : Nat) (ht : P.underlying t = some (.slice e)) (hk : P.cellsOf e = k) (h0 : 0 < k)
    (h : DataW.trod enc P W base sp hd fuel t cs = some x) : ∃ a len cap, cs = [.slice a len cap] ∧ len ≤ 9223372036854775807 ∧ ∀ i, i < len → ∃ blk off es y n, a = some ⟨blk, off, none⟩ ∧ blk < W.heap.size ∧ n < fuel ∧
      es.length = k ∧ (∀ j, j < k → W.cell? ⟨blk, off + i * k + j, none⟩ = es[j]?) ∧ DataW.trod enc P W base sp hd n e es = some y := by
  rcases DataW.trod_slice ht h with ⟨rfl, _⟩ | ⟨a, len, cap, elems, rest, n, rfl, rfl, _, hb, hl, hm, hlen, hel, _, _⟩
  · exact ⟨none, 0, 0, rfl, by omega, fun i hi => by omega⟩
  refine ⟨some a, len, cap, rfl, Nat.le_trans hl hm, fun i hi => ?_⟩
  have h1 := hel i hi
  rw [hk, List.getElem?_eq_getElem (by omega)] at h1
  obtain ⟨es, h2, h3⟩ := Option.bind_eq_some_iff.1 h1
  obtain ⟨_, h4, h5⟩ := World.cells?_some h2
  obtain ⟨blk, off, spot⟩ := a
  have h6 := h5 0 h0
  rw [List.getElem?_eq_getElem (by omega)] at h6
  have hs : spot = none := by
    have g1 := hel 0 (by omega)
    rw [hk, List.getElem?_eq_getElem (by omega)] at g1
    obtain ⟨es0, g2, g3⟩ := Option.bind_eq_some_iff.1 g1
    obtain ⟨_, g4, g5⟩ := World.cells?_some g2
    have g6 := g5 0 h0
    rw [List.getElem?_eq_getElem (by omega), Nat.zero_mul] at g6
    have h9 := World.cell?_spot g6
    rw [show ∀ a : Addr, (a.add 0).add 0 = a from fun a => by simp [Addr.add]] at h9
    exact h9
  subst hs
  have h7 := World.block_lt_of_cell? _ _ h6
  simp only [add_plain] at h5 h6 h7
  exact ⟨blk, off, es, _, n, rfl, h7, Nat.lt_succ_self _, h4, h5, h3⟩

theorem open_fields {t : TypeId} {fs : Array Field} {fuel : Nat} {cs : List Value} {x : DataW H × List MemPlace} (ht : P.underlying t = some (.struct fs)) (h : DataW.trod enc P W base sp hd fuel t cs = some x) :
    ∃ n, n < fuel ∧ cs.length = P.cellsOf t ∧ ∀ (i : Nat) (f : Field), fs[i]? = some f → ∃ y, DataW.trod enc P W base sp hd n f.type ((cs.drop f.offset).take (P.cellsOf f.type)) = some y := by
  obtain ⟨xs, n, rfl, _, hl, hx, hf⟩ := DataW.trod_struct ht h
  refine ⟨n, Nat.lt_succ_self _, hl, fun i f hi => ?_⟩
  have := hf i f hi
  have hlt : i < fs.size := (Array.getElem?_eq_some_iff.1 hi).1
  rw [List.getElem?_eq_getElem (by omega)] at this
  exact ⟨_, this⟩
theorem fld {fs : Array Field} {cs : List Value} {n : Nat} (hf : ∀ (i : Nat) (f : Field), fs[i]? = some f → ∃ y, DataW.trod enc P W base sp hd n f.type ((cs.drop f.offset).take (P.cellsOf f.type)) = some y) (i T o k : Nat)
    (hT : (fs[i]?).map (fun f => (f.type, f.offset)) = some (T, o)) (hk : P.cellsOf T = k) : ∃ y, DataW.trod enc P W base sp hd n T ((cs.drop o).take k) = some y := by
  obtain ⟨f, h1, h2⟩ := Option.map_eq_some_iff.1 hT
  simp only [Prod.mk.injEq] at h2
  obtain ⟨rfl, rfl⟩ := h2
  rw [← hk]
  exact hf i f h1
theorem str_list (s : ByteArray) : s = ⟨(s.data.toList).toArray⟩ := by cases s; simp
end

theorem cNode : Tryd.prog.cellsOf 25 = 6 := by kernel_rfl
theorem cNodes : Tryd.prog.cellsOf 23 = 1 := by kernel_rfl
theorem cRange : Tryd.prog.cellsOf 51 = 2 := by kernel_rfl
theorem cRanges : Tryd.prog.cellsOf 22 = 1 := by kernel_rfl
theorem cIntN : Tryd.prog.cellsOf 3 = 1 := by kernel_rfl
theorem cStrN : Tryd.prog.cellsOf 9 = 1 := by kernel_rfl
theorem cU8N : Tryd.prog.cellsOf 5 = 1 := by kernel_rfl

section
variable {H : Type} {enc : TypeId × Value → H} {W : World} {base : Nat} {sp : Nat → Bool} {hd : Bool}

set_option maxRecDepth 1000000 in
theorem open_ranges {fuel : Nat} {cs : List Value} {x : DataW H × List MemPlace} (h : DataW.trod enc Tryd.prog W base sp hd fuel 22 cs = some x) :
    ∃ rs a c, cs = [.slice a (rs : List (UInt8 × UInt8)).length c] ∧ RgAt W rs (.slice a rs.length c) := by
  obtain ⟨a, len, cap, e, hlen, hr⟩ := open_row 2 Tryd.underlying22 cRange (by decide) h
  obtain ⟨rs, hkl, hk⟩ := ex_list (R := fun i (r : UInt8 × UInt8) => ∃ blk off, a = some ⟨blk, off, none⟩ ∧ blk < W.heap.size ∧ W.cell? ⟨blk, off + i * 2, none⟩ = some (.int .u8 (r.1.toNat : Int)) ∧ W.cell? ⟨blk, off + i * 2 + 1, none⟩ = some (.int .u8 (r.2.toNat : Int))) len (fun i hi => by
    obtain ⟨blk, off, es, y, m, ea, hb, hm, hes, hc, ht⟩ := hr i hi
    obtain ⟨n, hn, hl, hf⟩ := open_fields Tryd.underlying51 ht
    rw [cRange] at hl
    obtain ⟨u0, u1, rfl⟩ : ∃ u0 u1, es = [u0, u1] := by
      match es, hl with
      | [u0, u1], _ => exact ⟨_, _, rfl⟩
    obtain ⟨y0, h0⟩ := fld hf 0 5 0 1 rfl cU8N
    obtain ⟨y1, h1⟩ := fld hf 1 5 1 1 rfl cU8N
    simp only [List.drop, List.take] at h0 h1
    obtain ⟨k, e0, _, w0⟩ := DataW.trod_int Tryd.underlying5 h0
    obtain ⟨f, e1, _, w1⟩ := DataW.trod_int Tryd.underlying5 h1
    simp only [List.cons.injEq, and_true] at e0 e1
    subst e0 e1
    obtain ⟨k', hk', rfl⟩ := u8_nat w0
    obtain ⟨f', hf', rfl⟩ := u8_nat w1
    refine ⟨(UInt8.ofNat k', UInt8.ofNat f'), blk, off, ea, hb, ?_, ?_⟩
    · simpa [Asc.ofNat_toNat8 hk'] using hc 0 (by decide)
    · simpa [Asc.ofNat_toNat8 hf'] using hc 1 (by decide))
  subst hkl
  exact ⟨rs, a, cap, e, a, cap, rfl, hlen, hk⟩

set_option maxRecDepth 1000000 in
theorem open_node (fuel : Nat) : ∀ (cs : List Value) (x : DataW H × List MemPlace), DataW.trod enc Tryd.prog W base sp hd fuel 25 cs = some x →
    ∃ t u0 u1 u2 u3 u4 u5, cs = [u0, u1, u2, u3, u4, u5] ∧ NAt W t (.agg #[u0, u1, u2, u3, u4, u5]) := by
  induction fuel using Nat.strongRecOn with
  | _ fuel ih =>
  intro cs x h
  obtain ⟨n, hn, hl, hf⟩ := open_fields Tryd.underlying25 h
  rw [cNode] at hl
  obtain ⟨u0, u1, u2, u3, u4, u5, rfl⟩ : ∃ u0 u1 u2 u3 u4 u5, cs = [u0, u1, u2, u3, u4, u5] := by
    match cs, hl with
    | [u0, u1, u2, u3, u4, u5], _ => exact ⟨_, _, _, _, _, _, rfl⟩
  obtain ⟨y0, h0⟩ := fld hf 0 3 0 1 rfl cIntN
  obtain ⟨y1, h1⟩ := fld hf 1 22 1 1 rfl cRanges
  obtain ⟨y2, h2⟩ := fld hf 2 9 2 1 rfl cStrN
  obtain ⟨y3, h3⟩ := fld hf 3 23 3 1 rfl cNodes
  obtain ⟨y4, h4⟩ := fld hf 4 3 4 1 rfl cIntN
  obtain ⟨y5, h5⟩ := fld hf 5 3 5 1 rfl cIntN
  simp only [List.drop, List.take] at h0 h1 h2 h3 h4 h5
  obtain ⟨op, e0, _, _⟩ := DataW.trod_int Tryd.underlying3 h0
  obtain ⟨rs, ra, rc, e1, hrg⟩ := open_ranges h1
  obtain ⟨nm, e2, _, hnm⟩ := DataW.trod_string Tryd.underlying9 h2
  obtain ⟨a, len, cap, e3, hlen, hr⟩ := open_row 6 Tryd.underlying23 cNode (by decide) h3
  obtain ⟨mn, e4, _, _⟩ := DataW.trod_int Tryd.underlying3 h4
  obtain ⟨mx, e5, _, _⟩ := DataW.trod_int Tryd.underlying3 h5
  simp only [List.cons.injEq, and_true] at e0 e1 e2 e3 e4 e5
  obtain ⟨kids, hkl, hk⟩ := ex_list (R := fun i t => ∃ blk off u0 u1 u2 u3 u4 u5, a = some ⟨blk, off, none⟩ ∧ blk < W.heap.size ∧ W.cell? ⟨blk, off + i * 6, none⟩ = some u0 ∧ W.cell? ⟨blk, off + i * 6 + 1, none⟩ = some u1 ∧ W.cell? ⟨blk, off + i * 6 + 2, none⟩ = some u2 ∧ W.cell? ⟨blk, off + i * 6 + 3, none⟩ = some u3 ∧ W.cell? ⟨blk, off + i * 6 + 4, none⟩ = some u4 ∧ W.cell? ⟨blk, off + i * 6 + 5, none⟩ = some u5 ∧ NAt W t (.agg #[u0, u1, u2, u3, u4, u5])) len (fun i hi => by
    obtain ⟨blk, off, es, y, m, ea, hb, hm, hes, hc, ht⟩ := hr i hi
    obtain ⟨t, v0, v1, v2, v3, v4, v5, rfl, hT⟩ := ih m (by omega) es y ht
    exact ⟨t, blk, off, _, _, _, _, _, _, ea, hb, hc 0 (by decide), hc 1 (by decide), hc 2 (by decide), hc 3 (by decide), hc 4 (by decide), hc 5 (by decide), hT⟩)
  refine ⟨.node op rs nm.data.toList kids mn mx, u0, u1, u2, u3, u4, u5, rfl, ?_⟩
  subst hkl
  rw [NAt]
  refine ⟨ra, rc, a, cap, by rw [← str_list, e0, e1, e2, e3, e4, e5], ⟨hrg, hlen, ?_⟩, fun hpos => ?_⟩
  · have h' : nm.size ≤ 9223372036854775807 := hnm
    simpa using h'
  obtain ⟨blk, off, _, _, _, _, _, _, ea, hb, _⟩ := hk 0 hpos
  refine ⟨blk, off, ea, hb, fun i hi => ?_⟩
  obtain ⟨blk', off', v0, v1, v2, v3, v4, v5, ea', _, c0, c1, c2, c3, c4, c5, hT⟩ := hk i hi
  rw [ea] at ea'
  simp only [Option.some.injEq, Addr.mk.injEq, and_true] at ea'
  obtain ⟨rfl, rfl⟩ := ea'
  exact ⟨v0, v1, v2, v3, v4, v5, c0, c1, c2, c3, c4, c5, hT⟩

set_option maxRecDepth 1000000 in
theorem open_node1 {v : Value} {d : DataW H} {p : List MemPlace} (hv : ∃ cs, v = .agg cs ∧ cs.size = Tryd.prog.cellsOf 25) (h : DataW.Trod enc Tryd.prog W base sp hd 25 v d p) : ∃ t, NAt W t v := by
  obtain ⟨cs, rfl, hcs⟩ := hv
  obtain ⟨fuel, h⟩ := h
  simp only [Value.cells] at h
  obtain ⟨t, u0, u1, u2, u3, u4, u5, e, hT⟩ := open_node fuel _ _ h
  refine ⟨t, ?_⟩
  obtain ⟨l, rfl⟩ : ∃ l : List Value, cs = l.toArray := ⟨cs.toList, by simp⟩
  simp only at e
  subst e
  exact hT
end

end Go.Proofs.YtpbdcghiabhliaaDoor

/-
  AsciiRepairs' walk at the arguments as they come in.
-/
import Derived.Test.YtloilffkggkgdaaDoorAscO
import Derived.Test.YtloilffkggkgdaaDoorStay
import Derived.ChangeSlices
namespace Go.Proofs.YtloilffkggkgdaaDoor
open Go.ChangeShapes Go.WideShapes Go.ChangeAt Go.RowKit
open Go.ChangeMaps (open_string shut_string)

theorem bulk_lits {H : Type} (k : IntKind) (l : List Int) : Rows.uptoBulkAll (lits (H := H) k l) = l.length := by
  induction l with
  | nil => rfl
  | cons x l ih =>
    show Rows.uptoBulk (DataW.lit (.int k x)) + Rows.uptoBulkAll (lits (H := H) k l) = _
    rw [ih]
    simp only [Rows.uptoBulk, List.length_cons]
    omega
theorem cellsU8' : Tryd.prog.cellsOf 5 = 1 := by kernel_rfl

/-- A slice of bytes that came in. -/
theorem open_bytes {H : Type} {enc : TypeId × Value → H} {W : World} {base : Nat} {v : Value} {d : DataW H} {p : List MemPlace} (hv : Value.okWide Tryd.prog W .any base 22 v)
    (h : DataW.Trod enc Tryd.prog W 0 (fun _ => true) true 22 v d p) : ∃ bs, BSI W v bs ∧ bs.length < Rows.uptoBulk d := by
  obtain ⟨a0, len, cap, rfl⟩ := okWide_slice Tryd.underlying22 hv
  obtain ⟨fuel, hf⟩ := h
  rcases open_ints Tryd.underlying22 Tryd.underlying5 cellsU8' hf with ⟨hcs, hx⟩ | ⟨a, len', cap', zs, hcs, _, hl, hm, hz, hx, hcell, hwz⟩
  · simp only [Prod.mk.injEq] at hx
    obtain ⟨rfl, rfl⟩ := hx
    simp [Value.cells] at hcs
    obtain ⟨rfl, rfl, rfl⟩ := hcs
    exact ⟨[], .inl ⟨rfl, rfl⟩, by simp [Rows.uptoBulk]⟩
  · simp only [Prod.mk.injEq] at hx
    obtain ⟨rfl, rfl⟩ := hx
    simp [Value.cells] at hcs
    obtain ⟨rfl, rfl, rfl⟩ := hcs
    simp only [if_true] at hz
    have hl2 : (zs.take len).length = len := by rw [List.length_take]; omega
    refine ⟨(zs.take len).map fun z => UInt8.ofNat z.toNat, .inr ⟨a, cap, by rw [List.length_map, hl2], by rw [List.length_map, hl2]; exact hl, fun j u hj => ?_⟩, ?_⟩
    · unfold Lib.byteCells at hj
      rw [List.map_map, List.getElem?_map] at hj
      obtain ⟨z, hz1, rfl⟩ := Option.map_eq_some_iff.1 hj
      have hj1 : j < len := by have := (List.getElem?_eq_some_iff.1 hz1).1; omega
      rw [List.getElem?_take_of_lt hj1] at hz1
      obtain ⟨hj2, hz3⟩ := List.getElem?_eq_some_iff.1 hz1
      have hc := hcell j hj2
      have e : zs.getD j 0 = z := by simp [List.getD, hz1]
      rw [e] at hc
      obtain ⟨n, hn, rfl⟩ := u8_nat (hwz z (by rw [← hz3]; exact List.getElem_mem hj2))
      rw [hc]
      simp only [Function.comp_apply, Int.toNat_natCast]
      rw [Asc.ofNat_toNat8 hn]
    · rw [List.length_map, hl2]
      simp only [Rows.uptoBulk, bulk_lits]
      rw [hl2]
      omega

theorem repairs_law {H : Type} {enc : TypeId × Value → H} {W : World} {base : Nat} {args : Array Value} {ds : List (DataW H)} {p : List MemPlace}
    (hval : ∀ (j : Nat) t v, (#[22, 9, 5] : Array TypeId)[j]? = some t → args[j]? = some v → Value.okWide Tryd.prog W .any base t v)
    (hA : DataW.TrodAll enc Tryd.prog W 0 (fun _ => true) true [22, 9, 5] args.toList ds p) (hbound : Rows.uptoBulkAll ds ≤ 1048576) (hL : laidMetH Tryd.prog laidOne W) :
    Calls Tryd.prog 3 args W fun e w' => e = .returned (.bool true) ∧ Below W.heap.size W w' := by
  obtain ⟨v0, vs0, d0, ds0, p0, q0, hargs, rfl, rfl, h0, r0⟩ := trodAll_cons hA
  obtain ⟨v1, vs1, d1, ds1, p1, q1, rfl, rfl, rfl, h1, r1⟩ := trodAll_cons r0
  obtain ⟨v2, vs2, d2, ds2, p2, q2, rfl, rfl, rfl, h2, r2⟩ := trodAll_cons r1
  obtain ⟨rfl, rfl, rfl⟩ := trodAll_nil r2
  obtain rfl : args = #[v0, v1, v2] := by cases args; simp_all
  obtain ⟨bs, hbs, hbl⟩ := open_bytes (hval 0 22 v0 rfl rfl) h0
  obtain ⟨s, rfl, rfl, rfl, ws⟩ := open_string Tryd.underlying9 (hval 1 9 v1 rfl rfl) h1
  obtain ⟨x, rfl, rfl, rfl, wx⟩ := open_int Tryd.underlying5 (hval 2 5 v2 rfl rfl) h2
  obtain ⟨c, hc, rfl⟩ := u8_nat wx
  obtain ⟨l, rfl⟩ : ∃ l : List UInt8, s = ⟨l.toArray⟩ := ⟨s.data.toList, by simp⟩
  simp only [Rows.uptoBulkAll, Rows.uptoBulk] at hbound
  have e : (ByteArray.mk l.toArray).data.toList.length = l.length := by simp
  exact repairs_core v0 bs l c hc W (k_of_laid hL) hbs (by omega) (by omega)

end Go.Proofs.YtloilffkggkgdaaDoor

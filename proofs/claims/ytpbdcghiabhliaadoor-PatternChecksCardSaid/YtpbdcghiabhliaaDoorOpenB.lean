/-
  A SLICE OF BYTES THAT CAME IN.
-/
import Derived.Test.YtpbdcghiabhliaaDoorMem
import Derived.Test.YtpbdcghiabhliaaDoorStay
import Derived.ChangeSlices
namespace Go.Proofs.YtpbdcghiabhliaaDoor
open Go.ChangeShapes Go.WideShapes Go.ChangeAt Go.RowKit
open Go.ChangeMaps (open_string shut_string)

theorem cellsU8q : Tryd.prog.cellsOf 5 = 1 := by kernel_rfl
set_option maxRecDepth 1000000 in
/-- A slice of bytes that came in. -/
theorem open_bytes {H : Type} {enc : TypeId × Value → H} {W : World} {base : Nat} {v : Value} {d : DataW H} {p : List MemPlace} (hv : Value.okWide Tryd.prog W .any base 26 v)
    (h : DataW.Trod enc Tryd.prog W 0 (fun _ => true) true 26 v d p) : ∃ bs, BSI W v bs := by
  obtain ⟨a0, len, cap, rfl⟩ := okWide_slice Tryd.underlying26 hv
  obtain ⟨fuel, hf⟩ := h
  rcases open_ints Tryd.underlying26 Tryd.underlying5 cellsU8q hf with ⟨hcs, hx⟩ | ⟨a, len', cap', zs, hcs, _, hl, hm, hz, hx, hcell, hwz⟩
  · simp only [Prod.mk.injEq] at hx
    obtain ⟨rfl, rfl⟩ := hx
    simp [Value.cells] at hcs
    obtain ⟨rfl, rfl, rfl⟩ := hcs
    exact ⟨[], .inl ⟨rfl, rfl⟩⟩
  · simp only [Prod.mk.injEq] at hx
    obtain ⟨rfl, rfl⟩ := hx
    simp [Value.cells] at hcs
    obtain ⟨rfl, rfl, rfl⟩ := hcs
    simp only [if_true] at hz
    have hl2 : (zs.take len).length = len := by rw [List.length_take]; omega
    refine ⟨(zs.take len).map fun z => UInt8.ofNat z.toNat, .inr ⟨a, cap, by rw [List.length_map, hl2], by rw [List.length_map, hl2]; exact hl, fun j u hj => ?_⟩⟩
    · unfold Lib.byteCells at hj
      rw [List.map_map, List.getElem?_map] at hj
      obtain ⟨z, hz1, rfl⟩ := Option.map_eq_some_iff.1 hj
      have hj1 : j < len := by have := (List.getElem?_eq_some_iff.1 hz1).1; omega
      rw [List.getElem?_take_of_lt hj1] at hz1
      obtain ⟨hj2, hz3⟩ := List.getElem?_eq_some_iff.1 hz1
      have hc := hcell j hj2
      have e : zs.getD j 0 = z := by simp [List.getD, hz1]
      rw [e] at hc
      obtain ⟨n, hn, rfl⟩ := u8_nat (hwz z (by rw [← hz3]; exact List.getElem_mem hj2))
      rw [hc]
      simp only [Function.comp_apply, Int.toNat_natCast]
      rw [Asc.ofNat_toNat8 hn]

end Go.Proofs.YtpbdcghiabhliaaDoor

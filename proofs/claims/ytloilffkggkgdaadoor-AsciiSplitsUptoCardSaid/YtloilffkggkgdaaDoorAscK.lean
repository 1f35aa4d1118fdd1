/-
  Cut of package ascii and of its reference; the walk of AsciiCuts.
-/
import Derived.Test.YtloilffkggkgdaaDoorAscJ
namespace Go.Proofs.YtloilffkggkgdaaDoor
open Go.RowKit Go.Sort

namespace Asc
/-- Where the first byte c stands; the length if it stands nowhere. -/
def pos (l : List UInt8) (c : UInt8) : Nat := l.findIdx (· == c)
def has (l : List UInt8) (c : UInt8) : Bool := decide (pos l c < l.length)
theorem indexByte_pos (l : List UInt8) (c : UInt8) : Lib.indexByte l c = if pos l c < l.length then (pos l c : Int) else -1 := by
  induction l with
  | nil => rfl
  | cons b l ih =>
    unfold Lib.indexByte pos
    rw [List.findIdx_cons]
    by_cases h : (b == c) = true
    · simp [h]
    · simp only [h, Bool.false_eq_true, if_false, cond_false]
      rw [ih]
      unfold pos
      simp only [List.length_cons]
      by_cases g : List.findIdx (· == c) l < l.length
      · rw [if_pos g]
        have h1 : (((List.findIdx (· == c) l : Nat) : Int) == -1) = false := by rw [beq_eq_false_iff_ne]; omega
        simp [h1, g]
      · rw [if_neg g]
        simp [g]
theorem pos_le (l : List UInt8) (c : UInt8) : pos l c ≤ l.length := List.findIdx_le_length
theorem pos_at {l : List UInt8} {c : UInt8} (h : pos l c < l.length) : l[pos l c] = c := by
  have h2 : (l[pos l c] == c) = true := List.findIdx_getElem (p := (· == c)) (xs := l) (w := h)
  exact eq_of_beq h2
theorem pos_before {l : List UInt8} {c : UInt8} {i : Nat} (h : i < pos l c) (h' : i < l.length) : l[i] ≠ c := by
  have h2 : ((l[i] == c) = true) = False := eq_false (by simpa using List.not_of_lt_findIdx (p := (· == c)) (xs := l) h)
  intro e
  rw [e] at h2
  simp at h2
theorem pos_eq {l : List UInt8} {c : UInt8} {i : Nat} (h : i < l.length) (hc : l[i] = c) (hb : ∀ j (hj : j < i), l[j] ≠ c) : pos l c = i := by
  have h1 : pos l c ≤ i := by
    rcases Nat.lt_or_ge i (pos l c) with g | g
    · exact absurd hc (pos_before g h)
    · exact g
  rcases Nat.lt_or_ge (pos l c) i with g | g
  · exact absurd (pos_at (by omega)) (hb _ g)
  · omega
theorem pos_none {l : List UInt8} {c : UInt8} (hb : ∀ j (hj : j < l.length), l[j] ≠ c) : ¬ pos l c < l.length := fun h => hb _ h (pos_at h)
def cutA (l : List UInt8) (c : UInt8) : List UInt8 := l.take (pos l c)
def cutB (l : List UInt8) (c : UInt8) : List UInt8 := l.drop (pos l c + 1)
theorem cut_join {l : List UInt8} {c : UInt8} (h : pos l c < l.length) : cutA l c ++ [c] ++ cutB l c = l := by
  unfold cutA cutB
  have e : l.take (pos l c + 1) = l.take (pos l c) ++ [c] := by rw [snoc_take l _ h, pos_at h]
  rw [← e, List.take_append_drop]
theorem cutA_has (l : List UInt8) (c : UInt8) : ¬ pos (cutA l c) c < (cutA l c).length := by
  apply pos_none
  intro j hj
  unfold cutA at hj ⊢
  rw [List.getElem_take]
  exact pos_before (by rw [List.length_take] at hj; omega) (by rw [List.length_take] at hj; omega)
theorem cutA_none {l : List UInt8} {c : UInt8} (h : ¬ pos l c < l.length) : cutA l c = l ∧ cutB l c = [] := by
  have := pos_le l c
  unfold cutA cutB
  exact ⟨List.take_of_length_le (by omega), List.drop_of_length_le (by omega)⟩
end Asc

theorem ext_take (l : List UInt8) (k : Nat) : (ByteArray.mk l.toArray).extract 0 k = ⟨(l.take k).toArray⟩ := by
  apply ByteArray.ext
  simp [ByteArray.data_extract]
theorem ext_drop (l : List UInt8) (k : Nat) : (ByteArray.mk l.toArray).extract k l.length = ⟨(l.drop k).toArray⟩ := by
  apply ByteArray.ext
  simp [ByteArray.data_extract]
  exact List.take_of_length_le (by simp)
theorem u8_of (c : UInt8) : ((c.toNat : Int)).toNat.toUInt8 = c := by
  simp

theorem cut_yes (l : List UInt8) (c : UInt8) (w : World) (hs : l.length ≤ 140737488351232) (h : Asc.pos l c < l.length) :
    Calls Tryd.prog 20 #[.string ⟨l.toArray⟩, .int .u8 c.toNat] w fun e w' => e = .returned (.tuple #[.string ⟨(Asc.cutA l c).toArray⟩, .string ⟨(Asc.cutB l c).toArray⟩, .bool true]) ∧ Below w.heap.size w w' := by
  have HI : Hid (∀ w, Calls Tryd.prog 38 #[.string ⟨l.toArray⟩, .int .u8 c.toNat] w fun e w' => e = .returned (.int .i64 (Asc.pos l c : Nat)) ∧ w = w') := by
    show ∀ w, _
    intro w
    have := Tryd.strings_IndexByte ⟨l.toArray⟩ (c.toNat : Int) w
    rw [u8_of, Asc.indexByte_pos] at this
    rw [if_pos h] at this
    exact this.mono fun e w' ⟨h1, h2⟩ => ⟨h1, h2.symm⟩
  have HA : Hid (Asc.cutA l c = l.take (Asc.pos l c)) := (show Asc.cutA l c = _ from rfl)
  have HB : Hid (Asc.cutB l c = l.drop (Asc.pos l c + 1)) := (show Asc.cutB l c = _ from rfl)
  generalize Asc.pos l c = p at *
  generalize Asc.cutA l c = A at *
  generalize Asc.cutB l c = B at *
  go_enter Tryd.func20, Tryd.ntmps20
  go_wp2_with (go_at_call 38; refine (HI.out _).mono ?_; rintro e w' ⟨rfl, rfl⟩)
  go_quiet (fail)
  go_wp2_with fail
  go_ret3
  refine ⟨?_, below_drewN (Below.refl _ _) nq⟩
  rw [HA.out, HB.out, ← ext_take, ← ext_drop]
  rfl

theorem cut_no (l : List UInt8) (c : UInt8) (w : World) (h : ¬ Asc.pos l c < l.length) :
    Calls Tryd.prog 20 #[.string ⟨l.toArray⟩, .int .u8 c.toNat] w fun e w' => e = .returned (.tuple #[.string ⟨l.toArray⟩, .string ⟨#[]⟩, .bool false]) ∧ w = w' := by
  have HI : Hid (∀ w, Calls Tryd.prog 38 #[.string ⟨l.toArray⟩, .int .u8 c.toNat] w fun e w' => e = .returned (.int .i64 (-1)) ∧ w = w') := by
    show ∀ w, _
    intro w
    have := Tryd.strings_IndexByte ⟨l.toArray⟩ (c.toNat : Int) w
    rw [u8_of, Asc.indexByte_pos] at this
    rw [if_neg h] at this
    exact this.mono fun e w' ⟨h1, h2⟩ => ⟨h1, h2.symm⟩
  clear h
  go_enter Tryd.func20, Tryd.ntmps20
  go_wp2_with (go_at_call 38; refine (HI.out _).mono ?_; rintro e w' ⟨rfl, rfl⟩)
  go_ret3
  exact ⟨rfl, rfl⟩

theorem conv1_u8 (w : World) (c : UInt8) :
    (convert 22 9 (.slice (some ⟨w.heap.size, 0, none⟩) 1 1)).run Tryd.prog (w.alloc (.cells #[.int .u8 (c.toNat : Int)] 5)) = .ok (.string ⟨#[c]⟩) (w.alloc (.cells #[.int .u8 (c.toNat : Int)] 5)) := by
  have := conv1_new w (c.toNat : Int)
  rw [show UInt8.ofNat ((c.toNat : Int)).toNat = c by simp] at this
  exact this

set_option maxRecDepth 100000 in
theorem cuts_u8 (l : List UInt8) (hs : l.length ≤ 140737488351232) (c : UInt8) (w : World) (hk : Kinds w) :
    Calls Tryd.prog 5 #[.string ⟨l.toArray⟩, .int .u8 c.toNat] w fun e w' => e = .returned (.bool true) ∧ Below w.heap.size w w' := by
  have HA := Lib.hid (awake_any w hk)
  clear hk
  by_cases h : Asc.pos l c < l.length
  · have HC := Lib.hid fun w => cut_yes l c w hs h
    have HD := Lib.hid fun w => cut_no (Asc.cutA l c) c w (Asc.cutA_has l c)
    have hj : ByteArray.mk (Asc.cutA l c).toArray ++ ByteArray.mk #[c] ++ ByteArray.mk (Asc.cutB l c).toArray = ByteArray.mk l.toArray := by
      rw [show ByteArray.mk #[c] = ByteArray.mk [c].toArray from rfl, ba_app, ba_app, Asc.cut_join h]
    have kc := conv1_u8
    have hz : (Asc.cutA l c).length ≤ 140737488351232 := by unfold Asc.cutA; rw [List.length_take]; omega
    have hz2 : (Asc.cutB l c).length ≤ 140737488351232 := by unfold Asc.cutB; rw [List.length_drop]; omega
    clear h
    generalize Asc.cutA l c = A at *
    generalize Asc.cutB l c = B at *
    go_enter Tryd.func5, Tryd.ntmps5
    go_wp2_with (go_at_call 9; refine HA.out.mono ?_; rintro e w1 ⟨rfl, hb1⟩)
    refine (HC.out w1).mono ?_
    rintro e w2 ⟨rfl, hb2⟩
    go_wp2_with fail
    refine (HD.out w2).mono ?_
    rintro e w3 ⟨rfl, rfl⟩
    go_wp2_with fail
    go_ret
    exact ⟨rfl, (below_seq hb1 hb2).alloc (by have := hb1.size; have := hb2.size; omega) _⟩
  · have HC := Lib.hid fun w => cut_no l c w h
    clear h
    go_enter Tryd.func5, Tryd.ntmps5
    go_wp2_with (go_at_call 9; refine HA.out.mono ?_; rintro e w1 ⟨rfl, hb1⟩)
    refine (HC.out w1).mono ?_
    rintro e w2 ⟨rfl, rfl⟩
    go_wp2_with fail
    go_ret
    exact ⟨rfl, hb1⟩

theorem cuts_any (s : ByteArray) (hs : s.size ≤ 140737488351232) (x : Int) (wx : (Lit.int .u8 x).wf = true) (w : World) (hk : Kinds w) :
    Calls Tryd.prog 5 #[.string s, .int .u8 x] w fun e w' => e = .returned (.bool true) ∧ Below w.heap.size w w' := by
  obtain ⟨l, rfl⟩ : ∃ l : List UInt8, s = ⟨l.toArray⟩ := ⟨s.data.toList, by simp⟩
  rw [ba_size] at hs
  obtain ⟨c, hc, rfl⟩ := u8_nat wx
  have e : (c : Int) = ((UInt8.ofNat c).toNat : Int) := by rw [Asc.ofNat_toNat8 hc]
  rw [e]
  exact cuts_u8 l hs _ w hk

end Go.Proofs.YtloilffkggkgdaaDoor

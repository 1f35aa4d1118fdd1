/-
  slices.Clone at fields; Sort of package parse, at fewer than 20 fields whose names are right and differ.
-/
import Derived.Test.YtfdbjgdafolbmaaDoorParF
import Derived.Test.YtfdbjgdafolbmaaDoorOwnK
import Derived.Lib.SliceRun
namespace Go.Proofs.YtfdbjgdafolbmaaDoor
open Go.RowKit Go.Sort Go.Shelf

abbrev Fd := List UInt8 × List UInt8
theorem infoF : (Tryd.prog.info? 30).map (fun i => (i.zero, i.size, i.bytes)) = some (some (.agg #[.string ⟨#[]⟩, .string ⟨#[]⟩]), 2, 32) := by kernel_rfl
def cellsF (d : List Fd) : List Value := d.flatMap encF
theorem cellsF_length (d : List Fd) : (cellsF d).length = d.length * 2 := by
  unfold cellsF
  induction d with
  | nil => rfl
  | cons x d ih => simp [encF] at ih ⊢; omega
theorem cellsF_at (d : List Fd) : ∀ (i c : Nat) (hi : i < d.length) (_ : c < 2), (cellsF d)[i * 2 + c]? = (encF d[i])[c]? := by
  induction d with
  | nil => intro i c hi; simp at hi
  | cons x d ih =>
    intro i c hi hc
    cases i with
    | zero =>
      unfold cellsF
      rw [List.flatMap_cons, List.getElem?_append_left (by simp [encF]; omega), Nat.zero_mul, Nat.zero_add]
      rfl
    | succ i =>
      have := ih i c (by simpa using hi) hc
      unfold cellsF at this ⊢
      rw [List.flatMap_cons, List.getElem?_append_right (by simp [encF]; omega)]
      rw [show (i + 1) * 2 + c - (encF x).length = i * 2 + c by simp [encF]; omega, this]
      rfl
theorem one_encF (d : List Fd) : ∀ u ∈ cellsF d, u.oneCell' = true := by
  intro u hu
  unfold cellsF at hu
  obtain ⟨x, _, hx⟩ := List.mem_flatMap.1 hu
  simp [encF] at hx
  rcases hx with rfl | rfl <;> rfl

/-- A row of fields of the call's own: its cells. -/
theorem cells_ownF {w : World} {B g cap : Nat} {d : List Fd} (h : w.ownsRow B 30 2 (.slice (some ⟨g, 0, none⟩) d.length cap) d.length (cellsF d)) : g < w.heap.size ∧ B ≤ g ∧ (∀ j u, (cellsF d)[j]? = some u → w.cell? ⟨g, j, none⟩ = some u) ∧ ∀ i, w.frozen? ⟨g, i, none⟩ = false := by
  obtain ⟨hl, ⟨hv, _⟩ | ⟨g', cap', cur, hv, hB, hg, hn, _, hsz, htk⟩⟩ := h
  · cases hv
  · cases hv
    refine ⟨?_, hB, fun j u hj => ?_, fun i => Lib.frozen_of_heap hg i⟩
    · rcases Nat.lt_or_ge g w.heap.size with c | c
      · exact c
      · rw [Array.getElem?_eq_none c] at hg; cases hg
    · rw [Lib.cell_of_heap hg]
      have hj2 : j < d.length * 2 := by rw [← cellsF_length]; exact (List.getElem?_eq_some_iff.1 hj).1
      have e : (cur.toList.take (d.length * 2))[j]? = (cellsF d)[j]? := by rw [htk]
      rw [List.getElem?_take_of_lt hj2] at e
      simp only [Array.getElem?_toList] at e
      rw [e]
      exact hj

theorem clone_any (g off cap : Nat) (d : List Fd) (w : World) (h1 : 0 < d.length) (h2 : d.length ≤ 1000) (hc : ∀ j u, (cellsF d)[j]? = some u → w.cell? ⟨g, off + j, none⟩ = some u) :
    Calls Tryd.prog 27 #[.slice (some ⟨g, off, none⟩) d.length cap] w fun e w' =>
      ∃ g' cap', e = .returned (.slice (some ⟨g', 0, none⟩) d.length cap') ∧ w'.ownsRow w.heap.size 30 2 (.slice (some ⟨g', 0, none⟩) d.length cap') d.length (cellsF d) ∧ Below w.heap.size w w' := by
  obtain ⟨i0, hi, hz0, hz1, hz2⟩ := info_parts infoF
  have HC := Lib.hid hc
  clear hc
  have hnil : (binOp .eql 27 (.slice (some ⟨g, off, none⟩) d.length cap) (.slice none 0 0)).run Tryd.prog w = .ok (.bool false) w :=
    Lib.run_eql_slice_nil w 27 30 (some ⟨g, off, none⟩) d.length cap 0 0 Tryd.underlying27
  have hown : (w.alloc (.cells #[] 30)).ownsRow w.heap.size 30 2 (.slice (some ⟨w.heap.size, 0, none⟩) 0 0) 0 [] :=
    ⟨rfl, .inr ⟨w.heap.size, 0, #[], rfl, Nat.le_refl _, by simp [World.alloc, -World.alloc_eq], Nat.le_refl _, by unfold maxLen; omega, rfl, rfl⟩⟩
  have hnews : ∀ j u, (cellsF d)[j]? = some u → (w.alloc (.cells #[] 30)).cell? ((⟨g, off, none⟩ : Addr).add j) = some u := fun j u hj => by
    rw [addp]
    have h := HC.out j u hj
    exact (((Below.refl w.heap.size w).alloc (Nat.le_refl _) _).cell (p := ⟨g, off + j, none⟩) (World.block_lt_of_cell? w _ h)).trans h
  have HN := Lib.hid hnews
  have q1 : 0 + d.length ≤ maxLen := by unfold maxLen; omega
  have q2 : (0 + d.length) * 32 ≤ 140737488355328 := by omega
  have q3 := cellsF_length d
  have Q3 := Lib.hid q3
  clear hnews q3
  go_enter Tryd.func27, Tryd.ntmps27
  go_wp2_with (at_builtin; refine wpList_append_own _ rfl _ _ 27 rfl w.heap.size 30 i0 (.agg #[.string ⟨#[]⟩, .string ⟨#[]⟩]) 2 32 Tryd.underlying27 hi hz0 hz1 hz2 rfl (by decide) _ _ _ rfl hown ⟨g, off, none⟩ d.length cap (cellsF d) rfl Q3.out HN.out (one_encF d) q1 q2 (by simp) ?_; intro v' w2 hown' hgrow _)
  rw [Nat.zero_add, List.nil_append] at hown'
  obtain ⟨g', c', hv⟩ : ∃ g' c', v' = .slice (some ⟨g', 0, none⟩) d.length c' := by
    obtain ⟨_, ⟨_, h0⟩ | ⟨g', c', cur, hv, _⟩⟩ := hown'
    · omega
    · exact ⟨g', c', hv⟩
  subst hv
  go_ret
  refine ⟨g', c', rfl, hown', ?_⟩
  exact ((Below.refl _ w).alloc (Nat.le_refl _) _).grown hgrow (by simp) (fun k hk => by cases hk; exact Nat.le_refl _)

end Go.Proofs.YtfdbjgdafolbmaaDoor

/-
  ParseSorts: what the two sorts say together; a slice of fields that came in.
-/
import Derived.Test.YtfdbjgdafolbmaaDoorSoI
import Derived.Test.YtfdbjgdafolbmaaDoorQuoC
import Derived.Test.YtfdbjgdafolbmaaDoorOpenB
import Derived.Deep.SlicePairs
namespace Go.Proofs.YtfdbjgdafolbmaaDoor
open Go.ChangeShapes Go.WideShapes Go.ChangeAt Go.RowKit Go.Sort Go.Shelf

def ErrW (d : List Fd) (c : Nat) : Prop := (32 < d.length ∧ c = 4) ∨ (d.length ≤ 32 ∧ BadF d 0 ∧ c = 6) ∨ (d.length ≤ 32 ∧ ¬ BadF d 0 ∧ ¬ (Names d).Nodup ∧ c = 7)
theorem err_same {d : List Fd} {c1 c2 : Nat} (h1 : ErrW d c1) (h2 : ErrW d c2) : c1 = c2 := by
  rcases h1 with ⟨a, b⟩ | ⟨a, b, c⟩ | ⟨a, b, c, e⟩ <;> rcases h2 with ⟨a', b'⟩ | ⟨a', b', c'⟩ | ⟨a', b', c', e'⟩ <;> first | omega | exact absurd b b' | exact absurd b' b
theorem err_not_ok {d o : List Fd} {c : Nat} (h : ErrW d c) (h32 : d.length ≤ 32) (hn : ¬ BadF d 0) (hs : StrictS o) (hp : o.Perm d) : False := by
  rcases h with ⟨a, b⟩ | ⟨a, b, c⟩ | ⟨a, b, c, e⟩
  · omega
  · exact hn b
  · exact c (((hp.map _).nodup_iff).1 (strict_nodup hs))
theorem ok_same {d o1 o2 : List Fd} (s1 : StrictS o1) (p1 : o1.Perm d) (s2 : StrictS o2) (p2 : o2.Perm d) : o1 = o2 :=
  List.Perm.eq_of_pairwise (le := fun x y => ltF x y = true) (fun x y _ _ h1 h2 => by
    have := swoF.asymmA h1
    rw [h2] at this
    cases this) s1 s2 (p1.trans p2.symm)
theorem ok_again {d o : List Fd} (hs : StrictS o) (hp : o.Perm d) (h32 : d.length ≤ 32) (hn : ¬ BadF d 0) {c : Nat} (h : ErrW o c) : False := by
  refine err_not_ok h (by rw [hp.length_eq]; exact h32) ?_ hs (List.Perm.refl _)
  rintro ⟨i, hi, _, hb⟩
  obtain ⟨j, hj, e⟩ := List.getElem_of_mem (hp.mem_iff.1 (List.getElem_mem hi))
  exact hn ⟨j, hj, Nat.zero_le _, by rw [e]; exact hb⟩

theorem FI.later {w w' : World} {v : Value} {d : List Fd} (h : FI w v d) (hb : RowKit.Below w.heap.size w w') : FI w' v d := by
  obtain ⟨a, cap, rfl, hc⟩ := h
  refine ⟨a, cap, rfl, fun h0 => ?_⟩
  obtain ⟨g, off, e, hg, hf⟩ := hc h0
  exact ⟨g, off, e, Nat.lt_of_lt_of_le hg hb.size, fun i hi => ⟨(hb.cell (p := ⟨g, off + i * 2, none⟩) hg).trans (hf i hi).1, (hb.cell (p := ⟨g, off + i * 2 + 1, none⟩) hg).trans (hf i hi).2⟩⟩
theorem FI.nil (w : World) : FI w (.slice none 0 0) [] := ⟨none, 0, rfl, fun h => by simp at h⟩
theorem FI.cut {w : World} {a : Option Addr} {d : List Fd} {cap cap' : Nat} (h : FI w (.slice a d.length cap) d) (m : Nat) (hm : m ≤ d.length) : FI w (.slice a m cap') (d.take m) := by
  obtain ⟨a', c', e, hc⟩ := h
  injection e with e1 e2 e3
  subst e1
  have hl : (d.take m).length = m := by rw [List.length_take]; omega
  refine ⟨a, cap', by rw [hl], fun h0 => ?_⟩
  rw [hl] at h0
  obtain ⟨g, off, e, hg, hf⟩ := hc (by omega)
  refine ⟨g, off, e, hg, fun i hi => ?_⟩
  rw [hl] at hi
  have := hf i (by omega)
  rw [List.getElem_take]
  exact this
theorem LJ.fi {w : World} {g : Nat} {out : List Fd} {v : Value} {W : World} (h : LJ w g out v W) : FI W v out := by
  obtain ⟨_, ⟨e, h0⟩ | ⟨g', cap, cur, hv, _⟩⟩ := h.own
  · exact ⟨none, 0, by rw [e, h0], fun h => by omega⟩
  · subst hv
    obtain ⟨a, b, c, _⟩ := cells_ownF h.own
    refine ⟨_, cap, rfl, fun _ => ⟨g', 0, rfl, a, fun i hi => ?_⟩⟩
    rw [Nat.zero_add]
    exact ⟨c _ _ ((cellsF_at out i 0 hi (by omega)).trans rfl), c _ _ ((cellsF_at out i 1 hi (by omega)).trans rfl)⟩

/-- A slice of fields that came in. -/
theorem open_fields {H : Type} {enc : TypeId × Value → H} {W : World} {base : Nat} {v : Value} {d : DataW H} {p : List MemPlace} (hv : Value.okWide Tryd.prog W .any base 27 v)
    (h : DataW.Trod enc Tryd.prog W 0 (fun _ => true) true 27 v d p) : ∃ fs : List Fd, FI W v fs ∧ fs.length ≤ 9223372036854775807 ∧ ∀ i (h : i < fs.length), (fs[i]).1.length ≤ 9223372036854775807 := by
  obtain ⟨a0, len, cap, rfl⟩ := okWide_slice Tryd.underlying27 hv
  obtain ⟨fuel, hf⟩ := h
  rcases Deep.open_slice_pairs Tryd.underlying27 Tryd.underlying30 (by kernel_rfl) rfl rfl (by kernel_rfl) (by kernel_rfl) hf with ⟨hcs, hx⟩ | ⟨a, len', cap', m, n, V0, V1, D0, D1, P0, P1, hcs, _, hl, hm, hmm, hx, hcell⟩
  · simp [Value.cells] at hcs
    obtain ⟨rfl, rfl, rfl⟩ := hcs
    exact ⟨[], FI.nil W, by simp, fun i h => by simp at h⟩
  · simp [Value.cells] at hcs
    obtain ⟨rfl, rfl, rfl⟩ := hcs
    simp only [if_true] at hmm
    subst hmm
    have each : ∀ i, i < len → ∃ q : Fd, W.cell? (a.add (i * 2)) = some (.string ⟨q.1.toArray⟩) ∧ W.cell? (a.add (i * 2 + 1)) = some (.string ⟨q.2.toArray⟩) ∧ q.1.length ≤ 9223372036854775807 := by
      intro i hi
      obtain ⟨h1, h2, h3, h4⟩ := hcell i (by omega)
      obtain ⟨s1, e1, _, l1⟩ := DataW.trod_string Tryd.underlying9 h3
      obtain ⟨s2, e2, _, _⟩ := DataW.trod_string Tryd.underlying9 h4
      injection e1 with e1
      injection e2 with e2
      refine ⟨(s1.data.toList, s2.data.toList), by rw [h1, e1], by rw [h2, e2], ?_⟩
      have l1' : s1.size ≤ 9223372036854775807 := l1
      simpa using l1'
    obtain ⟨q, hq⟩ := Deep.choose_lt each
    have hlen : ((List.range len).map q).length = len := by simp
    refine ⟨(List.range len).map q, ⟨some a, _, by rw [hlen], fun h0 => ?_⟩, by rw [hlen]; exact Nat.le_trans hl hm, fun i hi => ?_⟩
    · rw [hlen] at h0
      obtain ⟨e, hb⟩ := spot_none (hq 0 h0).1
      have e' : a = ⟨a.block, a.off, none⟩ := by
        have := congrArg Addr.spot e
        obtain ⟨b, o, s⟩ := a
        simp [Addr.add] at this
        simp [this]
      refine ⟨a.block, a.off, by rw [← e'], by simpa [Addr.add] using hb, fun i hi => ?_⟩
      rw [hlen] at hi
      obtain ⟨c1, c2, _⟩ := hq i hi
      rw [e', addp] at c1 c2
      simp only [List.getElem_map, List.getElem_range]
      exact ⟨c1, c2⟩
    · rw [hlen] at hi
      simp only [List.getElem_map, List.getElem_range]
      exact (hq i hi).2.2

/-- One round's two answers. -/
theorem Both.cases {w : World} {d : List Fd} {e : Ending} {w' : World} (h : Both w d e w') :
    (∃ c : Nat, c ≠ 0 ∧ e = .returned (.tuple #[.slice none 0 0, .int .i64 c]) ∧ ErrW d c ∧ RowKit.Below w.heap.size w w') ∨
    (∃ v o, e = .returned (.tuple #[v, .int .i64 0]) ∧ FI w' v o ∧ StrictS o ∧ o.Perm d ∧ d.length ≤ 32 ∧ ¬ BadF d 0 ∧ RowKit.Below w.heap.size w w') := by
  cases h with
  | err c hc h hb hw => exact .inl ⟨c, hc, h, hw, hb⟩
  | ok v o h hf hb hs hp h32 hn => exact .inr ⟨v, o, h, hf, hs, hp, h32, hn, hb⟩

end Go.Proofs.YtfdbjgdafolbmaaDoor

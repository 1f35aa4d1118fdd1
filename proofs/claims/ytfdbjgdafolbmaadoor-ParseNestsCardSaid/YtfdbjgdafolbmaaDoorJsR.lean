/-
  What ParseNests compares: the two answers.
-/
import Derived.Test.YtfdbjgdafolbmaaDoorJsQ
namespace Go.Proofs.YtfdbjgdafolbmaaDoor
open Go.RowKit Go.Sort Go.Shelf

theorem swp_all {P : Fd → Prop} {d : Array Fd} {i j : Nat} (hi : i < d.size) (hj : j < d.size) (h : ∀ k (hk : k < d.size), P d[k]) : ∀ k (hk : k < (Sort.swp d i j).size), P (Sort.swp d i j)[k] := by
  intro k hk
  unfold Sort.swp at hk ⊢
  rw [Array.getElem_setIfInBounds]
  split
  · rw [getElem!_pos d i hi]; exact h i hi
  · rw [Array.getElem_setIfInBounds]
    split
    · rw [getElem!_pos d j hj]; exact h j hj
    · exact h k (by simpa using hk)
  simpa using hk
theorem inner_all {P : Fd → Prop} (lt : Fd → Fd → Bool) (a : Nat) : ∀ (j : Nat) (d : Array Fd), j < d.size → (∀ k (hk : k < d.size), P d[k]) → ∀ k (hk : k < (Sort.insInner lt a j d).size), P (Sort.insInner lt a j d)[k] := by
  intro j
  induction j with
  | zero => intro d _ h; exact h
  | succ j ih =>
    intro d hj h
    rw [Sort.insInner]
    split
    · exact ih _ (by simp [Sort.swp]; omega) (swp_all hj (by omega) h)
    · exact h
theorem outer_all {P : Fd → Prop} (lt : Fd → Fd → Bool) (a b : Nat) : ∀ (n i : Nat) (d : Array Fd), b - i = n → b ≤ d.size → (∀ k (hk : k < d.size), P d[k]) → ∀ k (hk : k < (Sort.insOuter lt a b i d).size), P (Sort.insOuter lt a b i d)[k] := by
  intro n
  induction n with
  | zero => intro i d hn _ h; rw [Sort.insOuter, if_neg (by omega)]; exact h
  | succ n ih =>
    intro i d hn hb h
    rw [Sort.insOuter, if_pos (by omega)]
    exact ih _ _ (by omega) (by rw [size_insInner]; exact hb) (inner_all lt a i d (by omega) h)
theorem sortF_all {P : Fd → Prop} {d : List Fd} (h : ∀ x ∈ d, P x) : ∀ x ∈ (sortF d.toArray).toList, P x := by
  intro x hx
  obtain ⟨i, hi, rfl⟩ := List.getElem_of_mem hx
  rw [Array.getElem_toList]
  exact outer_all (P := P) (ltOf cmpF) _ _ _ _ d.toArray rfl (Nat.le_refl _) (fun k hk => h _ (by simp)) i _

theorem js_form {w : World} {s : List UInt8} {e : Ending} {w' : World} (h : JsPost w s e w') : ∃ v c, e = .returned (.tuple #[v, .int .i64 (c : Nat)]) ∧ Below w.heap.size w w' := by
  unfold JsPost at h
  cases hr : Js.obj 9 [] s with
  | err c => rw [hr] at h; exact ⟨_, c, h.1, h.2.2⟩
  | ok r d =>
    rw [hr] at h
    simp only at h
    split at h
    · rcases h with ⟨_, h2, h3⟩ | ⟨_, _, h3, h4⟩ | ⟨_, _, v, h3, _, h5⟩
      · exact ⟨_, 6, h2, h3⟩
      · exact ⟨_, 7, h3, h4⟩
      · exact ⟨_, 0, h3, h5⟩
    · exact ⟨_, 1, h.1, h.2⟩
theorem FS.below {w w' : World} {v : Value} {d : List Fd} (h : FS w v d) (hb : ∀ g i, v.ownBlock = some g → w'.cell? ⟨g, i, none⟩ = w.cell? ⟨g, i, none⟩) : FS w' v d := by
  rcases h with h | ⟨h0, g, cap, rfl, h⟩
  · exact .inl h
  · exact .inr ⟨h0, g, cap, rfl, fun i hi => ⟨(hb g _ rfl).trans (h i hi).1, (hb g _ rfl).trans (h i hi).2⟩⟩
theorem FS.lt {w : World} {v : Value} {d : List Fd} (h : FS w v d) : ∀ g, v.ownBlock = some g → g < w.heap.size := by
  intro g hg
  rcases h with ⟨_, rfl⟩ | ⟨h0, g', cap, rfl, h⟩
  · cases hg
  · cases hg
    exact World.block_lt_of_cell? w _ (h 0 h0).1
theorem ret_inj {v v' : Value} {c c' : Nat} (h : Ending.returned (.tuple #[v, .int .i64 c]) = .returned (.tuple #[v', .int .i64 c'])) : v = v' ∧ c = c' := by
  injection h with h
  injection h with h
  injection h with h
  injection h with h1 h2
  injection h2 with h2 h3
  injection h2 with h4 h5
  exact ⟨h1, by omega⟩

/-- How the two answers go together. -/
inductive Ends (k : Nat) (v1 v2 : Value) (c1 c2 : Nat) (w5 : World) : Prop
  | name (h : c1 = 6)
  | wrong (h : c1 ≠ 0) (h6 : c1 ≠ 6) (h2 : c2 ≠ 0)
  | deep (h : c1 = 0) (hk : 8 < k) (h2 : c2 = 5)
  | long (h : c1 = 0) (hk : k ≤ 8) (h2 : c2 = 6)
  | right (h : c1 = 0) (hk : k ≤ 8) (h2 : c2 = 0) (S : List Fd) (f1 : FS w5 v1 S) (f2 : FS w5 v2 (S.map (Js.px (Js.kd k)))) (hl : S.length ≤ 19) (hn : ∀ x ∈ S, x.1.length ≤ 100)

theorem twice_px {p : List UInt8} {d : List Fd} : TwiceF (d.map (Js.px p)) 1 ↔ TwiceF d 1 := by
  unfold TwiceF
  rw [Js.sortF_px, List.length_map]
  have hg : ∀ i, i < d.length → ((sortF d.toArray).map (Js.px p))[i]! = Js.px p (sortF d.toArray)[i]! := fun i hi => by
    have h2 : i < (sortF d.toArray).size := by rw [size_sortF]; exact hi
    rw [getElem!_pos _ i (by simpa using h2), getElem!_pos _ i h2, Array.getElem_map]
  constructor
  · rintro ⟨i, h1, h2, h3, h4⟩
    refine ⟨i, h1, h2, h3, ?_⟩
    rw [hg i h3, hg (i - 1) (by omega)] at h4
    exact List.append_cancel_left h4
  · rintro ⟨i, h1, h2, h3, h4⟩
    refine ⟨i, h1, h2, h3, ?_⟩
    rw [hg i h3, hg (i - 1) (by omega)]
    unfold Js.px
    rw [h4]

theorem nests_end {w3 w4 w5 : World} {b : List UInt8} (hI : Js.Inn b) {k : Nat} (h1 : 1 ≤ k) (h9 : k ≤ 9) {v1 v2 : Value} {c1 c2 : Nat}
    (j1 : JsPost w3 (123 :: b) (.returned (.tuple #[v1, .int .i64 c1])) w4) (j2 : JsPost w4 (Js.wraps (123 :: b) k) (.returned (.tuple #[v2, .int .i64 c2])) w5) (hb : Below w4.heap.size w4 w5) : Ends k v1 v2 c1 c2 w5 := by
  unfold JsPost at j1 j2
  rcases Js.nests_plain b hI k h1 h9 with ⟨d, o1, hl, hn, o8, o9⟩ | ⟨o1, c, hc, o2⟩
  · rw [o1] at j1
    simp only [Js.blk_nil, if_true] at j1
    rcases j1 with ⟨_, e1, _⟩ | ⟨nb, tw, e1, _⟩ | ⟨nb, tw, v, e1, f1, _⟩
    · exact .name (ret_inj (c' := 6) e1).2
    · have hc1 : c1 = 7 := (ret_inj (c' := 7) e1).2
      refine .wrong (by omega) (by omega) ?_
      by_cases h8 : k ≤ 8
      · rw [o8 h8] at j2
        simp only [Js.blk_nil, if_true] at j2
        rcases j2 with ⟨_, e2, _⟩ | ⟨_, _, e2, _⟩ | ⟨_, tw2, _⟩
        · have := (ret_inj (c' := 6) e2).2; omega
        · have := (ret_inj (c' := 7) e2).2; omega
        · exact absurd (twice_px.2 tw) tw2
      · rw [o9 (by omega)] at j2
        have := (ret_inj j2.1).2
        omega
    · obtain ⟨rfl, hc1⟩ := ret_inj (c' := 0) e1
      by_cases h8 : k ≤ 8
      · rw [o8 h8] at j2
        simp only [Js.blk_nil, if_true] at j2
        rcases j2 with ⟨_, e2, _⟩ | ⟨_, tw2, _, _⟩ | ⟨_, _, v', e2, f2, _⟩
        · exact .long hc1 h8 (ret_inj (c' := 6) e2).2
        · exact absurd (twice_px.1 tw2) tw
        · obtain ⟨rfl, hc2⟩ := ret_inj (c' := 0) e2
          rw [Js.sortF_px, Array.toList_map] at f2
          refine .right hc1 h8 hc2 _ (f1.below fun g i hg => hb.cell (p := ⟨g, i, none⟩) (f1.lt g hg)) f2 (by rw [len_sortF]; exact hl) (sortF_all hn)
      · rw [o9 (by omega)] at j2
        exact .deep hc1 (by omega) (ret_inj j2.1).2
  · rw [o1] at j1
    rw [o2] at j2
    have hc1 : c1 = 1 := (ret_inj j1.1).2
    have hc2 : c2 = c := (ret_inj j2.1).2
    exact .wrong (by omega) (by omega) (by omega)

theorem wraps_hd {b : List UInt8} (hI : Js.Inn b) {k : Nat} (h1 : 1 ≤ k) (h9 : k ≤ 9) :
    (∀ r d, Js.obj 9 [] (123 :: b) = .ok r d → d.length ≤ 19 ∧ ∀ i (h : i < d.length), (d[i]).1.length ≤ 1000000) ∧
    (∀ r d, Js.obj 9 [] (Js.wraps (123 :: b) k) = .ok r d → d.length ≤ 19 ∧ ∀ i (h : i < d.length), (d[i]).1.length ≤ 1000000) := by
  rcases Js.nests_plain b hI k h1 h9 with ⟨d, o1, hl, hn, o8, o9⟩ | ⟨o1, c, hc, o2⟩
  · refine ⟨fun r d' h => ?_, fun r d' h => ?_⟩
    · rw [o1] at h
      injection h with h2 h3
      subst h3
      exact ⟨hl, fun i hi => by have := hn _ (List.getElem_mem hi); omega⟩
    · by_cases h8 : k ≤ 8
      · rw [o8 h8] at h
        injection h with h2 h3
        subst h3
        refine ⟨by rw [List.length_map]; exact hl, fun i hi => ?_⟩
        rw [List.length_map] at hi
        have := hn _ (List.getElem_mem hi)
        rw [List.getElem_map]
        unfold Js.px
        simp only [List.length_append, Js.kd_len]
        omega
      · rw [o9 (by omega)] at h; cases h
  · refine ⟨fun r d' h => ?_, fun r d' h => ?_⟩
    · rw [o1] at h; cases h
    · rw [o2] at h; cases h

end Go.Proofs.YtfdbjgdafolbmaaDoor

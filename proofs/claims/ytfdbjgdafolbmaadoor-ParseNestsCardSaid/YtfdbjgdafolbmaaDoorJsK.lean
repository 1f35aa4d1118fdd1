/-
  Sort of package parse for every list of few fields; JSON.
-/
import Derived.Test.YtfdbjgdafolbmaaDoorJsJ
namespace Go.Proofs.YtfdbjgdafolbmaaDoor
open Go.RowKit Go.Sort Go.Shelf

theorem size_insInner {α : Type} [Inhabited α] (lt : α → α → Bool) (a : Nat) : ∀ (j : Nat) (d : Array α), (Sort.insInner lt a j d).size = d.size := by
  intro j
  induction j with
  | zero => intro d; rfl
  | succ j ih =>
    intro d
    rw [Sort.insInner]
    split
    · rw [ih]; simp [Sort.swp]
    · rfl
theorem size_insOuter {α : Type} [Inhabited α] (lt : α → α → Bool) (a b : Nat) : ∀ (n i : Nat) (d : Array α), b - i = n → (Sort.insOuter lt a b i d).size = d.size := by
  intro n
  induction n with
  | zero =>
    intro i d h
    rw [Sort.insOuter, if_neg (by omega)]
  | succ n ih =>
    intro i d h
    rw [Sort.insOuter, if_pos (by omega), ih _ _ (by omega), size_insInner]
theorem size_sortF (d : List Fd) : (sortF d.toArray).size = d.length := by
  unfold sortF Sort.insertionSort
  rw [size_insOuter _ _ _ _ _ _ rfl]
  simp
theorem len_sortF (d : List Fd) : (sortF d.toArray).toList.length = d.length := by rw [Array.length_toList, size_sortF]

def SrtPost (w : World) (d : List Fd) (e : Ending) (w' : World) : Prop :=
  (BadF d 0 ∧ e = .returned (.tuple #[.slice none 0 0, .int .i64 6]) ∧ Below w.heap.size w w') ∨
  (¬ BadF d 0 ∧ TwiceF d 1 ∧ e = .returned (.tuple #[.slice none 0 0, .int .i64 7]) ∧ Below w.heap.size w w') ∨
  (¬ BadF d 0 ∧ ¬ TwiceF d 1 ∧ ∃ v, e = .returned (.tuple #[v, .int .i64 0]) ∧ FS w' v (sortF d.toArray).toList ∧ Below w.heap.size w w')

theorem sort_all (v : Value) (d : List Fd) (w : World) (B : Nat) (hk : Kinds w) (hown : w.ownsRow B 30 2 v d.length (cellsF d)) (hv : d = [] → v = .slice none 0 0) (h19 : d.length ≤ 19) (hml : ∀ i (h : i < d.length), (d[i]).1.length ≤ 1000000) :
    Calls Tryd.prog 15 #[v] w (SrtPost w d) := by
  rcases Nat.eq_zero_or_pos d.length with h0 | h0
  · obtain rfl := List.length_eq_zero_iff.1 h0
    rw [hv rfl]
    refine (pSort_nil w).mono fun e w' ⟨h1, h2⟩ => .inr (.inr ⟨?_, ?_, _, h1, .inl ⟨List.length_eq_zero_iff.1 (len_sortF []), rfl⟩, h2⟩)
    · rintro ⟨i, hi, _⟩; simp at hi
    · rintro ⟨i, _, _, hi, _⟩; simp at hi
  · obtain ⟨g, cap, rfl⟩ := own_slice hown h0
    obtain ⟨hg, _, hcl, _⟩ := cells_ownF hown
    by_cases hb : BadF d 0
    · exact (sort_6 g cap d w hk hg hcl (by omega) hb hml).mono fun e w' ⟨h1, h2⟩ => .inl ⟨hb, h1, h2⟩
    · have hn : ∀ i (h : i < d.length), NameOk (d[i]).1 := fun i h => Classical.byContradiction fun e => hb ⟨i, h, by omega, e⟩
      by_cases ht : TwiceF d 1
      · exact (sort_7 g cap d w hk hg hcl h0 h19 hn ht (size_sortF d)).mono fun e w' ⟨h1, h2⟩ => .inr (.inl ⟨hb, ht, h1, h2⟩)
      · refine (sort_right g cap d w hk hg hcl h0 h19 hn (fun i h1 h2 e => ht ⟨i, h1, h1, h2, e⟩) (size_sortF d)).mono fun e w' ⟨g', c', h1, _, h2, h3⟩ => .inr (.inr ⟨hb, ht, _, h1, .inr ⟨?_, g', c', ?_, fun i hi => ?_⟩, h3⟩)
        · rw [len_sortF]; exact h0
        · rw [len_sortF]
        · have hi' : i < d.length := by rw [len_sortF] at hi; exact hi
          have hi2 : i < (sortF d.toArray).size := by rw [size_sortF]; exact hi'
          have h5 := h2 i hi'
          have e1 : (sortF d.toArray)[i]! = (sortF d.toArray)[i] := getElem!_pos (sortF d.toArray) i hi2
          rw [e1] at h5
          rw [Nat.zero_add, Array.getElem_toList]
          exact h5

def JsPost (w : World) (s : List UInt8) (e : Ending) (w' : World) : Prop :=
  match Js.obj 9 [] s with
  | .err c => e = .returned (.tuple #[.slice none 0 0, .int .i64 c]) ∧ c ≠ 0 ∧ Below w.heap.size w w'
  | .ok r d => if Js.blk r = [] then SrtPost w d e w' else e = .returned (.tuple #[.slice none 0 0, .int .i64 1]) ∧ Below w.heap.size w w'

theorem SrtPost.later {w W : World} {d : List Fd} {e : Ending} {w' : World} (hb : Below w.heap.size w W) (h : SrtPost W d e w') : SrtPost w d e w' := by
  rcases h with ⟨h1, h2, h3⟩ | ⟨h1, h2, h3, h4⟩ | ⟨h1, h2, v, h3, h4, h5⟩
  · exact .inl ⟨h1, h2, hb.trans (h3.mono hb.size)⟩
  · exact .inr (.inl ⟨h1, h2, h3, hb.trans (h4.mono hb.size)⟩)
  · exact .inr (.inr ⟨h1, h2, v, h3, h4, hb.trans (h5.mono hb.size)⟩)

theorem dok_start (w : World) (s : List UInt8) (hk : Kinds w) : DOK w w.heap.size s s [] (w.alloc (.cells #[.string ⟨s.toArray⟩, .int .i64 0, .int .i64 0, .slice none 0 0] 63)) := by
  refine ⟨0, by omega, rfl, ⟨by simp [go_sem], by simp [go_sem], by simp [go_sem], ⟨.slice none 0 0, by simp [go_sem], ⟨rfl, .inl ⟨rfl, rfl⟩⟩, fun _ => rfl⟩, fun i => ?_, Nat.le_refl _, by simp, (Below.refl _ _).alloc (Nat.le_refl _) _, hk⟩, by simp⟩
  simp [go_sem]

set_option maxRecDepth 100000 in
set_option maxHeartbeats 2000000 in
theorem json_any (s : List UInt8) (w : World) (hk : Kinds w) (hs : s.length ≤ 1000) (hd : ∀ r d, Js.obj 9 [] s = .ok r d → d.length ≤ 19 ∧ ∀ i (h : i < d.length), (d[i]).1.length ≤ 1000000) :
    Calls Tryd.prog 21 #[.string ⟨s.toArray⟩] w (JsPost w s) := by
  have HO := Lib.hid (object_any hs 9 [] s [] _ 0 rfl (by omega) (dok_start w s hk) (by simp))
  obtain ⟨R, hR⟩ : ∃ R, Js.obj 9 [] s = R := ⟨_, rfl⟩
  unfold JsPost
  rw [hR] at HO hd ⊢
  have HD := Lib.hid hd
  have HK := Lib.hid hk
  clear hd hR hk
  cases R with
  | err c =>
    go_enter Tryd.func21, Tryd.ntmps21
    go_wp2_with (go_at_call 32; refine HO.out.mono ?_)
    rintro e w1 ⟨rfl, h1⟩
    have H1 : Hid (DER w w.heap.size s (s.length + 1) c w1) := h1
    clear h1 HO
    go_wp2_with fail
    refine (blanksER H1.out hs).mono ?_
    rintro e w2 ⟨rfl, hc, k, fs, hk2, hd2, hl2⟩
    have H2 := Lib.hid hd2
    have c1 := hd2.c1
    have c2 := hd2.c2
    have t2 : ((c : Int) == 0) = false := by rw [beq_eq_false_iff_ne]; omega
    have t2' : ((c : Int) != 0) = true := by rw [bne_iff_ne]; omega
    clear hd2 H1
    by_cases hlt : k < s.length
    · have t1 : decide ((k : Int) < (s.length : Int)) = true := decide_eq_true (by omega)
      have t1' : decide (k < s.length) = true := decide_eq_true (by omega)
      have HF := Lib.hid (fail_er H2.out hc 1)
      go_wp2_with fail
      refine HF.out.mono ?_
      rintro e w3 ⟨rfl, hd3⟩
      have H3 := Lib.hid hd3
      have c2 := hd3.c2
      clear hd3
      go_wp2_with fail
      go_quiet (fail)
      go_wp2_with fail
      go_ret2
      exact ⟨rfl, hc, below_drewN H3.out.below _⟩
    · have t1 : decide ((k : Int) < (s.length : Int)) = false := decide_eq_false (by omega)
      have t1' : decide (k < s.length) = false := decide_eq_false (by omega)
      go_wp2_with fail
      go_quiet (fail)
      go_wp2_with fail
      go_ret2
      exact ⟨rfl, hc, below_drewN H2.out.below _⟩
  | ok r d =>
    obtain ⟨h19, hml⟩ := HD.out r d rfl
    have HML := Lib.hid hml
    clear hml HD
    by_cases hbl : Js.blk r = []
    · simp only [if_pos hbl]
      go_enter Tryd.func21, Tryd.ntmps21
      go_wp2_with (go_at_call 32; refine HO.out.mono ?_)
      rintro e w1 ⟨rfl, h1⟩
      have H1 : Hid (DOK w w.heap.size s r ([] ++ d) w1) := h1
      clear h1 HO
      go_wp2_with fail
      refine (blanksOK H1.out hs).mono ?_
      rintro e w2 ⟨rfl, k, hk2, hr2, hd2, hl2⟩
      rw [List.nil_append] at hd2
      have hke : s.length ≤ k := drop_end (hr2.trans hbl)
      have H2 := Lib.hid hd2
      have c1 := hd2.c1
      have c2 := hd2.c2
      obtain ⟨v3, y1, y2, y3⟩ := hd2.c3
      have HSO := Lib.hid (sort_all v3 d w2 _ hd2.kinds y2 y3 h19 HML.out)
      have hbw := hd2.below
      have t1 : decide ((k : Int) < (s.length : Int)) = false := decide_eq_false (by omega)
      have t1' : decide (k < s.length) = false := decide_eq_false (by omega)
      clear hd2 H1 hr2 y2 y3 hbl
      go_wp2_with fail
      refine HSO.out.mono ?_
      intro e w3 h3
      have H3 := Lib.hid (h3.later hbw)
      have hform : ∃ a b, e = .returned (.tuple #[a, b]) := by
        rcases h3 with ⟨_, h2, _⟩ | ⟨_, _, h2, _⟩ | ⟨_, _, v, h2, _⟩
        · exact ⟨_, _, h2⟩
        · exact ⟨_, _, h2⟩
        · exact ⟨_, _, h2⟩
      obtain ⟨a, b, rfl⟩ := hform
      clear h3 HSO
      go_wp2_with fail
      go_ret2
      exact H3.out
    · simp only [if_neg hbl]
      go_enter Tryd.func21, Tryd.ntmps21
      go_wp2_with (go_at_call 32; refine HO.out.mono ?_)
      rintro e w1 ⟨rfl, h1⟩
      have H1 : Hid (DOK w w.heap.size s r ([] ++ d) w1) := h1
      clear h1 HO
      go_wp2_with fail
      refine (blanksOK H1.out hs).mono ?_
      rintro e w2 ⟨rfl, k, hk2, hr2, hd2, hl2⟩
      have hke : k < s.length := by
        rcases Nat.lt_or_ge k s.length with c | c
        · exact c
        · rw [List.drop_of_length_le c] at hr2; exact absurd hr2.symm hbl
      have c1 := hd2.c1
      have t1 : decide ((k : Int) < (s.length : Int)) = true := decide_eq_true (by omega)
      have t1' : decide (k < s.length) = true := decide_eq_true (by omega)
      have HF := Lib.hid (fail_ok hd2 1)
      clear hd2 H1 hr2 hbl
      go_wp2_with fail
      refine HF.out.mono ?_
      rintro e w3 ⟨rfl, hd3⟩
      have H3 := Lib.hid hd3
      have c2 := hd3.c2
      clear hd3
      go_wp2_with fail
      go_quiet (fail)
      go_wp2_with fail
      go_ret2
      exact ⟨rfl, below_drewN H3.out.below _⟩

end Go.Proofs.YtfdbjgdafolbmaaDoor

/-
  The two sorts, plainly: the same list, or a name that occurs twice.
-/
import Derived.Test.YtfdbjgdafolbmaaDoorSoF
namespace Go.Proofs.YtfdbjgdafolbmaaDoor
open Go.RowKit Go.Sort Go.Shelf

theorem less_lt (x y : Fd) : Op.bytesLess x.1 y.1 = ltF x y := (cmp_less x.1 y.1).symm
theorem eq_of_not (a b : List UInt8) (h1 : ltStr a b = false) (h2 : ltStr b a = false) : a = b := by
  simp only [ltStr, decide_eq_false_iff_not, List.not_lt] at h1 h2
  exact List.le_antisymm h2 h1
def StrictS (l : List Fd) : Prop := l.Pairwise fun x y => ltF x y = true
def Names (l : List Fd) : List (List UInt8) := l.map (·.1)
theorem strict_nodup {l : List Fd} (h : StrictS l) : (Names l).Nodup := by
  unfold Names List.Nodup
  rw [List.pairwise_map]
  refine h.imp fun {x y} hxy e => ?_
  rw [ltF_eq, e, swo_ltStr.irrefl] at hxy
  cases hxy

theorem insPos_le (out : List Fd) (nm : List UInt8) : ∀ k, insPos out nm k ≤ k := by
  intro k
  induction k with
  | zero => exact Nat.le_refl _
  | succ k ih =>
    rw [insPos]
    split
    · omega
    · omega
theorem insPos_spec (out : List Fd) (nm : List UInt8) : ∀ k, k ≤ out.length → (∀ i, insPos out nm k ≤ i → i < k → ltStr nm (out[i]!).1 = true) ∧ (0 < insPos out nm k → ltStr nm (out[insPos out nm k - 1]!).1 = false) := by
  intro k
  induction k with
  | zero => intro _; exact ⟨fun i _ h => by omega, fun h => by simp [insPos] at h⟩
  | succ k ih =>
    intro hk
    obtain ⟨h1, h2⟩ := ih (by omega)
    rw [insPos]
    split
    · rename_i hc
      refine ⟨fun i hi hik => ?_, h2⟩
      rcases Nat.lt_or_ge i k with c | c
      · exact h1 i hi c
      · obtain rfl : i = k := by omega
        rw [less_str] at hc
        simp only [Bool.not_eq_true', Bool.or_eq_false_iff, beq_eq_false_iff_ne] at hc
        cases e : ltStr nm (out[i]!).1 with
        | true => rfl
        | false => exact absurd (eq_of_not _ _ hc.1 e) hc.2
    · rename_i hc
      refine ⟨fun i hi hik => by omega, fun _ => ?_⟩
      rw [Nat.add_sub_cancel]
      rw [less_str] at hc
      simp only [Bool.not_eq_true', Bool.not_eq_false, Bool.or_eq_true, beq_iff_eq] at hc
      rcases hc with hc | hc
      · exact swo_ltStr.asymmA hc
      · rw [hc]; exact swo_ltStr.irrefl _

theorem ins_strict {out : List Fd} {x : Fd} (h : StrictS out) (j : Nat) (hj : j ≤ out.length) (hr : ∀ i, j ≤ i → i < out.length → ltStr x.1 (out[i]!).1 = true) (hl : 0 < j → ltStr (out[j - 1]!).1 x.1 = true) : StrictS (out.take j ++ x :: out.drop j) := by
  unfold StrictS at *
  rw [List.pairwise_append]
  refine ⟨h.sublist (List.take_sublist _ _), ?_, ?_⟩
  · rw [List.pairwise_cons]
    refine ⟨fun y hy => ?_, h.sublist (List.drop_sublist _ _)⟩
    obtain ⟨i, hi, rfl⟩ := List.getElem_of_mem hy
    rw [List.length_drop] at hi
    rw [ltF_eq, List.getElem_drop]
    have := hr (j + i) (by omega) (by omega)
    rwa [getElem!_pos out (j + i) (by omega)] at this
  · intro y hy z hz
    obtain ⟨i, hi, rfl⟩ := List.getElem_of_mem hy
    rw [List.length_take] at hi
    rw [List.getElem_take]
    have hyx : ltF (out[i]'(by omega)) x = true := by
      have h1 := hl (by omega)
      rw [getElem!_pos out (j - 1) (by omega)] at h1
      rw [ltF_eq]
      rcases Nat.lt_or_ge i (j - 1) with c | c
      · have h2 := List.pairwise_iff_getElem.1 h i (j - 1) (by omega) (by omega) c
        rw [ltF_eq] at h2
        exact swo_ltStr.trans _ _ _ h2 h1
      · obtain rfl : i = j - 1 := by omega
        exact h1
    rcases List.mem_cons.1 hz with rfl | hz
    · exact hyx
    · obtain ⟨t, ht, rfl⟩ := List.getElem_of_mem hz
      rw [List.length_drop] at ht
      rw [List.getElem_drop]
      exact List.pairwise_iff_getElem.1 h i (j + t) (by omega) (by omega) (by omega)

theorem rsort_spec : ∀ (d out : List Fd), StrictS out → (∀ o, rsort out d = some o → StrictS o ∧ o.Perm (out ++ d)) ∧ (rsort out d = none → ¬ (Names (out ++ d)).Nodup) := by
  intro d
  induction d with
  | nil =>
    intro out h
    refine ⟨fun o ho => ?_, fun h => by cases h⟩
    injection ho with ho
    subst ho
    rw [List.append_nil]
    exact ⟨h, List.Perm.refl _⟩
  | cons x d ih =>
    intro out h
    have hj := insPos_le out x.1 out.length
    obtain ⟨s1, s2⟩ := insPos_spec out x.1 out.length (Nat.le_refl _)
    obtain ⟨j, hjj⟩ : ∃ j, insPos out x.1 out.length = j := ⟨_, rfl⟩
    have hst := rsort_step out x d j hjj
    rw [hjj] at hj s1 s2
    rw [hst]
    by_cases hd : 0 < j ∧ (out[j - 1]!).1 = x.1
    · rw [if_pos hd]
      refine ⟨(fun o ho => by cases ho), fun _ hn => ?_⟩
      unfold Names at hn
      rw [List.map_append, List.nodup_append] at hn
      have hm : (out[j - 1]!).1 ∈ out.map (·.1) := by
        rw [getElem!_pos out (j - 1) (by omega)]
        exact List.mem_map_of_mem (List.getElem_mem _)
      exact hn.2.2 _ hm x.1 (by simp) hd.2
    · rw [if_neg hd]
      have hs : StrictS (out.take j ++ x :: out.drop j) := by
        refine ins_strict h j hj s1 fun h0 => ?_
        cases e : ltStr (out[j - 1]!).1 x.1 with
        | true => rfl
        | false => exact absurd ⟨h0, eq_of_not _ _ e (s2 h0)⟩ hd
      have hp : (out.take j ++ x :: out.drop j ++ d).Perm (out ++ x :: d) := by
        have h1 : (out.take j ++ x :: out.drop j).Perm (x :: out) := by
          have := (List.perm_middle (a := x) (l₁ := out.take j) (l₂ := out.drop j))
          rwa [List.take_append_drop] at this
        exact ((h1.append_right d).trans (by rw [List.cons_append]; exact (List.perm_middle (a := x) (l₁ := out) (l₂ := d)).symm))
      obtain ⟨i1, i2⟩ := ih _ hs
      refine ⟨fun o ho => ⟨(i1 o ho).1, (i1 o ho).2.trans hp⟩, fun hn hnd => i2 hn ?_⟩
      exact ((hp.map _).nodup_iff).2 hnd

theorem mg_perm {d : List Fd} {S : Array Fd} (h : Mg d.toArray 0 d.length S) : S.toList.Perm d := by
  have hp := h.perm.2.2
  have hs : S.size = d.length := by rw [h.perm.1]; simp
  have e1 : S.extract 0 d.length = S := by rw [← hs]; simp
  have e2 : d.toArray.extract 0 d.length = d.toArray := by simp
  rw [e1, e2] at hp
  simpa using hp
theorem mg_pair {d : List Fd} {S : Array Fd} (h : Mg d.toArray 0 d.length S) : S.toList.Pairwise fun x y => ltF y x = false := by
  have hs : S.size = d.length := by rw [h.perm.1]; simp
  rw [List.pairwise_iff_getElem]
  intro i j hi hj hij
  have := h.sorted i j (by omega) hij (by rw [← hs]; simpa using hj)
  rwa [getElem!_pos S i (by simpa using hi), getElem!_pos S j (by simpa using hj)] at this
theorem sorted_same {d : List Fd} {S : Array Fd} {o : List Fd} (h : Mg d.toArray 0 d.length S) (hs : StrictS o) (hp : o.Perm d) : S.toList = o := by
  have hnd : (Names d).Nodup := ((hp.map _).nodup_iff).1 (strict_nodup hs)
  refine List.Perm.eq_of_pairwise (le := fun x y => ltF y x = false) (fun x y hx hy h1 h2 => ?_) (mg_pair h) (hs.imp fun {x y} hxy => swoF.asymmA hxy) ((mg_perm h).trans hp.symm)
  have hx' : x ∈ d := (mg_perm h).mem_iff.1 hx
  have hy' : y ∈ d := hp.mem_iff.1 hy
  rw [ltF_eq] at h1 h2
  have e := eq_of_not _ _ h2 h1
  obtain ⟨i, hi, rfl⟩ := List.getElem_of_mem hx'
  obtain ⟨j, hj, rfl⟩ := List.getElem_of_mem hy'
  have : i = j := by
    unfold Names at hnd
    have := (List.getElem_inj (xs := d.map (·.1)) (i := i) (j := j) (h₀ := by simpa using hi) (h₁ := by simpa using hj) hnd).1 (by simpa using e)
    exact this
  subst this
  rfl
theorem twc_of {d : List Fd} {S : Array Fd} (h : Mg d.toArray 0 d.length S) (hn : ¬ (Names d).Nodup) : Twc S d.length 1 := by
  have hs : S.size = d.length := by rw [h.perm.1]; simp
  refine Classical.byContradiction fun hc => hn ?_
  refine (((mg_perm h).map _).nodup_iff).1 ?_
  show (S.toList.map (·.1)).Nodup
  unfold List.Nodup
  rw [List.pairwise_map, List.pairwise_iff_getElem]
  intro i j hi hj hij e
  have hi' : i < S.size := by simpa using hi
  have hj' : j < S.size := by simpa using hj
  apply hc
  refine ⟨i + 1, by omega, by omega, by omega, ?_⟩
  rw [Nat.add_sub_cancel]
  have e' : (S[i]!).1 = (S[j]!).1 := by rw [getElem!_pos S i hi', getElem!_pos S j hj']; simpa using e
  have a1 := h.sorted i (i + 1) (by omega) (by omega) (by omega)
  rw [ltF_eq] at a1
  refine eq_of_not _ _ a1 ?_
  rcases Nat.eq_or_lt_of_le (show i + 1 ≤ j by omega) with c | c
  · rw [e', ← c]; exact swo_ltStr.irrefl _
  · have a2 := h.sorted (i + 1) j (by omega) c (by omega)
    rw [ltF_eq, ← e'] at a2
    exact a2
theorem no_twc {S : Array Fd} {n : Nat} (hn : n = S.size) (h : (Names S.toList).Nodup) : ¬ Twc S n 1 := by
  rintro ⟨i, _, h1, h2, h3⟩
  subst hn
  rw [getElem!_pos S i h2, getElem!_pos S (i - 1) (by omega)] at h3
  unfold Names at h
  have := (List.getElem_inj (xs := S.toList.map (·.1)) (i := i) (j := i - 1) (h₀ := by simpa using h2) (h₁ := by simp; omega) h).1 (by simpa using h3)
  omega

end Go.Proofs.YtfdbjgdafolbmaaDoor

/-
  Joined: PpA, PpB, PpC, PpD, PpE, PqA, PqB, PatZb, PqC.
-/
import Derived.Test.YtpbdcghiabhliaaDoorRvD
import Derived.Lib.QuietBelow
import Derived.Test.YtpbdcghiabhliaaDoorPatYh
/-
  The plain law: sets and their ranges.
-/
namespace Go.Proofs.YtpbdcghiabhliaaDoor

/-- Ranges in order and apart, from k on. -/
def SrtF : Nat → List (UInt8 × UInt8) → Prop
  | _, [] => True
  | k, r :: rs => k ≤ r.1.toNat ∧ r.1.toNat ≤ r.2.toNat ∧ SrtF (r.2.toNat + 2) rs
theorem SrtF.mono {rs : List (UInt8 × UInt8)} {k m : Nat} (h : SrtF m rs) (hk : k ≤ m) : SrtF k rs := by
  cases rs with
  | nil => trivial
  | cons r rs => exact ⟨Nat.le_trans hk h.1, h.2⟩
theorem srt_of {rs : List (UInt8 × UInt8)} (h : ∀ i (h : i < rs.length), okR rs i h) : ∀ k, (∀ h : 0 < rs.length, k ≤ rs[0].1.toNat) → SrtF k rs := by
  induction rs with
  | nil => intro k _; trivial
  | cons r rs ih =>
    intro k hk
    have h0 := h 0 (by simp)
    refine ⟨(show k ≤ (r :: rs)[0].1.toNat from hk (by simp)), by simpa [okR] using h0.1, ih (fun i hi => ?_) _ (fun hl => ?_)⟩
    · have h1 := h (i + 1) (by simpa using hi)
      unfold okR at h1 ⊢
      simp only [List.getElem_cons_succ] at h1
      refine ⟨h1.1, fun hp => ?_⟩
      have h2 := h1.2 (by omega)
      have e : (r :: rs)[i + 1 - 1]'(by simp; omega) = rs[i - 1]'(by omega) := by
        obtain ⟨j, rfl⟩ : ∃ j, i = j + 1 := ⟨i - 1, by omega⟩
        simp
      rw [e] at h2
      exact h2
    · have h1 := h 1 (by simpa using hl)
      unfold okR at h1
      have h2 := h1.2 (by omega)
      simp only [Nat.sub_self, List.getElem_cons_zero, List.getElem_cons_succ] at h2
      omega
theorem srtB_of {rs : List (UInt8 × UInt8)} (h : srtB rs = true) : SrtF 0 rs ∧ rs ≠ [] := by
  by_cases hh : 0 < rs.length ∧ ∀ i (h : i < rs.length), okR rs i h
  · exact ⟨srt_of hh.2 0 (fun _ => Nat.zero_le _), fun e => by rw [e] at hh; simp at hh⟩
  · rw [srtB_no hh] at h
    cases h
theorem uni_fold (rs : List (UInt8 × UInt8)) : ∀ (f : Nat → Bool) (c : Nat), (rs.foldl (fun f r c => f c || spanF r.1.toNat (r.2.toNat + 1) c) f) c = (f c || rs.any fun r => spanF r.1.toNat (r.2.toNat + 1) c) := by
  induction rs with
  | nil => intro f c; simp
  | cons r rs ih => intro f c; rw [List.foldl_cons, ih, List.any_cons, Bool.or_assoc]
theorem uniF_any (rs : List (UInt8 × UInt8)) (c : Nat) : uniF rs c = rs.any fun r => spanF r.1.toNat (r.2.toNat + 1) c := by
  unfold uniF
  rw [uni_fold]
  simp
theorem uniF_cons (r : UInt8 × UInt8) (rs : List (UInt8 × UInt8)) (c : Nat) : uniF (r :: rs) c = (spanF r.1.toNat (r.2.toNat + 1) c || uniF rs c) := by rw [uniF_any, uniF_any, List.any_cons]
theorem spanF_iff (a b c : Nat) : spanF a (b + 1) c = true ↔ a ≤ c ∧ c ≤ b := by
  unfold spanF
  simp
  omega
theorem uniF_low {rs : List (UInt8 × UInt8)} : ∀ {k c : Nat}, SrtF k rs → c < k → uniF rs c = false := by
  induction rs with
  | nil => intro k c _ _; rfl
  | cons r rs ih =>
    intro k c h hc
    rw [uniF_cons, ih h.2.2 (by have := h.1; have := h.2.1; omega), Bool.or_false]
    cases hh : spanF r.1.toNat (r.2.toNat + 1) c with
    | false => rfl
    | true =>
      have := (spanF_iff _ _ _).1 hh
      have := h.1
      omega
/-- The ranges of a set that has just these ranges. -/
theorem rngs_uni (rs : List (UInt8 × UInt8)) : ∀ (f : Nat → Bool) (k : Nat), SrtF k rs → (∀ c, k ≤ c → c < 256 → f c = uniF rs c) → k ≤ 257 → rngs f k = rs := by
  induction rs with
  | nil =>
    intro f k _ hf hk
    rcases Nat.lt_or_ge k 256 with h | h
    · rw [rngs_skip f 256 (Nat.le_refl _) k (by omega) (fun j h1 h2 => hf j h1 h2), rngs, dif_neg (by omega)]
    · rw [rngs, dif_neg (by omega)]
  | cons r rs ih =>
    intro f k h hf hk
    obtain ⟨a, b⟩ := r
    obtain ⟨h1, h2, h3⟩ := h
    simp only at h1 h2 h3
    have ha := UInt8.toNat_lt a
    have hb := UInt8.toNat_lt b
    have hlo : ∀ j, k ≤ j → j < a.toNat → f j = false := fun j hj1 hj2 => by
      rw [hf j hj1 (by omega), uniF_cons, uniF_low h3 (by omega), Bool.or_false]
      cases hh : spanF a.toNat (b.toNat + 1) j with
      | false => rfl
      | true => have := (spanF_iff _ _ _).1 hh; omega
    have hin : ∀ j, a.toNat ≤ j → j ≤ b.toNat → f j = true := fun j hj1 hj2 => by
      rw [hf j (by omega) (by omega), uniF_cons, (spanF_iff a.toNat b.toNat j).2 ⟨hj1, hj2⟩, Bool.true_or]
    have hend : b.toNat + 1 < 256 → f (b.toNat + 1) = false := fun hj => by
      rw [hf _ (by omega) hj, uniF_cons, uniF_low h3 (by omega), Bool.or_false]
      cases hh : spanF a.toNat (b.toNat + 1) (b.toNat + 1) with
      | false => rfl
      | true => have := (spanF_iff _ _ _).1 hh; omega
    rw [rngs_skip f a.toNat (by omega) k h1 hlo, rngs_on f a.toNat ha (hin _ (Nat.le_refl _) h2), runTo_all f b.toNat hb hend a.toNat h2 (fun j h4 h5 => hin j (by omega) h5)]
    rw [ih f (b.toNat + 1) (h3.mono (by omega)) (fun c hc1 hc2 => ?_) (by omega)]
    · simp
    · rw [hf c (by omega) hc2, uniF_cons]
      cases hh : spanF a.toNat (b.toNat + 1) c with
      | false => rfl
      | true => have := (spanF_iff _ _ _).1 hh; omega
theorem runTo_in (f : Nat → Bool) (n : Nat) : ∀ c, 256 - c ≤ n → c < 256 → (∀ j, c < j → j ≤ runTo f c → f j = true) ∧ (runTo f c + 1 < 256 → f (runTo f c + 1) = false) := by
  induction n with
  | zero => intro c h1 h2; omega
  | succ n ih =>
    intro c h1 h2
    by_cases h : c + 1 < 256 ∧ f (c + 1) = true
    · have hi := ih (c + 1) (by omega) h.1
      rw [runTo_on f c h.1 h.2] at hi
      refine ⟨fun j hj1 hj2 => ?_, hi.2⟩
      rcases Nat.eq_or_lt_of_le (show c + 1 ≤ j by omega) with e | e
      · rw [← e]; exact h.2
      · exact hi.1 j e hj2
    · have e : runTo f c = c := by rw [runTo, if_neg h]
      rw [e]
      refine ⟨fun j h3 h4 => by omega, fun h3 => ?_⟩
      cases hh : f (c + 1) with
      | false => rfl
      | true => exact absurd ⟨h3, hh⟩ h
theorem rngs_srt (f : Nat → Bool) (n : Nat) : ∀ k, 256 - k ≤ n → SrtF k (rngs f k) ∧ ∀ c, k ≤ c → c < 256 → uniF (rngs f k) c = f c := by
  induction n with
  | zero =>
    intro k hk
    rw [rngs, dif_neg (by omega)]
    exact ⟨trivial, fun c h1 h2 => by omega⟩
  | succ n ih =>
    intro k hk
    by_cases hlt : k < 256
    · cases hf : f k with
      | false =>
        rw [rngs_off f k hlt hf]
        have h := ih (k + 1) (by omega)
        refine ⟨h.1.mono (by omega), fun c h1 h2 => ?_⟩
        rcases Nat.eq_or_lt_of_le h1 with rfl | e
        · rw [uniF_low h.1 (by omega), hf]
        · exact h.2 c e h2
      | true =>
        rw [rngs_on f k hlt hf]
        have hg := runTo_ge f k
        have hl := runTo_lt f k hlt
        have hr := runTo_in f 256 k (by omega) hlt
        have h := ih (runTo f k + 1) (by omega)
        have hk8 := ofNat8 hlt
        have hr8 := ofNat8 hl
        have hsr : SrtF (runTo f k + 2) (rngs f (runTo f k + 1)) := by
          rcases Nat.lt_or_ge (runTo f k + 1) 256 with h9 | h9
          · have h8 := ih (runTo f k + 1 + 1) (by omega)
            rw [rngs_off f _ h9 (hr.2 h9)]
            exact h8.1
          · rw [rngs, dif_neg (by omega)]
            trivial
        refine ⟨⟨by rw [hk8]; exact Nat.le_refl _, by rw [hk8, hr8]; exact hg, by rw [hr8]; exact hsr⟩, fun c h1 h2 => ?_⟩
        rw [uniF_cons, hk8, hr8]
        by_cases hc : c ≤ runTo f k
        · rw [(spanF_iff _ _ _).2 ⟨h1, hc⟩, Bool.true_or]
          rcases Nat.eq_or_lt_of_le h1 with rfl | e
          · exact hf.symm
          · exact (hr.1 c e hc).symm
        · rw [h.2 c (by omega) h2]
          cases hh : spanF k (runTo f k + 1) c with
          | false => rfl
          | true => have := (spanF_iff _ _ _).1 hh; omega
    · rw [rngs, dif_neg hlt]
      exact ⟨trivial, fun c h1 h2 => by omega⟩
/-- A class as it is read back: by its ranges, or by the ranges of what is not in it. -/
theorem rngs_back {rs : List (UInt8 × UInt8)} (h : SrtF 0 rs) : rngs (uniF rs) 0 = rs := rngs_uni rs _ 0 h (fun _ _ _ => rfl) (by omega)
theorem rngs_neg {rs : List (UInt8 × UInt8)} (h : SrtF 0 rs) : rngs (fun c => !uniF (negR rs) c) 0 = rs := by
  refine rngs_uni rs _ 0 h (fun c _ hc => ?_) (by omega)
  have := (rngs_srt (fun c => !uniF rs c) 256 0 (by omega)).2 c (Nat.zero_le _) hc
  show (!uniF (negR rs) c) = _
  unfold negR
  rw [this]
  simp
end Go.Proofs.YtpbdcghiabhliaaDoor
/-
  The plain law: bytes and brackets are read back.
-/
namespace Go.Proofs.YtpbdcghiabhliaaDoor

theorem at_dr {l : List UInt8} {i : Nat} {c : UInt8} {r : List UInt8} (h : l.drop i = c :: r) : Asc.at_ l i = c.toNat := by
  have e : l[i]? = some c := by
    have := congrArg (fun x : List UInt8 => x[0]?) h
    simpa using this
  unfold Asc.at_
  rw [e]
theorem at_dr0 {l : List UInt8} {i : Nat} (h : l.drop i = []) : Asc.at_ l i = 999 := by
  have e : l[i]? = none := List.getElem?_eq_none (by simpa using h)
  unfold Asc.at_
  rw [e]
theorem dr_next {l : List UInt8} {i : Nat} {c : UInt8} {r : List UInt8} (h : l.drop i = c :: r) : l.drop (i + 1) = r := by
  rw [← List.drop_drop, h]
  rfl
theorem dr_app {l : List UInt8} {i : Nat} {a r : List UInt8} (h : l.drop i = a ++ r) : l.drop (i + a.length) = r := by
  rw [← List.drop_drop, h, List.drop_left]
theorem dr_le {l : List UInt8} {i : Nat} {a r : List UInt8} (h : l.drop i = a ++ r) (ha : a ≠ []) : i + a.length + r.length = l.length := by
  have h1 : 0 < a.length := List.length_pos_iff.2 ha
  have := congrArg List.length h
  simp at this
  omega

theorem wrB_cases (c : UInt8) (h : wrB c ≠ []) : (c = 10 ∧ wrB c = [92, 110]) ∨ (c = 9 ∧ wrB c = [92, 116]) ∨ (c ∈ oddL ∧ wrB c = [92, c]) ∨ (c ∉ oddL ∧ 32 ≤ c.toNat ∧ c.toNat ≤ 126 ∧ wrB c = [c]) := by
  unfold wrB at h ⊢
  by_cases h1 : c = 10
  · left; simp [h1]
  by_cases h2 : c = 9
  · right; left; simp [h2]
  rw [if_neg h1, if_neg h2] at h
  by_cases h3 : c.toNat < 32 ∨ 126 < c.toNat
  · rw [if_pos h3] at h; exact absurd rfl h
  by_cases h4 : c ∈ oddL
  · right; right; left
    refine ⟨h4, ?_⟩
    rw [if_neg h1, if_neg h2, if_neg h3, if_pos h4]
  · right; right; right
    refine ⟨h4, by omega, by omega, ?_⟩
    rw [if_neg h1, if_neg h2, if_neg h3, if_neg h4]
theorem u8n {c d : UInt8} (h : c ≠ d) : c.toNat ≠ d.toNat := fun e => h (UInt8.toNat_inj.1 e)
theorem odd_cases {c : UInt8} (h : c ∈ oddL) : c = 93 ∨ c = 45 ∨ c = 94 ∨ c = 92 := by
  unfold oddL at h
  simpa using h
theorem not_odd {c : UInt8} (h : c ∉ oddL) : c.toNat ≠ 93 ∧ c.toNat ≠ 45 ∧ c.toNat ≠ 94 ∧ c.toNat ≠ 92 := by
  unfold oddL at h
  simp at h
  exact ⟨u8n h.1, u8n h.2.1, u8n h.2.2.1, u8n h.2.2.2⟩
/-- The first byte of a written byte. -/
theorem wrB_head (c : UInt8) (h : wrB c ≠ []) : ∃ d t, wrB c = d :: t ∧ d.toNat ≠ 93 ∧ d.toNat ≠ 45 ∧ d.toNat ≠ 94 := by
  rcases wrB_cases c h with ⟨_, e⟩ | ⟨_, e⟩ | ⟨_, e⟩ | ⟨hn, _, _, e⟩
  · exact ⟨92, _, e, by decide, by decide, by decide⟩
  · exact ⟨92, _, e, by decide, by decide, by decide⟩
  · exact ⟨92, _, e, by decide, by decide, by decide⟩
  · exact ⟨c, _, e, (not_odd hn).1, (not_odd hn).2.1, (not_odd hn).2.2.1⟩
theorem item_back {l : List UInt8} {i : Nat} (c : UInt8) (h : wrB c ≠ []) {r : List UInt8} (hd : l.drop i = wrB c ++ r) (single : Bool) : itemM l single i = .ok ((spanF c.toNat (c.toNat + 1), c.toNat, true), i + (wrB c).length) := by
  rcases wrB_cases c h with ⟨hc, e⟩ | ⟨hc, e⟩ | ⟨hc, e⟩ | ⟨hn, h1, h2, e⟩
  · rw [e] at hd ⊢
    subst hc
    have a0 := at_dr (show l.drop i = 92 :: (110 :: r) from hd)
    have a1 := at_dr (show l.drop (i + 1) = 110 :: r from dr_next hd)
    unfold itemM escM
    rw [a0, a1]
    simp [dws]
  · rw [e] at hd ⊢
    subst hc
    have a0 := at_dr (show l.drop i = 92 :: (116 :: r) from hd)
    have a1 := at_dr (show l.drop (i + 1) = 116 :: r from dr_next hd)
    unfold itemM escM
    rw [a0, a1]
    simp [dws]
  · rw [e] at hd ⊢
    have a0 := at_dr (show l.drop i = 92 :: (c :: r) from hd)
    have a1 := at_dr (show l.drop (i + 1) = c :: r from dr_next hd)
    unfold itemM escM
    rw [a0, a1]
    rcases odd_cases hc with rfl | rfl | rfl | rfl <;> simp [dws, selfE, Asc.isLetter, Asc.isDigit]
  · rw [e] at hd ⊢
    have a0 := at_dr (show l.drop i = c :: r from hd)
    have hn := not_odd hn
    unfold itemM
    rw [a0, if_neg hn.2.2.2, if_pos (by simp [selfI, h1, h2, hn.1, hn.2.1, hn.2.2.1])]
    rfl
theorem itmL_cons (r : UInt8 × UInt8) (rs : List (UInt8 × UInt8)) : itmL (r :: rs) = wrR r ++ itmL rs := by unfold itmL; simp
theorem itmO_cons (r : UInt8 × UInt8) (rs : List (UInt8 × UInt8)) : itmO (r :: rs) = (canR r && itmO rs) := by unfold itmO; simp
/-- What follows items does not begin with a hyphen. -/
theorem itm_next {l : List UInt8} {i : Nat} {rs : List (UInt8 × UInt8)} {r : List UInt8} (ho : itmO rs = true) (hd : l.drop i = itmL rs ++ 93 :: r) : Asc.at_ l i ≠ 45 := by
  cases rs with
  | nil => rw [at_dr (show l.drop i = 93 :: r from hd)]; decide
  | cons q rs =>
    rw [itmO_cons] at ho
    have hc : canR q = true := by simpa using (Bool.and_eq_true _ _ ▸ ho).1
    unfold canR at hc
    have hw : wrB q.1 ≠ [] := of_decide_eq_true (Bool.and_eq_true _ _ ▸ hc : decide (wrB q.1 ≠ []) = true ∧ decide (wrB q.2 ≠ []) = true).1
    obtain ⟨d, t, e, _, hd2, _⟩ := wrB_head q.1 hw
    rw [itmL_cons, wrR, e] at hd
    rw [at_dr (show l.drop i = d :: _ from hd)]
    exact hd2
theorem bra_items {l : List UInt8} {r : List UInt8} : ∀ (rs : List (UInt8 × UInt8)) (n : Nat) (first : Bool) (i k : Nat) (all : Nat → Bool), SrtF k rs → itmO rs = true → l.drop i = itmL rs ++ 93 :: r → rs.length < n → (first = true → rs ≠ []) →
    braL l n first i all = .ok (rs.foldl (fun f r c => f c || spanF r.1.toNat (r.2.toNat + 1) c) all, i + (itmL rs).length)
  | [], 0, _, _, _, _, _, _, _, h, _ => by simp at h
  | [], n + 1, first, i, k, all, _, _, hd, _, hf => by
    have a0 := at_dr (show l.drop i = 93 :: r from hd)
    have hf' : first = false := by cases first with
      | false => rfl
      | true => exact absurd rfl (hf rfl)
    rw [braL, if_pos ⟨hf', by rw [a0]; rfl⟩]
    rfl
  | q :: rs, 0, _, _, _, _, _, _, _, h, _ => by simp at h
  | q :: rs, n + 1, first, i, k, all, hs, ho, hd, hn, hf => by
    obtain ⟨lo, hi⟩ := q
    rw [itmO_cons] at ho
    have ho2 := (Bool.and_eq_true _ _ ▸ ho : canR (lo, hi) = true ∧ itmO rs = true)
    have hc := ho2.1
    unfold canR at hc
    have hc2 := (Bool.and_eq_true _ _ ▸ hc : decide (wrB lo ≠ []) = true ∧ decide (wrB hi ≠ []) = true)
    have hw1 : wrB lo ≠ [] := of_decide_eq_true hc2.1
    have hw2 : wrB hi ≠ [] := of_decide_eq_true hc2.2
    obtain ⟨_, hle, hs2⟩ := hs
    simp only at hle hs2
    obtain ⟨d, t, e, hd1, _, _⟩ := wrB_head lo hw1
    rw [itmL_cons] at hd ⊢
    have a0 : Asc.at_ l i = d.toNat := by
      have : l.drop i = d :: (t ++ ((if lo = hi then [] else 45 :: wrB hi) ++ (itmL rs ++ 93 :: r))) := by rw [hd, wrR, e]; simp
      exact at_dr this
    have hn' : rs.length < n := by simpa using hn
    rw [braL, if_neg (fun x => hd1 (by rw [← a0]; exact x.2))]
    by_cases hq : lo = hi
    · have ew : wrR (lo, hi) = wrB lo := by unfold wrR; simp [hq]
      rw [ew] at hd ⊢
      have hd' : l.drop i = wrB lo ++ (itmL rs ++ 93 :: r) := by rw [hd]; simp
      have hd2 := dr_app hd'
      rw [item_back lo hw1 hd' false]
      simp only
      rw [if_neg (fun x => itm_next ho2.2 hd2 x.2)]
      rw [bra_items rs n false _ _ _ hs2 ho2.2 hd2 hn' (by simp)]
      subst hq
      simp [Nat.add_assoc]
    · have ew : wrR (lo, hi) = wrB lo ++ (45 :: wrB hi) := by unfold wrR; simp [hq]
      rw [ew] at hd ⊢
      have hd' : l.drop i = wrB lo ++ (45 :: (wrB hi ++ (itmL rs ++ 93 :: r))) := by rw [hd]; simp
      have hd2 := dr_app hd'
      have a1 := at_dr hd2
      have hd3 := dr_next hd2
      have hd4 := dr_app hd3
      rw [item_back lo hw1 hd' false]
      simp only
      rw [if_pos ⟨trivial, by rw [a1]; rfl⟩, item_back hi hw2 hd3 true]
      simp only
      rw [if_neg (by omega), bra_items rs n false _ _ _ hs2 ho2.2 hd4 hn' (by simp)]
      simp
      omega
theorem itmO_len {rs : List (UInt8 × UInt8)} (h : itmO rs = true) : rs.length ≤ (itmL rs).length := by
  induction rs with
  | nil => simp
  | cons q rs ih =>
    rw [itmO_cons] at h
    have ho2 := (Bool.and_eq_true _ _ ▸ h : canR q = true ∧ itmO rs = true)
    have hc := ho2.1
    unfold canR at hc
    have hc2 := (Bool.and_eq_true _ _ ▸ hc : decide (wrB q.1 ≠ []) = true ∧ decide (wrB q.2 ≠ []) = true)
    have hw1 : 0 < (wrB q.1).length := List.length_pos_iff.2 (of_decide_eq_true hc2.1)
    have := ih ho2.2
    rw [itmL_cons, wrR]
    simp
    omega
theorem itmB_parts {rs : List (UInt8 × UInt8)} (h : itmB rs = true) : itmO rs = true ∧ itmL rs ≠ [] ∧ rs ≠ [] := by
  unfold itmB at h
  have h2 := (Bool.and_eq_true _ _ ▸ h : itmO rs = true ∧ decide (itmL rs ≠ []) = true)
  have h3 : itmL rs ≠ [] := of_decide_eq_true h2.2
  exact ⟨h2.1, h3, fun e => h3 (by rw [e]; rfl)⟩
/-- A class is read back. -/
theorem cls_back {l : List UInt8} {i : Nat} {rs : List (UInt8 × UInt8)} {r : List UInt8} (hs : SrtF 0 rs) (hb : clsB rs = true) (hd : l.drop i = clsS rs ++ r) : Asc.at_ l i = 91 ∧ braM l (i + 1) = .ok (.node 1 rs [] [] 0 0, i + (clsS rs).length) := by
  unfold clsS at hd ⊢
  by_cases h1 : itmB rs = true
  · obtain ⟨ho, hne, hr⟩ := itmB_parts h1
    rw [if_pos h1] at hd ⊢
    have hS : itmS rs = itmL rs := by unfold itmS; rw [if_pos ho]
    rw [hS] at hd ⊢
    have a0 := at_dr (show l.drop i = 91 :: ((itmL rs ++ [93]) ++ r) from hd)
    have hd1 : l.drop (i + 1) = itmL rs ++ 93 :: r := by rw [dr_next (show l.drop i = 91 :: ((itmL rs ++ [93]) ++ r) from hd)]; simp
    have hl := dr_le hd1 hne
    have hn := itmO_len ho
    refine ⟨by rw [a0]; rfl, ?_⟩
    have h94 : Asc.at_ l (i + 1) ≠ 94 := by
      cases rs with
      | nil => exact absurd rfl hr
      | cons q rs =>
        rw [itmO_cons] at ho
        have hc : canR q = true := (Bool.and_eq_true _ _ ▸ ho : canR q = true ∧ itmO rs = true).1
        unfold canR at hc
        have hw : wrB q.1 ≠ [] := of_decide_eq_true (Bool.and_eq_true _ _ ▸ hc : decide (wrB q.1 ≠ []) = true ∧ decide (wrB q.2 ≠ []) = true).1
        obtain ⟨d, t, e, _, _, hd2⟩ := wrB_head q.1 hw
        have : l.drop (i + 1) = d :: (t ++ ((if q.1 = q.2 then [] else 45 :: wrB q.2) ++ (itmL rs ++ 93 :: r))) := by rw [hd1, itmL_cons, wrR, e]; simp
        rw [at_dr this]
        exact hd2
    unfold braM
    rw [if_neg h94, bra_items rs _ true (i + 1) 0 _ hs ho hd1 (by omega) (fun _ => hr)]
    simp only [if_neg h94]
    have hu : rs.foldl (fun f r c => f c || spanF r.1.toNat (r.2.toNat + 1) c) (fun _ => false) = uniF rs := rfl
    rw [hu, clsT, rngs_back hs]
    simp
    omega
  · have h2 : itmB (negR rs) = true := by
      unfold clsB at hb
      rcases (Bool.or_eq_true _ _ ▸ hb : itmB rs = true ∨ itmB (negR rs) = true) with h | h
      · exact absurd h h1
      · exact h
    obtain ⟨ho, hne, hr⟩ := itmB_parts h2
    rw [if_neg h1] at hd ⊢
    have hS : itmS (negR rs) = itmL (negR rs) := by unfold itmS; rw [if_pos ho]
    rw [hS] at hd ⊢
    have a0 := at_dr (show l.drop i = 91 :: (94 :: (itmL (negR rs) ++ [93]) ++ r) from hd)
    have hd0 := dr_next (show l.drop i = 91 :: (94 :: (itmL (negR rs) ++ [93]) ++ r) from hd)
    have a1 := at_dr (show l.drop (i + 1) = 94 :: ((itmL (negR rs) ++ [93]) ++ r) from hd0)
    have hd1 : l.drop (i + 1 + 1) = itmL (negR rs) ++ 93 :: r := by rw [dr_next (show l.drop (i + 1) = 94 :: ((itmL (negR rs) ++ [93]) ++ r) from hd0)]; simp
    have hl := dr_le hd1 hne
    have hn := itmO_len ho
    have hsn : SrtF 0 (negR rs) := (rngs_srt (fun c => !uniF rs c) 256 0 (by omega)).1
    refine ⟨by rw [a0]; rfl, ?_⟩
    have h94 : Asc.at_ l (i + 1) = 94 := by rw [a1]; rfl
    unfold braM
    rw [if_pos h94, bra_items (negR rs) _ true (i + 1 + 1) 0 _ hsn ho hd1 (by omega) (fun _ => hr)]
    simp only [if_pos h94]
    have hu : (negR rs).foldl (fun f r c => f c || spanF r.1.toNat (r.2.toNat + 1) c) (fun _ => false) = uniF (negR rs) := rfl
    rw [hu, clsT, rngs_neg hs]
    simp
    omega
end Go.Proofs.YtpbdcghiabhliaaDoor
/-
  The plain law: bounds and names are read back; how a written node begins.
-/
namespace Go.Proofs.YtpbdcghiabhliaaDoor

theorem dig8 {n : Nat} (h : n < 10) : (UInt8.ofNat (48 + n)).toNat = 48 + n := ofNat8 (by omega)
theorem bnd_back {l : List UInt8} {i n : Nat} (hn : n ≤ 40) {c : UInt8} {r : List UInt8} (hc : Asc.isDigit c.toNat = false) (hd : l.drop i = Lib.decDigits n ++ c :: r) : boundM l i = .ok (n, i + (Lib.decDigits n).length) := by
  by_cases h : n < 10
  · rw [Lib.decDigits_one h] at hd ⊢
    have a0 := at_dr (show l.drop i = UInt8.ofNat (48 + n) :: (c :: r) from hd)
    have a1 := at_dr (show l.drop (i + 1) = c :: r from dr_next hd)
    rw [dig8 h] at a0
    unfold boundM
    rw [a0, a1, if_pos (by unfold Asc.isDigit; simp; omega), hc, if_neg (by simp)]
    simp
  · rw [Lib.decDigits_two h (by omega)] at hd ⊢
    have a0 := at_dr (show l.drop i = UInt8.ofNat (48 + n / 10) :: (UInt8.ofNat (48 + n % 10) :: (c :: r)) from hd)
    have a1 := at_dr (show l.drop (i + 1) = UInt8.ofNat (48 + n % 10) :: (c :: r) from dr_next hd)
    rw [dig8 (by omega)] at a0 a1
    have e : (48 + n / 10 - 48) * 10 + (48 + n % 10 - 48) = n := by omega
    unfold boundM
    rw [a0, a1, if_pos (by unfold Asc.isDigit; simp; omega), if_pos (by unfold Asc.isDigit; simp; omega), e, if_neg (by omega)]
    rfl
theorem bds_back {l : List UInt8} {i : Nat} {lo hi : Int} (h0 : 0 ≤ lo) (h1 : lo ≤ 40) (h2 : hi = -1 ∨ (lo ≤ hi ∧ hi ≤ 40)) {r : List UInt8} (hd : l.drop i = bdsL lo hi ++ r) : Asc.at_ l i = 123 ∧ boundsM l (i + 1) = .ok ((lo, hi), i + (bdsL lo hi).length) := by
  have d44 : Asc.isDigit (44 : UInt8).toNat = false := by decide
  have d125 : Asc.isDigit (125 : UInt8).toNat = false := by decide
  have hlo : ((lo.toNat : Nat) : Int) = lo := Int.toNat_of_nonneg h0
  unfold bdsL at hd ⊢
  by_cases hq : hi = -1
  · rw [if_pos hq] at hd ⊢
    subst hq
    have hd0 : l.drop i = 123 :: (decL lo ++ 44 :: 125 :: r) := by rw [hd]; simp
    have hd1 := dr_next hd0
    have hd2 := dr_app hd1
    have a2 := at_dr hd2
    have a3 := at_dr (dr_next hd2)
    refine ⟨at_dr hd0, ?_⟩
    unfold boundsM
    rw [bnd_back (n := lo.toNat) (by omega) d44 hd1]
    simp only
    rw [show Lib.decDigits lo.toNat = decL lo from rfl, if_pos (by rw [a2]; rfl), if_pos (by rw [a3]; rfl), hlo]
    simp
    omega
  · rw [if_neg hq] at hd ⊢
    by_cases hq2 : hi = lo
    · rw [if_pos hq2] at hd ⊢
      subst hq2
      have hd0 : l.drop i = 123 :: (decL hi ++ 125 :: r) := by rw [hd]; simp
      have hd1 := dr_next hd0
      have hd2 := dr_app hd1
      have a2 := at_dr hd2
      refine ⟨at_dr hd0, ?_⟩
      unfold boundsM
      rw [bnd_back (n := hi.toNat) (by omega) d125 hd1]
      simp only
      rw [show Lib.decDigits hi.toNat = decL hi from rfl, if_neg (by rw [a2]; decide), if_pos (by rw [a2]; rfl), hlo]
      simp
      omega
    · rw [if_neg hq2] at hd ⊢
      have hhi : ((hi.toNat : Nat) : Int) = hi := Int.toNat_of_nonneg (by omega)
      have hd0 : l.drop i = 123 :: (decL lo ++ 44 :: (decL hi ++ 125 :: r)) := by rw [hd]; simp
      have hd1 := dr_next hd0
      have hd2 := dr_app hd1
      have a2 := at_dr hd2
      have hd3 := dr_next hd2
      have hd4 := dr_app hd3
      have a4 := at_dr hd4
      have hx : Asc.isDigit (Asc.at_ l (i + 1 + (decL lo).length + 1)) = true := by
        have hf := Asc.dec_facts (hi.toNat + 1) hi.toNat (Nat.lt_succ_self _)
        by_cases h : hi.toNat < 10
        · have e : decL hi = [UInt8.ofNat (48 + hi.toNat)] := Lib.decDigits_one h
          rw [e] at hd3
          have a3 := at_dr (show l.drop (i + 1 + (decL lo).length + 1) = UInt8.ofNat (48 + hi.toNat) :: (125 :: r) from hd3)
          rw [dig8 h] at a3
          rw [a3]
          unfold Asc.isDigit
          simp
          omega
        · have e : decL hi = [UInt8.ofNat (48 + hi.toNat / 10), UInt8.ofNat (48 + hi.toNat % 10)] := Lib.decDigits_two h (by omega)
          rw [e] at hd3
          have a3 := at_dr (show l.drop (i + 1 + (decL lo).length + 1) = UInt8.ofNat (48 + hi.toNat / 10) :: (UInt8.ofNat (48 + hi.toNat % 10) :: (125 :: r)) from hd3)
          rw [dig8 (by omega)] at a3
          rw [a3]
          unfold Asc.isDigit
          simp
          omega
      have hx2 : Asc.at_ l (i + 1 + (decL lo).length + 1) ≠ 125 := fun e => by rw [e] at hx; simp [Asc.isDigit] at hx
      refine ⟨at_dr hd0, ?_⟩
      unfold boundsM
      rw [bnd_back (n := lo.toNat) (by omega) d44 hd1]
      simp only
      rw [show Lib.decDigits lo.toNat = decL lo from rfl, if_pos (by rw [a2]; rfl), if_neg hx2, bnd_back (n := hi.toNat) (by omega) d125 hd3]
      simp only
      rw [show Lib.decDigits hi.toNat = decL hi from rfl, if_neg (by omega), if_pos (by rw [a4]; rfl), hlo, hhi]
      simp
      omega
theorem tw_all {t r : List UInt8} (h : ∀ x ∈ t, Asc.isWord x.toNat = true) : (t ++ 58 :: r).takeWhile (fun x : UInt8 => Asc.isWord x.toNat) = t := by
  induction t with
  | nil => rw [List.nil_append, List.takeWhile_cons_of_neg (by decide)]
  | cons c t ih => rw [List.cons_append, List.takeWhile_cons_of_pos (p := fun x : UInt8 => Asc.isWord x.toNat) (h c (by simp)), ih (fun x hx => h x (List.mem_cons_of_mem _ hx))]
theorem cap_back {nm r : List UInt8} (h : nmB nm = true) : capN (nm ++ 58 :: r) = nm.length ∧ 0 < nm.length := by
  have hn : NmOk nm := by
    by_cases hh : NmOk nm
    · exact hh
    · rw [nmB_no hh] at h; cases h
  obtain ⟨h1, h2, h3, h4⟩ := hn
  cases nm with
  | nil => simp at h1
  | cons c t =>
    have hl : Asc.isLetter c.toNat = true := h3 (by simp)
    have hw : ∀ x ∈ t, Asc.isWord x.toNat = true := fun x hx => by
      obtain ⟨j, hj, e⟩ := List.getElem_of_mem hx
      have := h4 (j + 1) (by simpa using hj)
      simpa [e] using this
    have hn : nlen (c :: t ++ 58 :: r) = (c :: t).length := by
      rw [List.cons_append, nlen, if_pos hl, tw_all hw, if_neg (by simp at h2; omega)]
      simp
      omega
    have ha : Asc.at_ (c :: t ++ 58 :: r) (c :: t).length = 58 := by
      have : (c :: t ++ 58 :: r).drop (c :: t).length = 58 :: r := List.drop_left
      exact at_dr this
    exact ⟨by rw [capN_yes _ (by rw [hn]; simp) (by rw [hn]; exact ha), hn], by simp⟩
theorem cap_none {c : UInt8} {r : List UInt8} (h : Asc.isLetter c.toNat = false) : capN (c :: r) = 0 := by
  refine capN_no _ fun x => ?_
  have : nlen (c :: r) = 0 := by rw [nlen, if_neg (by rw [h]; simp)]
  omega
/-- How a written node begins. -/
def HdU (d : UInt8) : Prop := d = 40 ∨ d = 94 ∨ d = 36 ∨ d = 91
theorem insK_head (ops : List Int) {t : NT} (h : ∃ d r, nodL t = d :: r ∧ HdU d) : ∃ d r, insK ops t = d :: r ∧ HdU d := by
  unfold insK
  split
  · exact ⟨40, _, rfl, .inl rfl⟩
  · exact h
theorem nod_head (N : Nat) : ∀ t : NT, SizeOf.sizeOf t < N → Good t → ∃ d r, nodL t = d :: r ∧ HdU d := by
  induction N with
  | zero => intro t h; omega
  | succ N ih =>
    intro t hN hG
    obtain ⟨op, rs, nm, kids, mn, mx⟩ := t
    rw [Good] at hG
    obtain ⟨hs, hks⟩ := hG
    have hk : ∀ k ∈ kids, ∃ d r, nodL k = d :: r ∧ HdU d := fun k hk => ih k (by have := List.sizeOf_lt_of_mem hk; simp at hN; omega) (goods_at hks k hk)
    obtain ⟨h1, h2, h3⟩ := shE_zero hs
    have key : ∀ ops, 1 ≤ kids.length → ∃ d r, insL ops kids = d :: r ∧ HdU d := fun ops hl => by
      cases kids with
      | nil => simp at hl
      | cons x ks =>
        obtain ⟨d, r, e, hd⟩ := insK_head ops (hk x (by simp))
        exact ⟨d, _, by rw [insL_cons, e]; rfl, hd⟩
    rcases shp_cases h1 with ⟨rfl, h⟩ | ⟨rfl, h⟩ | ⟨rfl, h⟩ | ⟨rfl, h, hr⟩ | ⟨rfl, h⟩ | ⟨rfl, h⟩ | ⟨rfl, h⟩ | ⟨rfl, h⟩
    · exact ⟨40, [41], by rw [nodL]; rfl, .inl rfl⟩
    · exact ⟨94, [], by rw [nodL]; rfl, .inr (.inl rfl)⟩
    · exact ⟨36, [], by rw [nodL]; rfl, .inr (.inr (.inl rfl))⟩
    · have e : nodL (.node 1 rs nm kids mn mx) = clsS rs := by rw [nodL]; rfl
      rw [e]
      unfold clsS
      split
      · exact ⟨91, _, rfl, .inr (.inr (.inr rfl))⟩
      · exact ⟨91, _, rfl, .inr (.inr (.inr rfl))⟩
    · have e : nodL (.node 2 rs nm kids mn mx) = insL [2, 3] kids := by rw [nodL]; rfl
      rw [e]
      exact key _ (by omega)
    · have e : nodL (.node 3 rs nm kids mn mx) = altS kids := by rw [nodL]; rfl
      rw [e]
      cases kids with
      | nil => simp at h
      | cons x ks =>
        obtain ⟨d, r, e, hd⟩ := insK_head [3] (hk x (by simp))
        exact ⟨d, _, by rw [altS_cons, e]; rfl, hd⟩
    · have e : nodL (.node 4 rs nm kids mn mx) = insL [2, 3, 4] kids ++ bdsL mn mx := by rw [nodL]; rfl
      obtain ⟨d, r, e2, hd⟩ := key [2, 3, 4] (by omega)
      exact ⟨d, _, by rw [e, e2]; rfl, hd⟩
    · exact ⟨40, nm ++ (58 :: (insL [] kids ++ [41])), by rw [nodL]; rfl, .inl rfl⟩
end Go.Proofs.YtpbdcghiabhliaaDoor
/-
  The plain law: what is written is read back, level by level.
-/
namespace Go.Proofs.YtpbdcghiabhliaaDoor

/-- What follows an atom, a repetition, a sequence, alternatives. -/
def F1 (l : List UInt8) (j : Nat) : Prop := Asc.at_ l j ≠ 42 ∧ Asc.at_ l j ≠ 43 ∧ Asc.at_ l j ≠ 63 ∧ Asc.at_ l j ≠ 123
def F2 (l : List UInt8) (j : Nat) : Prop := Asc.at_ l j = 999 ∨ Asc.at_ l j = 124 ∨ Asc.at_ l j = 41
def F3 (l : List UInt8) (j : Nat) : Prop := Asc.at_ l j = 999 ∨ Asc.at_ l j = 41
theorem F2.f1 {l : List UInt8} {j : Nat} (h : F2 l j) : F1 l j := by unfold F2 at h; unfold F1; omega
theorem F3.f2 {l : List UInt8} {j : Nat} (h : F3 l j) : F2 l j := by unfold F3 at h; unfold F2; omega
theorem f1_hd {l : List UInt8} {j : Nat} {d : UInt8} {r : List UInt8} (h : HdU d) (hd : l.drop j = d :: r) : F1 l j := by
  unfold F1
  rw [at_dr hd]
  rcases h with rfl | rfl | rfl | rfl <;> decide
theorem not_f2 {l : List UInt8} {j : Nat} {d : UInt8} {r : List UInt8} (h : HdU d) (hd : l.drop j = d :: r) : ¬ (Asc.at_ l j = 999 ∨ Asc.at_ l j = 124 ∨ Asc.at_ l j = 41) := by
  rw [at_dr hd]
  rcases h with rfl | rfl | rfl | rfl <;> decide
def BkA (t : NT) : Prop := ∀ (l : List UInt8) (i d : Nat) (r : List UInt8), l.drop i = insK [2, 3, 4] t ++ r → l.length ≤ i + d → atomM (choM l d) l i = .ok (t, i + (insK [2, 3, 4] t).length)
def BkR (t : NT) : Prop := ∀ (l : List UInt8) (i d : Nat) (r : List UInt8), l.drop i = insK [2, 3] t ++ r → l.length ≤ i + d → F1 l (i + (insK [2, 3] t).length) → repM (choM l d) l i = .ok (t, i + (insK [2, 3] t).length)
def BkC (t : NT) : Prop := ∀ (l : List UInt8) (i d : Nat) (r : List UInt8), l.drop i = insK [3] t ++ r → l.length ≤ i + d → F2 l (i + (insK [3] t).length) → catM (choM l d) l i = .ok (t, i + (insK [3] t).length)
def BkO (t : NT) : Prop := ∀ (l : List UInt8) (i d : Nat) (r : List UInt8), l.drop i = nodL t ++ r → l.length < i + d → F3 l (i + (nodL t).length) → choM l d i = .ok (t, i + (nodL t).length)
def Hd (t : NT) : Prop := ∃ d r, nodL t = d :: r ∧ HdU d

theorem rep_of_atom {t : NT} (he : insK [2, 3] t = insK [2, 3, 4] t) (h : BkA t) : BkR t := by
  intro l i d r hd hl hf
  rw [he] at hd hf ⊢
  unfold repM
  rw [h l i d r hd hl]
  simp only
  rw [if_neg hf.1, if_neg hf.2.1, if_neg hf.2.2.1, if_neg hf.2.2.2]
theorem cat_list {l : List UInt8} {d : Nat} {r : List UInt8} : ∀ (ks : List NT) (n i : Nat) (acc : List NT), (∀ k ∈ ks, BkR k ∧ Hd k) → l.drop i = insL [2, 3] ks ++ r → l.length ≤ i + d → F2 l (i + (insL [2, 3] ks).length) → ks.length < n → catL (choM l d) l n i acc = .ok (joinT 2 (acc ++ ks), i + (insL [2, 3] ks).length)
  | [], 0, _, _, _, _, _, _, h => by simp at h
  | [], n + 1, i, acc, _, hd, _, hf, _ => by
    rw [insL_nil] at hf ⊢
    rw [catL, if_pos (show Asc.at_ l i = 999 ∨ Asc.at_ l i = 124 ∨ Asc.at_ l i = 41 from hf), List.append_nil]
    rfl
  | k :: ks, 0, _, _, _, _, _, _, h => by simp at h
  | k :: ks, n + 1, i, acc, hk, hd, hl, hf, hn => by
    obtain ⟨hr, hh⟩ := hk k (by simp)
    rw [insL_cons] at hd hf ⊢
    have hd' : l.drop i = insK [2, 3] k ++ (insL [2, 3] ks ++ r) := by rw [hd, List.append_assoc]
    have hd2 := dr_app hd'
    obtain ⟨c, t, e, hc⟩ := insK_head [2, 3] hh
    have hd3 : l.drop i = c :: (t ++ (insL [2, 3] ks ++ r)) := by rw [hd', e]; rfl
    have hf1 : F1 l (i + (insK [2, 3] k).length) := by
      cases ks with
      | nil =>
        rw [insL_nil, List.append_nil] at hf
        exact F2.f1 hf
      | cons x ks =>
        obtain ⟨c, t, e, hc⟩ := insK_head [2, 3] (hk x (by simp)).2
        have : l.drop (i + (insK [2, 3] k).length) = c :: (t ++ (insL [2, 3] ks ++ r)) := by rw [hd2, insL_cons, e]; simp
        exact f1_hd hc this
    rw [catL, if_neg (not_f2 hc hd3), hr l i d _ hd' hl hf1]
    simp only
    have hle : i + (insK [2, 3] k ++ insL [2, 3] ks).length = i + (insK [2, 3] k).length + (insL [2, 3] ks).length := by simp; omega
    rw [hle] at hf ⊢
    rw [cat_list ks n _ (acc ++ [k]) (fun x hx => hk x (List.mem_cons_of_mem _ hx)) hd2 (by omega) hf (by simpa using hn)]
    simp
theorem insL_ge {ks : List NT} (ops : List Int) (h : ∀ k ∈ ks, Hd k) : ks.length ≤ (insL ops ks).length := by
  induction ks with
  | nil => simp
  | cons k ks ih =>
    obtain ⟨c, t, e, _⟩ := insK_head ops (h k (by simp))
    have := ih (fun x hx => h x (List.mem_cons_of_mem _ hx))
    rw [insL_cons, e]
    simp
    omega
theorem dr_len {l : List UInt8} {i : Nat} {a r : List UInt8} (h : l.drop i = a ++ r) : a.length ≤ l.length := by
  have := congrArg List.length h
  simp at this
  omega
theorem cat_of_rep {t : NT} (he : insK [3] t = insK [2, 3] t) (hh : Hd t) (h : BkR t) : BkC t := by
  intro l i d r hd hl hf
  rw [he] at hd hf ⊢
  have e : insL [2, 3] [t] = insK [2, 3] t := by rw [insL_cons, insL_nil, List.append_nil]
  have hg := insL_ge [2, 3] (ks := [t]) (fun k hk => by rw [List.mem_singleton.1 hk]; exact hh)
  rw [← e] at hd hf ⊢
  have := dr_len hd
  rw [catM, cat_list [t] (l.length + 1) i [] (fun k hk => by rw [List.mem_singleton.1 hk]; exact ⟨h, hh⟩) hd hl hf (by omega)]
  rfl
theorem alt_list {l : List UInt8} {d : Nat} {r : List UInt8} : ∀ (ks : List NT) (n i : Nat) (acc : List NT), (∀ k ∈ ks, BkC k) → l.drop i = altT ks ++ r → l.length ≤ i + d → F3 l (i + (altT ks).length) → ks.length < n → altL (choM l d) l n i acc = .ok (joinT 3 (acc ++ ks), i + (altT ks).length)
  | [], 0, _, _, _, _, _, _, h => by simp at h
  | [], n + 1, i, acc, _, hd, _, hf, _ => by
    rw [altT_nil] at hf ⊢
    have : Asc.at_ l i ≠ 124 := by unfold F3 at hf; simp at hf; omega
    rw [altL, if_neg this, List.append_nil]
    rfl
  | k :: ks, 0, _, _, _, _, _, _, h => by simp at h
  | k :: ks, n + 1, i, acc, hk, hd, hl, hf, hn => by
    have hc := hk k (by simp)
    rw [altT_cons] at hd hf ⊢
    have hd0 : l.drop i = 124 :: (insK [3] k ++ (altT ks ++ r)) := by rw [hd]; simp
    have a0 := at_dr hd0
    have hd1 := dr_next hd0
    have hd2 := dr_app hd1
    have hf2 : F2 l (i + 1 + (insK [3] k).length) := by
      cases ks with
      | nil =>
        rw [altT_nil, List.append_nil] at hf
        refine F3.f2 ?_
        rw [show i + 1 + (insK [3] k).length = i + (124 :: insK [3] k).length by simp; omega]
        exact hf
      | cons x ks =>
        have : l.drop (i + 1 + (insK [3] k).length) = 124 :: (insK [3] x ++ altT ks ++ r) := by rw [hd2, altT_cons]; simp
        exact .inr (.inl (by rw [at_dr this]; rfl))
    rw [altL, if_pos (by rw [a0]; rfl), hc l (i + 1) d _ hd1 (by omega) hf2]
    simp only
    have hle : i + (124 :: (insK [3] k ++ altT ks)).length = i + 1 + (insK [3] k).length + (altT ks).length := by simp; omega
    rw [hle] at hf ⊢
    rw [alt_list ks n _ (acc ++ [k]) (fun x hx => hk x (List.mem_cons_of_mem _ hx)) hd2 (by omega) hf (by simpa using hn)]
    simp
theorem altT_ge (ks : List NT) : ks.length ≤ (altT ks).length := by
  induction ks with
  | nil => simp
  | cons k ks ih => rw [altT_cons]; simp; omega
/-- Alternatives are read back. -/
theorem cho_list {l : List UInt8} {i d : Nat} {k : NT} {ks : List NT} {r : List UInt8} (hk : ∀ x ∈ k :: ks, BkC x) (hd : l.drop i = altS (k :: ks) ++ r) (hl : l.length < i + d) (hi : i < l.length) (hf : F3 l (i + (altS (k :: ks)).length)) : choM l d i = .ok (joinT 3 (k :: ks), i + (altS (k :: ks)).length) := by
  rw [altS_cons] at hd hf ⊢
  obtain ⟨e, rfl⟩ : ∃ e, d = e + 1 := ⟨d - 1, by omega⟩
  have hd1 : l.drop i = insK [3] k ++ (altT ks ++ r) := by rw [hd]; simp
  have hd2 := dr_app hd1
  have hle : i + (insK [3] k ++ altT ks).length = i + (insK [3] k).length + (altT ks).length := by simp; omega
  rw [hle] at hf ⊢
  have hf2 : F2 l (i + (insK [3] k).length) := by
    cases ks with
    | nil =>
      rw [altT_nil] at hf
      exact F3.f2 hf
    | cons x ks =>
      have : l.drop (i + (insK [3] k).length) = 124 :: (insK [3] x ++ altT ks ++ r) := by rw [hd2, altT_cons]; simp
      exact .inr (.inl (by rw [at_dr this]; rfl))
  have hg := altT_ge ks
  have hm := dr_len hd2
  rw [choM, choB, hk k (by simp) l i e _ hd1 (by omega) hf2]
  simp only
  rw [alt_list ks (l.length + 1) _ [k] (fun x hx => hk x (List.mem_cons_of_mem _ hx)) hd2 (by omega) hf (by omega)]
  rfl
theorem hd_lt {l : List UInt8} {i : Nat} {d : UInt8} {r : List UInt8} (h : l.drop i = d :: r) : i < l.length := by
  have := congrArg List.length h
  simp at this
  omega
theorem cho_of_cat {t : NT} (he : nodL t = insK [3] t) (hh : Hd t) (h : BkC t) : BkO t := by
  intro l i d r hd hl hf
  have e : altS [t] = nodL t := by rw [altS_cons, altT_nil, List.append_nil, he]
  obtain ⟨c, u, e2, _⟩ := hh
  have hi : i < l.length := hd_lt (show l.drop i = c :: (u ++ r) by rw [hd, e2]; rfl)
  rw [← e] at hd hf ⊢
  exact cho_list (fun x hx => by rw [List.mem_singleton.1 hx]; exact h) hd hl hi hf
theorem hd_letter {d : UInt8} (h : HdU d) : Asc.isLetter d.toNat = false := by
  rcases h with rfl | rfl | rfl | rfl <;> decide
/-- A node in parentheses is read back as an atom. -/
theorem atom_of_cho {t : NT} (ho : opOf t ∈ [2, 3, 4]) (hh : Hd t) (h : BkO t) : BkA t := by
  intro l i d r hd hl
  have e : insK [2, 3, 4] t = 40 :: (nodL t ++ [41]) := by unfold insK; rw [if_pos ho]
  rw [e] at hd ⊢
  have hd0 : l.drop i = 40 :: (nodL t ++ 41 :: r) := by rw [hd]; simp
  have a0 := at_dr hd0
  have hd1 := dr_next hd0
  have hd2 := dr_app hd1
  have a2 := at_dr hd2
  obtain ⟨c, u, e2, hc⟩ := hh
  have hcap : capN (l.drop (i + 1)) = 0 := by
    rw [hd1, e2]
    exact cap_none (hd_letter hc)
  unfold atomM
  rw [if_pos (by rw [a0]; rfl), grpM, grpI, hcap, if_neg (Nat.lt_irrefl 0), h l (i + 1) d _ hd1 (by omega) (.inr (by rw [a2]; rfl))]
  simp only
  rw [if_pos (by rw [a2]; rfl), if_neg (Nat.lt_irrefl 0)]
  simp
  omega
end Go.Proofs.YtpbdcghiabhliaaDoor
/-
  The plain law: what Format writes, Parse reads back.
-/
namespace Go.Proofs.YtpbdcghiabhliaaDoor

theorem fld0 {op : Int} (ho : op = 0 ∨ op = 6 ∨ op = 7) {rs : List (UInt8 × UInt8)} {nm : List UInt8} {n : Nat} {mn mx : Int} (h : shpB op rs nm n mn mx = true) : rs = [] ∧ nm = [] ∧ mn = 0 ∧ mx = 0 := by
  unfold shpB at h
  rw [if_pos ho] at h
  simp only [Bool.and_eq_true, decide_eq_true_eq] at h
  exact ⟨List.length_eq_zero_iff.1 h.2.1, List.length_eq_zero_iff.1 h.2.2.1, h.2.2.2⟩
theorem fld1 {rs : List (UInt8 × UInt8)} {nm : List UInt8} {n : Nat} {mn mx : Int} (h : shpB 1 rs nm n mn mx = true) : nm = [] ∧ mn = 0 ∧ mx = 0 := by
  unfold shpB at h
  rw [if_neg (by decide), if_pos rfl] at h
  simp only [Bool.and_eq_true, decide_eq_true_eq] at h
  exact ⟨List.length_eq_zero_iff.1 h.2.2.1, h.2.2.2⟩
theorem fld2 {op : Int} (ho : op = 2 ∨ op = 3) {rs : List (UInt8 × UInt8)} {nm : List UInt8} {n : Nat} {mn mx : Int} (h : shpB op rs nm n mn mx = true) : rs = [] ∧ nm = [] ∧ mn = 0 ∧ mx = 0 := by
  unfold shpB at h
  rw [if_neg (by rcases ho with rfl | rfl <;> decide), if_neg (by rcases ho with rfl | rfl <;> decide), if_pos ho] at h
  simp only [Bool.and_eq_true, decide_eq_true_eq] at h
  exact ⟨List.length_eq_zero_iff.1 h.2.1, List.length_eq_zero_iff.1 h.2.2.1, h.2.2.2⟩
theorem fld4 {rs : List (UInt8 × UInt8)} {nm : List UInt8} {n : Nat} {mn mx : Int} (h : shpB 4 rs nm n mn mx = true) : rs = [] ∧ nm = [] := by
  unfold shpB at h
  rw [if_neg (by decide), if_neg (by decide), if_neg (by decide), if_pos rfl] at h
  simp only [Bool.and_eq_true, decide_eq_true_eq] at h
  exact ⟨List.length_eq_zero_iff.1 h.2.1, List.length_eq_zero_iff.1 h.2.2⟩
theorem fld5 {rs : List (UInt8 × UInt8)} {nm : List UInt8} {n : Nat} {mn mx : Int} (h : shpB 5 rs nm n mn mx = true) : rs = [] ∧ mn = 0 ∧ mx = 0 := by
  unfold shpB at h
  rw [if_neg (by decide), if_neg (by decide), if_neg (by decide), if_neg (by decide), if_pos rfl] at h
  simp only [Bool.and_eq_true, decide_eq_true_eq] at h
  exact ⟨List.length_eq_zero_iff.1 h.2.1, h.2.2⟩
theorem insK_not {ops : List Int} {t : NT} (h : opOf t ∉ ops) : insK ops t = nodL t := by unfold insK; rw [if_neg h]
theorem insK_in {ops : List Int} {t : NT} (h : opOf t ∈ ops) : insK ops t = 40 :: (nodL t ++ [41]) := by unfold insK; rw [if_pos h]
structure Bk (t : NT) : Prop where
  a : BkA t
  r : BkR t
  c : BkC t
  o : BkO t
theorem bk_atom {t : NT} (hh : Hd t) (h2 : opOf t ≠ 2) (h3 : opOf t ≠ 3) (h4 : opOf t ≠ 4) (h : BkA t) : Bk t := by
  have e4 : insK [2, 3, 4] t = nodL t := insK_not (by simp [h2, h3, h4])
  have e3 : insK [2, 3] t = nodL t := insK_not (by simp [h2, h3])
  have e2 : insK [3] t = nodL t := insK_not (by simp [h3])
  have hr := rep_of_atom (e3.trans e4.symm) h
  have hc := cat_of_rep (e2.trans e3.symm) hh hr
  exact ⟨h, hr, hc, cho_of_cat e2.symm hh hc⟩
theorem bk_rep {t : NT} (hh : Hd t) (h4 : opOf t = 4) (hr : BkR t) : Bk t := by
  have e3 : insK [2, 3] t = nodL t := insK_not (by simp [h4])
  have e2 : insK [3] t = nodL t := insK_not (by simp [h4])
  have hc := cat_of_rep (e2.trans e3.symm) hh hr
  have ho := cho_of_cat e2.symm hh hc
  exact ⟨atom_of_cho (by simp [h4]) hh ho, hr, hc, ho⟩
theorem bk_cat {t : NT} (hh : Hd t) (h2 : opOf t = 2) (hc : BkC t) : Bk t := by
  have e2 : insK [3] t = nodL t := insK_not (by simp [h2])
  have ho := cho_of_cat e2.symm hh hc
  have ha := atom_of_cho (by simp [h2]) hh ho
  exact ⟨ha, rep_of_atom ((insK_in (by simp [h2])).trans (insK_in (by simp [h2])).symm) ha, hc, ho⟩
theorem bk_cho {t : NT} (hh : Hd t) (h3 : opOf t = 3) (ho : BkO t) : Bk t := by
  have ha := atom_of_cho (by simp [h3]) hh ho
  have hr := rep_of_atom ((insK_in (by simp [h3])).trans (insK_in (by simp [h3])).symm) ha
  exact ⟨ha, hr, cat_of_rep ((insK_in (by simp [h3])).trans (insK_in (by simp [h3])).symm) hh hr, ho⟩
theorem joinT_two {op : Int} {ks : List NT} (h : 2 ≤ ks.length) : joinT op ks = .node op [] [] ks 0 0 := by
  match ks, h with
  | _ :: _ :: _, _ => rfl
theorem wrgs_mem {ks : List NT} (h : wrgs ks = false) : ∀ k ∈ ks, wrgL k = false := by
  induction ks with
  | nil => intro k hk; cases hk
  | cons x ks ih =>
    rw [wrgs_cons] at h
    have h2 := Bool.or_eq_false_iff.1 h
    intro k hk
    rcases List.mem_cons.1 hk with rfl | hk
    · exact h2.1
    · exact ih h2.2 k hk
theorem nod_back (N : Nat) : ∀ t : NT, SizeOf.sizeOf t < N → Good t → wrgL t = false → Bk t := by
  induction N with
  | zero => intro t h; omega
  | succ N ih =>
    intro t hN hG hW
    have hh : Hd t := nod_head _ t hN hG
    obtain ⟨op, rs, nm, kids, mn, mx⟩ := t
    rw [Good] at hG
    obtain ⟨hs, hks⟩ := hG
    have hg := goods_at hks
    have hkd : op ≠ 1 → ∀ k ∈ kids, Bk k ∧ Hd k := fun hop k hk => by
      rw [wrgL, if_neg hop] at hW
      exact ⟨ih k (by have := List.sizeOf_lt_of_mem hk; simp at hN; omega) (hg k hk) (wrgs_mem hW k hk), nod_head _ k (Nat.lt_succ_self _) (hg k hk)⟩
    obtain ⟨h1, h2, h3⟩ := shE_zero hs
    rcases shp_cases h1 with ⟨rfl, h⟩ | ⟨rfl, h⟩ | ⟨rfl, h⟩ | ⟨rfl, h, hr⟩ | ⟨rfl, h⟩ | ⟨rfl, h⟩ | ⟨rfl, h⟩ | ⟨rfl, h⟩
    · have hn := List.length_eq_zero_iff.1 h
      obtain ⟨rfl, rfl, rfl, rfl⟩ := fld0 (.inl rfl) h1
      subst hn
      have e : nodL (.node 0 [] [] [] 0 0) = [40, 41] := by rw [nodL]; rfl
      refine bk_atom hh (by simp [opOf]) (by simp [opOf]) (by simp [opOf]) fun l i d r hd hl => ?_
      rw [insK_not (by simp [opOf]), e] at hd ⊢
      have hd0 : l.drop i = 40 :: (41 :: r) := hd
      have a0 := at_dr hd0
      have hd1 := dr_next hd0
      have a1 := at_dr hd1
      have hlt := hd_lt hd1
      obtain ⟨d, rfl⟩ : ∃ e, d = e + 1 := ⟨d - 1, by omega⟩
      have hcap : capN (l.drop (i + 1)) = 0 := by rw [hd1]; exact cap_none (by decide)
      have hx : choM l (d + 1) (i + 1) = .ok (.node 0 [] [] [] 0 0, i + 1) := by
        rw [choM, choB, catM, catL, if_pos (.inr (.inr (by rw [a1]; rfl)))]
        simp only
        have hl2 : 0 < l.length := by omega
        rw [altL, if_neg (by rw [a1]; decide)]
        rfl
      unfold atomM
      rw [if_pos (by rw [a0]; rfl), grpM, grpI, hcap, if_neg (Nat.lt_irrefl 0), hx]
      simp only
      rw [if_pos (by rw [a1]; rfl), if_neg (Nat.lt_irrefl 0)]
      simp
    · have hn := List.length_eq_zero_iff.1 h
      obtain ⟨rfl, rfl, rfl, rfl⟩ := fld0 (.inr (.inl rfl)) h1
      subst hn
      have e : nodL (.node 6 [] [] [] 0 0) = [94] := by rw [nodL]; rfl
      refine bk_atom hh (by simp [opOf]) (by simp [opOf]) (by simp [opOf]) fun l i d r hd hl => ?_
      rw [insK_not (by simp [opOf]), e] at hd ⊢
      have a0 := at_dr (show l.drop i = 94 :: r from hd)
      unfold atomM
      rw [a0]
      rfl
    · have hn := List.length_eq_zero_iff.1 h
      obtain ⟨rfl, rfl, rfl, rfl⟩ := fld0 (.inr (.inr rfl)) h1
      subst hn
      have e : nodL (.node 7 [] [] [] 0 0) = [36] := by rw [nodL]; rfl
      refine bk_atom hh (by simp [opOf]) (by simp [opOf]) (by simp [opOf]) fun l i d r hd hl => ?_
      rw [insK_not (by simp [opOf]), e] at hd ⊢
      have a0 := at_dr (show l.drop i = 36 :: r from hd)
      unfold atomM
      rw [a0]
      rfl
    · have hn := List.length_eq_zero_iff.1 h
      obtain ⟨rfl, rfl, rfl⟩ := fld1 h1
      subst hn
      have e : nodL (.node 1 rs [] [] 0 0) = clsS rs := by rw [nodL]; rfl
      have hb : clsB rs = true := by rw [wrgL, if_pos rfl] at hW; simpa using hW
      refine bk_atom hh (by simp [opOf]) (by simp [opOf]) (by simp [opOf]) fun l i d r hd hl => ?_
      rw [insK_not (by simp [opOf]), e] at hd ⊢
      obtain ⟨a0, hx⟩ := cls_back (srtB_of hr).1 hb hd
      unfold atomM
      rw [a0, if_neg (by decide), if_pos rfl, hx]
    · obtain ⟨rfl, rfl, rfl, rfl⟩ := fld2 (.inl rfl) h1
      have e : nodL (.node 2 [] [] kids 0 0) = insL [2, 3] kids := by rw [nodL]; rfl
      have hk := hkd (by decide)
      refine bk_cat hh rfl fun l i d r hd hl hf => ?_
      rw [insK_not (by simp [opOf]), e] at hd hf ⊢
      have h5 := insL_ge [2, 3] (fun k hx => (hk k hx).2)
      have h6 := dr_len hd
      rw [catM, cat_list kids (l.length + 1) i [] (fun k hx => ⟨(hk k hx).1.r, (hk k hx).2⟩) hd hl hf (by omega), List.nil_append, joinT_two h]
    · obtain ⟨rfl, rfl, rfl, rfl⟩ := fld2 (.inr rfl) h1
      have e : nodL (.node 3 [] [] kids 0 0) = altS kids := by rw [nodL]; rfl
      have hk := hkd (by decide)
      refine bk_cho hh rfl fun l i d r hd hl hf => ?_
      obtain ⟨c, u, e2, _⟩ := hh
      have hi : i < l.length := hd_lt (show l.drop i = c :: (u ++ r) by rw [hd, e2]; rfl)
      rw [e] at hd hf ⊢
      rw [← joinT_two h]
      cases kids with
      | nil => simp at h
      | cons k ks => exact cho_list (fun x hx => (hk x hx).1.c) hd hl hi hf
    · obtain ⟨rfl, rfl⟩ := fld4 h1
      have e : nodL (.node 4 [] [] kids mn mx) = insL [2, 3, 4] kids ++ bdsL mn mx := by rw [nodL]; rfl
      have hk := hkd (by decide)
      have hb := badR_no (h3 rfl)
      obtain ⟨k, rfl⟩ := List.length_eq_one_iff.1 h
      rw [insL_cons, insL_nil, List.append_nil] at e
      refine bk_rep hh rfl fun l i d r hd hl hf => ?_
      rw [insK_not (by simp [opOf]), e] at hd hf ⊢
      have hd1 : l.drop i = insK [2, 3, 4] k ++ (bdsL mn mx ++ r) := by rw [hd, List.append_assoc]
      obtain ⟨a0, hx⟩ := bds_back hb.1 hb.2.1 hb.2.2 (dr_app hd1)
      unfold repM
      rw [(hk k (by simp)).1.a l i d _ hd1 hl]
      simp only
      rw [a0, if_neg (by decide), if_neg (by decide), if_neg (by decide), if_pos rfl, hx]
      simp
      omega
    · obtain ⟨rfl, rfl, rfl⟩ := fld5 h1
      have e : nodL (.node 5 [] nm kids 0 0) = 40 :: (nm ++ (58 :: (insL [] kids ++ [41]))) := by rw [nodL]; rfl
      have hk := hkd (by decide)
      obtain ⟨k, rfl⟩ := List.length_eq_one_iff.1 h
      rw [insL_cons, insL_nil, List.append_nil, insK_not (by simp)] at e
      refine bk_atom hh (by simp [opOf]) (by simp [opOf]) (by simp [opOf]) fun l i d r hd hl => ?_
      rw [insK_not (by simp [opOf]), e] at hd ⊢
      have hd0 : l.drop i = 40 :: (nm ++ 58 :: (nodL k ++ 41 :: r)) := by rw [hd]; simp
      have a0 := at_dr hd0
      have hd1 := dr_next hd0
      obtain ⟨hc, hc0⟩ := cap_back (nm := nm) (r := nodL k ++ 41 :: r) (h2 rfl)
      rw [← hd1] at hc
      have hd2 := dr_app hd1
      have hd3 := dr_next hd2
      have hd4 := dr_app hd3
      have a4 := at_dr hd4
      have hseg : Asc.seg l (i + 1) (i + 1 + nm.length) = nm := by
        unfold Asc.seg
        rw [hd1, show i + 1 + nm.length - (i + 1) = nm.length by omega, List.take_left]
      unfold atomM
      rw [if_pos (by rw [a0]; rfl), grpM, grpI, hc, if_pos hc0, (hk k (by simp)).1.o l _ d _ hd3 (by omega) (.inr (by rw [a4]; rfl))]
      simp only
      rw [if_pos (by rw [a4]; rfl), if_pos hc0, hseg]
      simp
      omega
/-- What has been written is read back. -/
theorem par_back {t : NT} (h : ckE t = 0) (hw : wrgL t = false) (hl : (nodL t).length ≤ 400) : parM (nodL t) = (some t, (nodL t).length, 0) := by
  have hb := nod_back _ t (Nat.lt_succ_self _) (ckE_good h).1 hw
  have hx := hb.o (nodL t) 0 ((nodL t).length + 1) [] (by simp) (by omega) (.inl (at_dr0 (by simp)))
  unfold parM
  rw [if_neg (by omega), hx]
  simp only
  rw [if_neg (by omega), if_pos h]
end Go.Proofs.YtpbdcghiabhliaaDoor
/-
  Same of the reference, of two copies of one node.
-/
namespace Go.Proofs.YtpbdcghiabhliaaDoor
open Go.RowKit Go.Sort

set_option maxRecDepth 1000000 in
set_option maxHeartbeats 4000000 in
theorem same_aux (N : Nat) : ∀ (t : NT) (v x : Value) (w : World), SizeOf.sizeOf t < N → NAt w t v → NAt w t x →
    Calls Tryd.prog 16 #[v, x] w fun e w' => e = .returned (.bool true) ∧ Below w.heap.size w w' := by
  induction N with
  | zero => intro t v x w h _ _; omega
  | succ N ih =>
  intro t v x w hN h h2
  obtain ⟨op, rs, nm, kids, mn, mx, ra, rc, a, c, rfl, rfl, hr, ⟨hml, hnm⟩, hk⟩ := h.open
  obtain ⟨op', rs', nm', kids', mn', mx', ra', rc', a', c', ht, rfl, hr', _, hk'⟩ := h2.open
  injection ht with e1 e2 e3 e4 e5 e6
  subst e1 e2 e3 e4 e5 e6
  have IH := Lib.hid fun (i : Nat) (hi : i < kids.length) (W : World) (u y : Value) (hu : NAt W kids[i] u) (hy : NAt W kids[i] y) => ih kids[i] u y W (by have := kid_lt (op := op) (rs := rs) (nm := nm) (mn := mn) (mx := mx) i hi; omega) hu hy
  have HK := Lib.hid hk
  have HK' := Lib.hid hk'
  obtain ⟨_, _, er, hrl, hrk⟩ := hr
  injection er with er1 er2 er3
  subst er1 er3
  obtain ⟨_, _, er, _, hrk'⟩ := hr'
  injection er with er1 er2 er3
  subst er1 er3
  have HR := Lib.hid hrk
  have HR' := Lib.hid hrk'
  have hb1 := al_below w (.cells #[.int .i64 op, .slice ra rs.length rc, .string ⟨nm.toArray⟩, .slice a kids.length c, .int .i64 mn, .int .i64 mx] 25)
  have HBK1 := Lib.hid ((nE_new w op ra rs.length rc nm a kids.length c mn mx).on (al_below _ (.cells #[.int .i64 op, .slice ra' rs.length rc', .string ⟨nm.toArray⟩, .slice a' kids.length c', .int .i64 mn, .int .i64 mx] 25)) (by simp))
  have HBK2 := Lib.hid (nE_new (w.alloc (.cells #[.int .i64 op, .slice ra rs.length rc, .string ⟨nm.toArray⟩, .slice a kids.length c, .int .i64 mn, .int .i64 mx] 25)) op ra' rs.length rc' nm a' kids.length c' mn mx)
  have HB0 := Lib.hid (hb1.alloc hb1.size (.cells #[.int .i64 op, .slice ra' rs.length rc', .string ⟨nm.toArray⟩, .slice a' kids.length c', .int .i64 mn, .int .i64 mx] 25))
  have hs1 : (w.alloc (.cells #[.int .i64 op, .slice ra rs.length rc, .string ⟨nm.toArray⟩, .slice a kids.length c, .int .i64 mn, .int .i64 mx] 25)).heap.size = w.heap.size + 1 := by simp
  rw [hs1] at HBK2
  obtain ⟨W0, hW0⟩ : ∃ W0, (w.alloc (.cells #[.int .i64 op, .slice ra rs.length rc, .string ⟨nm.toArray⟩, .slice a kids.length c, .int .i64 mn, .int .i64 mx] 25)).alloc (.cells #[.int .i64 op, .slice ra' rs.length rc', .string ⟨nm.toArray⟩, .slice a' kids.length c', .int .i64 mn, .int .i64 mx] 25) = W0 := ⟨_, rfl⟩
  rw [hW0] at HBK1 HBK2 HB0
  obtain ⟨p0, p1, p2, p3, p4, p5⟩ := bkn HBK1.out
  obtain ⟨q0, q1, q2, q3, q4, q5⟩ := bkn HBK2.out
  clear hk hk' h h2 hrk hrk' ih hN hnm hb1
  go_enter Tryd.func16, Tryd.ntmps16
  go_wp2_with fail
  clear hW0
  go_loopw [5] (fun i wr => ∃ k : Nat, i = .int .i64 k ∧ k ≤ rs.length ∧ Hid (Below W0.heap.size W0 wr)) (fun i _ => rs.length - (intOf i).toNat)
  case atStart => exact ⟨0, rfl, by omega, Lib.hid (Below.refl _ _)⟩
  case round =>
    obtain ⟨k, rfl, hkl, HB⟩ := hrel
    clear p0 p1 p2 p3 p4 p5 q0 q1 q2 q3 q4 q5
    obtain ⟨p0, p1, p2, p3, p4, p5⟩ := bkn (HBK1.out.on HB.out HBK1.out.lt)
    obtain ⟨q0, q1, q2, q3, q4, q5⟩ := bkn (HBK2.out.on HB.out HBK2.out.lt)
    have HBW := Lib.hid (HB0.out.trans (HB.out.mono HB0.out.size))
    by_cases hlt : k < rs.length
    · obtain ⟨blk, off, rfl, hl, c0, c1⟩ := HR.out k hlt
      obtain ⟨blk', off', rfl, hl', d0, d1⟩ := HR'.out k hlt
      have e0 := (HBW.out.cell (p := ⟨blk, off + k * 2, none⟩) hl).trans c0
      have e1 := (HBW.out.cell (p := ⟨blk, off + k * 2 + 1, none⟩) hl).trans c1
      have g0 := (HBW.out.cell (p := ⟨blk', off' + k * 2, none⟩) hl').trans d0
      have g1 := (HBW.out.cell (p := ⟨blk', off' + k * 2 + 1, none⟩) hl').trans d1
      have i1 : (k : Int) < (rs.length : Int) := by omega
      have i2 : (0 : Int) ≤ (k : Int) := by omega
      have hw1 : IntKind.i64.wrap ((k : Int) + 1) = (k : Int) + 1 := IntWalk.i64_in _ (by omega)
      obtain ⟨lo, hlo⟩ : ∃ lo, rs[k].1.toNat = lo := ⟨_, rfl⟩
      obtain ⟨hi, hhi⟩ : ∃ hi, rs[k].2.toNat = hi := ⟨_, rfl⟩
      rw [hlo] at e0 g0
      rw [hhi] at e1 g1
      clear c0 c1 d0 d1 hlo hhi
      go_wp2_with fail
      go_quiet (fail)
      go_wp2_with fail
      go_roundw
      case rel => exact ⟨k + 1, by go_num, by omega, Lib.hid (below_drewN HB.out _)⟩
      case measure => simp [intOf]; omega
    · obtain rfl : k = rs.length := by omega
      go_wp2_with fail
      go_loopw [6] (fun i wr => ∃ k : Nat, i = .int .i64 k ∧ k ≤ kids.length ∧ Hid (Below W0.heap.size W0 wr)) (fun i _ => kids.length - (intOf i).toNat)
      case atStart => exact ⟨0, rfl, by omega, HB⟩
      case round =>
        clear p0 p1 p2 p3 p4 p5 q0 q1 q2 q3 q4 q5 HB HBW
        obtain ⟨k, rfl, hkl, HB⟩ := hrel
        obtain ⟨p0, p1, p2, p3, p4, p5⟩ := bkn (HBK1.out.on HB.out HBK1.out.lt)
        obtain ⟨q0, q1, q2, q3, q4, q5⟩ := bkn (HBK2.out.on HB.out HBK2.out.lt)
        have HBW := Lib.hid (HB0.out.trans (HB.out.mono HB0.out.size))
        by_cases hlt : k < kids.length
        · obtain ⟨blk, off, op1, ra1, rn1, rc1, nm1, a1, n1, c1, mn1, mx1, rfl, hl, c0, c1, c2, c3, c4, c5, ht⟩ := HK.out k hlt
          obtain ⟨blk', off', op2, ra2, rn2, rc2, nm2, a2, n2, c2', mn2, mx2, rfl, hl', d0, d1, d2, d3, d4, d5, ht'⟩ := HK'.out k hlt
          have x0 := cell_regrown ((HBW.out.cell (p := ⟨blk, off + k * 6, none⟩) hl).trans c0)
          have x1 := cell_regrown ((HBW.out.cell (p := ⟨blk, off + k * 6 + 1, none⟩) hl).trans c1)
          have x2 := cell_regrown ((HBW.out.cell (p := ⟨blk, off + k * 6 + 2, none⟩) hl).trans c2)
          have x3 := cell_regrown ((HBW.out.cell (p := ⟨blk, off + k * 6 + 3, none⟩) hl).trans c3)
          have x4 := cell_regrown ((HBW.out.cell (p := ⟨blk, off + k * 6 + 4, none⟩) hl).trans c4)
          have x5 := cell_regrown ((HBW.out.cell (p := ⟨blk, off + k * 6 + 5, none⟩) hl).trans c5)
          have y0 := cell_regrown ((HBW.out.cell (p := ⟨blk', off' + k * 6, none⟩) hl').trans d0)
          have y1 := cell_regrown ((HBW.out.cell (p := ⟨blk', off' + k * 6 + 1, none⟩) hl').trans d1)
          have y2 := cell_regrown ((HBW.out.cell (p := ⟨blk', off' + k * 6 + 2, none⟩) hl').trans d2)
          have y3 := cell_regrown ((HBW.out.cell (p := ⟨blk', off' + k * 6 + 3, none⟩) hl').trans d3)
          have y4 := cell_regrown ((HBW.out.cell (p := ⟨blk', off' + k * 6 + 4, none⟩) hl').trans d4)
          have y5 := cell_regrown ((HBW.out.cell (p := ⟨blk', off' + k * 6 + 5, none⟩) hl').trans d5)
          have k3 := cell_regrown p3
          have m3 := cell_regrown q3
          have i1 : (k : Int) < (kids.length : Int) := by omega
          have i2 : (0 : Int) ≤ (k : Int) := by omega
          have hw1 : IntKind.i64.wrap ((k : Int) + 1) = (k : Int) + 1 := IntWalk.i64_in _ (by omega)
          have HI := Lib.hid fun d os => IH.out k hlt (grow (redrawn wr d) os) _ _ (NAt.later ((below_regrown wr d os).mono HBW.out.size |> HBW.out.trans) _ _ ht) (NAt.later ((below_regrown wr d os).mono HBW.out.size |> HBW.out.trans) _ _ ht')
          clear c0 c1 c2 c3 c4 c5 d0 d1 d2 d3 d4 d5 ht ht'
          go_wp2_with fail
          clear p0 p1 p2 p3 p4 p5 q0 q1 q2 q3 q4 q5
          refine wp_region_quiet_below (by kernel_rfl) (by kernel_rfl) ?_
          repeat (first | go_big_quiet_step ((go_at_call 16; exact Calls.regrown_of (HI.out _ _))) | quiet_step ((go_at_call 16; exact Calls.regrown_of (HI.out _ _))))
          refine wpQuiet_nil ?_
          clear x0 x1 x2 x3 x4 x5 y0 y1 y2 y3 y4 y5 k3 m3
          rintro _ ⟨⟨dq, osq⟩, rfl⟩
          obtain ⟨w3, hw3⟩ : ∃ W, grow (redrawn wr dq) osq = W := ⟨_, rfl⟩
          have HQ3 : Hid (Below W0.heap.size W0 w3) := Lib.hid (hw3 ▸ HB.out.trans ((below_regrown wr dq osq).mono HB.out.size))
          dsimp only
          rw [hw3]
          clear hw3
          go_wp2_with fail
          go_roundw
          case rel => exact ⟨k + 1, by go_num, by omega, HQ3⟩
          case measure => simp [intOf]; omega
        · obtain rfl : k = kids.length := by omega
          go_wp2_with fail
          go_ret
          exact ⟨rfl, HBW.out⟩
theorem same_self (t : NT) (v x : Value) (w : World) (h : NAt w t v) (h2 : NAt w t x) :
    Calls Tryd.prog 16 #[v, x] w fun e w' => e = .returned (.bool true) ∧ Below w.heap.size w w' := same_aux _ t v x w (Nat.lt_succ_self _) h h2
end Go.Proofs.YtpbdcghiabhliaaDoor
/-
  Parse and Format as the laws use them.
-/
namespace Go.Proofs.YtpbdcghiabhliaaDoor
open Go.RowKit

/-- A node that Format writes. -/
def Wrt (t : NT) : Prop := ckE t = 0 ∧ wrgL t = false ∧ (nodL t).length ≤ 400
theorem fmt_ok {t : NT} (h : (fmtM t).2 = 0) : (fmtM t).1 = nodL t ∧ Wrt t := by
  unfold fmtM at h ⊢
  split at h
  · next h1 => exact absurd h h1
  · next h1 =>
    rw [if_neg h1]
    split at h
    · cases h
    · next h2 =>
      rw [if_neg h2]
      split at h
      · cases h
      · next h3 =>
        rw [if_neg h3]
        exact ⟨rfl, by simpa using h1, by simpa using h2, by omega⟩
theorem fmt_err {t : NT} (h : (fmtM t).2 ≠ 0) (h0 : ckE t = 0) : (fmtM t).2 = 1 ∨ (fmtM t).2 = 3 := by
  unfold fmtM at h ⊢
  rw [if_neg (by simpa using h0)] at h ⊢
  split at h
  · next h2 => rw [if_pos h2]; exact .inl rfl
  · next h2 =>
    rw [if_neg h2]
    split at h
    · next h3 => rw [if_pos h3]; exact .inr rfl
    · exact absurd rfl h
theorem par_ok {l : List UInt8} (h : (parM l).2.2 = 0) : ∀ t, (parM l).1 = some t → ckE t = 0 := by
  intro t ht
  unfold parM at h ht
  split at h
  · cases h
  · next h1 =>
    rw [if_neg h1] at ht
    split at h
    · next j e hm => rw [hm] at ht; cases ht
    · next u j hm =>
      rw [hm] at ht
      simp only at ht
      split at h
      · cases h
      · next h2 =>
        rw [if_neg h2] at ht
        split at h
        · next h3 =>
          rw [if_pos h3] at ht
          injection ht with ht
          rw [← ht]
          exact h3
        · next h3 => exact absurd h h3
/-- Format. -/
def FmtR (t : NT) (w : World) (e : Ending) (w' : World) : Prop := ∃ (L : List UInt8) (E : Nat), e = .returned (.tuple #[.string ⟨L.toArray⟩, .int .i64 (E : Int)]) ∧ Below w.heap.size w w' ∧ (E = 0 → L = nodL t ∧ Wrt t) ∧ (E ≠ 0 → ckE t = 0 → E = 1 ∨ E = 3)
theorem format_law (t : NT) (v : Value) (w : World) (h : NAt w t v) (hk : Kinds w) : Calls Tryd.prog 14 #[v] w (FmtR t w) :=
  (format_any t v w h hk).mono fun _ _ ⟨he, hb⟩ => ⟨_, _, he, hb, fmt_ok, fmt_err⟩
/-- Parse. -/
def ParR (w : World) (e : Ending) (w' : World) : Prop := ∃ (v : Value) (t : NT) (O E : Nat), e = .returned (.tuple #[v, .int .i64 (O : Int), .int .i64 (E : Int)]) ∧ NG (fun k => w.heap.size ≤ k) w' t v ∧ Below w.heap.size w w' ∧ (E = 0 → ckE t = 0)
theorem parse_law (l : List UInt8) (w : World) (hk : Kinds w) : Calls Tryd.prog 15 #[.string ⟨l.toArray⟩] w (ParR w) :=
  (parse_any l w hk).mono fun _ _ ⟨v, t, he, hn, hb, h0⟩ => ⟨v, t, _, _, he, hn, hb, fun h => par_ok h t (h0 h)⟩
theorem parse_back (t : NT) (h : Wrt t) (w : World) (hk : Kinds w) : Calls Tryd.prog 15 #[.string ⟨(nodL t).toArray⟩] w fun e w' => ∃ v, e = .returned (.tuple #[v, .int .i64 ((nodL t).length : Int), .int .i64 0]) ∧ NG (fun k => w.heap.size ≤ k) w' t v ∧ Below w.heap.size w w' := by
  refine (parse_any (nodL t) w hk).mono fun e w' hz => ?_
  obtain ⟨v, u, he, hn, hb, h0⟩ := hz
  rw [par_back h.1 h.2.1 h.2.2] at he h0
  have hu : t = u := Option.some.inj (h0 rfl)
  subst hu
  exact ⟨v, he, hn, hb⟩
end Go.Proofs.YtpbdcghiabhliaaDoor
/-
  PatternChecks: for every node and every list of choices the law's answer is yes.
-/
namespace Go.Proofs.YtpbdcghiabhliaaDoor
open Go.RowKit

/-- The first kid of a node, in memory. -/
theorem kid0 {F : Nat → Prop} {w : World} {kids : List NT} {a : Option Addr} {n c : Nat} (h : RW F 6 (KR F w) w kids (.slice a n c)) {op : Int} {rs : List (UInt8 × UInt8)} {nm : List UInt8} {ks : List NT} {mn mx : Int} {rest : List NT} (hk : kids = .node op rs nm ks mn mx :: rest) :
    ∃ blk off, a = some ⟨blk, off, none⟩ ∧ blk < w.heap.size ∧ w.cell? ⟨blk, off + 2, none⟩ = some (.string ⟨nm.toArray⟩) := by
  subst hk
  obtain ⟨a', c', e, _, hk⟩ := h
  obtain ⟨blk, off, rfl, hl, _, hc⟩ := hk (by simp)
  obtain ⟨us, hu, hcell, hr⟩ := hc 0 (by simp)
  obtain ⟨op', rs', nm', ks', mn', mx', ra, rc, aa, cc, ht, hv, _⟩ := NG.open hr
  injection ht with e1 e2 e3
  injection e with e4
  refine ⟨blk, off, e4, hl, ?_⟩
  have h2 := hcell 2 (by omega)
  have hus : us = [.int .i64 op', .slice ra rs'.length rc, .string ⟨nm'.toArray⟩, .slice aa ks'.length cc, .int .i64 mn', .int .i64 mx'] := by
    injection hv with hv
    have := congrArg Array.toList hv
    simpa using this
  rw [hus] at h2
  rw [e3]
  simpa using h2

set_option maxHeartbeats 2000000 in
set_option maxRecDepth 1000000 in
theorem aw_any (w : World) (hk : Kinds w) : Calls Tryd.prog 6 #[] w fun e w' => e = .returned (.bool true) ∧ Below w.heap.size w w' := by
  have HA := Lib.hid (awake_any w hk)
  clear hk
  go_enter Tryd.func6, Tryd.ntmps6
  go_wp2_with fail
  refine HA.out.mono ?_
  rintro e w2 ⟨v, rfl, hT, hb⟩
  have HB := Lib.hid hb
  obtain ⟨op, rs, nm, kids, mn, mx, ra, rc, a, cc, ht, rfl, _, _, hkr⟩ := hT.open
  unfold awT at ht
  injection ht with e1 e2 e3 e4 e5 e6
  subst e1 e2 e3 e5 e6
  obtain ⟨blk, off, rfl, hl, hc⟩ := kid0 hkr e4.symm
  have hkl : kids.length = 3 := by rw [← e4]; rfl
  rw [hkl]
  have HB2 := Lib.hid (hb.trans ((al_below w2 (.cells #[.int .i64 2, .slice ra 0 rc, .string ⟨#[]⟩, .slice (some ⟨blk, off, none⟩) 3 cc, .int .i64 0, .int .i64 0] 25)).mono hb.size))
  have hc2 : (w2.alloc (.cells #[.int .i64 2, .slice ra 0 rc, .string ⟨#[]⟩, .slice (some ⟨blk, off, none⟩) 3 cc, .int .i64 0, .int .i64 0] 25)).cell? ⟨blk, off + 2, none⟩ = some (.string ⟨#[110]⟩) := ((al_below w2 _).cell (p := ⟨blk, off + 2, none⟩) hl).trans hc
  clear hT hkr e4 hkl hc hb hl
  go_wp2_with fail
  go_ret
  exact ⟨rfl, HB2.out⟩
end Go.Proofs.YtpbdcghiabhliaaDoor
/-
  PatternReturns: for every list of choices and every string the law's answer is yes.
-/
namespace Go.Proofs.YtpbdcghiabhliaaDoor
open Go.RowKit

set_option maxRecDepth 1000000 in
set_option maxHeartbeats 8000000 in
theorem returns_any (vc : Value) (cs s : List UInt8) (w : World) (hc : BS w vc cs) (hk : Kinds w) :
    Calls Tryd.prog 4 #[vc, .string ⟨s.toArray⟩] w fun e w' => e = .returned (.bool true) ∧ Below w.heap.size w w' := by
  have HCS := Lib.hid hc
  have HK := Lib.hid hk
  clear hc hk
  go_enter Tryd.func4, Tryd.ntmps4
  go_wp2_with fail
  refine (aw_any _ HK.out).mono ?_
  rintro e w1 ⟨rfl, hb1⟩
  have HB1 := Lib.hid hb1
  clear hb1
  go_wp2_with fail
  refine (new_any vc cs 200 w1 (HCS.out.below HB1.out) (by omega)).mono ?_
  rintro e w2 ⟨rfl, hca, hb2⟩
  obtain ⟨g, hg⟩ : ∃ g, g = w1.heap.size := ⟨_, rfl⟩
  have hgW : w.heap.size ≤ g := by have := HB1.out.size; omega
  have HB2 := Lib.hid (HB1.out.trans (hb2.mono HB1.out.size))
  rw [← hg] at hca ⊢
  have HCA := Lib.hid hca
  clear hg hb2 hca
  go_wp2_with fail
  refine (node_any 4 (by omega) g w2 HCA.out).mono ?_
  rintro e w3 ⟨vp, tp, rfl, hT, hgd, hsm⟩
  obtain ⟨op1, rs1, nm1, ks1, mn1, mx1, ra1, rc1, a1, c1, _, rfl, _⟩ := hT.open
  have HT4 := Lib.hid (NAt.later (al_below w3 (.cells #[.int .i64 op1, .slice ra1 rs1.length rc1, .string ⟨nm1.toArray⟩, .slice a1 ks1.length c1, .int .i64 mn1, .int .i64 mx1] 25)) _ _ hT.at)
  have HBK1 := Lib.hid (nE_new w3 op1 ra1 rs1.length rc1 nm1 a1 ks1.length c1 mn1 mx1)
  have HB3 := Lib.hid (Apart.below HB2.out hgd.ap hgW)
  have HB4 := Lib.hid (HB3.out.trans ((al_below w3 (.cells #[.int .i64 op1, .slice ra1 rs1.length rc1, .string ⟨nm1.toArray⟩, .slice a1 ks1.length c1, .int .i64 mn1, .int .i64 mx1] 25)).mono HB3.out.size))
  have hq1 : w3.heap.size < (w3.alloc (.cells #[.int .i64 op1, .slice ra1 rs1.length rc1, .string ⟨nm1.toArray⟩, .slice a1 ks1.length c1, .int .i64 mn1, .int .i64 mx1] 25)).heap.size := by simp
  obtain ⟨w4, hw4⟩ : ∃ w4, w3.alloc (.cells #[.int .i64 op1, .slice ra1 rs1.length rc1, .string ⟨nm1.toArray⟩, .slice a1 ks1.length c1, .int .i64 mn1, .int .i64 mx1] 25) = w4 := ⟨_, rfl⟩
  rw [hw4] at HBK1 HT4 HB4 hq1
  obtain ⟨q0, q1, q2, q3, q4, q5⟩ := bkn HBK1.out
  clear hT hgd hsm HB3
  go_wp2_with fail
  clear hw4
  refine (format_law _ _ _ HT4.out (HK.out.below HB4.out)).mono ?_
  rintro e w5 ⟨L5, E5, rfl, hb5, hok5, hbad5⟩
  clear q0 q1 q2 q3 q4 q5
  have HT5 := Lib.hid (NAt.later hb5 _ _ HT4.out)
  have HBK5 := Lib.hid (HBK1.out.on hb5 hq1)
  have HB5 := Lib.hid (HB4.out.trans (hb5.mono HB4.out.size))
  have hq5 : w3.heap.size < w5.heap.size := Nat.lt_of_lt_of_le hq1 hb5.size
  clear hb5 HT4 HBK1 HB4 hq1
  by_cases hE5 : E5 = 0
  · subst hE5
    obtain ⟨rfl, hW5⟩ := hok5 rfl
    have HPB := Lib.hid fun W hk => parse_back tp hW5 W hk
    obtain ⟨LL, hLL⟩ : ∃ LL, nodL tp = LL := ⟨_, rfl⟩
    rw [hLL] at HPB ⊢
    clear hok5 hbad5 hW5 hLL
    go_wp2_with fail
    refine (HPB.out _ (HK.out.below HB5.out)).mono ?_
    rintro e w6 ⟨v2, rfl, hT2, hb6⟩
    obtain ⟨op2, rs2, nm2, ks2, mn2, mx2, ra2, rc2, a2, c2, _, rfl, _⟩ := hT2.open
    have HT6 := Lib.hid (NAt.later (al_below w6 (.cells #[.int .i64 op2, .slice ra2 rs2.length rc2, .string ⟨nm2.toArray⟩, .slice a2 ks2.length c2, .int .i64 mn2, .int .i64 mx2] 25)) _ _ hT2.at)
    have HBK2 := Lib.hid (nE_new w6 op2 ra2 rs2.length rc2 nm2 a2 ks2.length c2 mn2 mx2)
    have HB6 := Lib.hid (HB5.out.trans (hb6.mono HB5.out.size))
    have HB7 := Lib.hid (HB6.out.trans ((al_below w6 (.cells #[.int .i64 op2, .slice ra2 rs2.length rc2, .string ⟨nm2.toArray⟩, .slice a2 ks2.length c2, .int .i64 mn2, .int .i64 mx2] 25)).mono HB6.out.size))
    have HBK7 := Lib.hid (((HBK5.out.on hb6 hq5).on (al_below w6 (.cells #[.int .i64 op2, .slice ra2 rs2.length rc2, .string ⟨nm2.toArray⟩, .slice a2 ks2.length c2, .int .i64 mn2, .int .i64 mx2] 25)) (Nat.lt_of_lt_of_le hq5 hb6.size)))
    have HT7 := Lib.hid (NAt.later (al_below w6 (.cells #[.int .i64 op2, .slice ra2 rs2.length rc2, .string ⟨nm2.toArray⟩, .slice a2 ks2.length c2, .int .i64 mn2, .int .i64 mx2] 25)) _ _ (NAt.later hb6 _ _ HT5.out))
    obtain ⟨w7, hw7⟩ : ∃ w7, w6.alloc (.cells #[.int .i64 op2, .slice ra2 rs2.length rc2, .string ⟨nm2.toArray⟩, .slice a2 ks2.length c2, .int .i64 mn2, .int .i64 mx2] 25) = w7 := ⟨_, rfl⟩
    rw [hw7] at HBK2 HT6 HB7 HBK7 HT7
    obtain ⟨q0, q1, q2, q3, q4, q5⟩ := bkn HBK2.out
    obtain ⟨p0, p1, p2, p3, p4, p5⟩ := bkn HBK7.out
    clear hT2 hb6 HT5 HBK5 HB5 HB6
    go_wp2_with fail
    clear hw7
    refine (same_self _ _ _ _ HT6.out HT7.out).mono ?_
    rintro e wz ⟨rfl, hbz⟩
    have HBZ := Lib.hid (HB7.out.trans (hbz.mono HB7.out.size))
    clear hbz q0 q1 q2 q3 q4 q5 p0 p1 p2 p3 p4 p5 HT6 HT7 HBK2 HBK7 HB7
    go_wp2_with fail
    refine (parse_law s _ (HK.out.below HBZ.out)).mono ?_
    rintro e wp ⟨v7, t7, O7, E7, rfl, hT7, hb7, hz7⟩
    obtain ⟨op7, rs7, nm7, ks7, mn7, mx7, ra7, rc7, a7, c7, _, rfl, _⟩ := hT7.open
    have HT7 := Lib.hid (NAt.later (al_below wp (.cells #[.int .i64 op7, .slice ra7 rs7.length rc7, .string ⟨nm7.toArray⟩, .slice a7 ks7.length c7, .int .i64 mn7, .int .i64 mx7] 25)) _ _ hT7.at)
    have HBK7 := Lib.hid (nE_new wp op7 ra7 rs7.length rc7 nm7 a7 ks7.length c7 mn7 mx7)
    have HB7 := Lib.hid (HBZ.out.trans (hb7.mono HBZ.out.size))
    have HB8 := Lib.hid (HB7.out.trans ((al_below wp (.cells #[.int .i64 op7, .slice ra7 rs7.length rc7, .string ⟨nm7.toArray⟩, .slice a7 ks7.length c7, .int .i64 mn7, .int .i64 mx7] 25)).mono HB7.out.size))
    have HZ7 := Lib.hid hz7
    have hq7 : wp.heap.size < (wp.alloc (.cells #[.int .i64 op7, .slice ra7 rs7.length rc7, .string ⟨nm7.toArray⟩, .slice a7 ks7.length c7, .int .i64 mn7, .int .i64 mx7] 25)).heap.size := by simp
    obtain ⟨w8, hw8⟩ : ∃ w8, wp.alloc (.cells #[.int .i64 op7, .slice ra7 rs7.length rc7, .string ⟨nm7.toArray⟩, .slice a7 ks7.length c7, .int .i64 mn7, .int .i64 mx7] 25) = w8 := ⟨_, rfl⟩
    rw [hw8] at HBK7 HT7 HB8 hq7
    obtain ⟨b7, hb7e⟩ : ∃ b7, wp.heap.size = b7 := ⟨_, rfl⟩
    rw [hb7e] at HBK7 hq7
    clear hT7 hb7 hz7 HB7
    by_cases hE7 : E7 = 0
    · subst hE7
      obtain ⟨q0, q1, q2, q3, q4, q5⟩ := bkn HBK7.out
      go_wp2_with fail
      clear hw8
      refine (format_law _ _ _ HT7.out (HK.out.below HB8.out)).mono ?_
      rintro e w9 ⟨L9, E9, rfl, hb9, hok9, hbad9⟩
      clear q0 q1 q2 q3 q4 q5
      have HT9 := Lib.hid (NAt.later hb9 _ _ HT7.out)
      have HBK9 := Lib.hid (HBK7.out.on hb9 hq7)
      have HB9 := Lib.hid (HB8.out.trans (hb9.mono HB8.out.size))
      have hq9 : b7 < w9.heap.size := Nat.lt_of_lt_of_le hq7 hb9.size
      clear hb9 HT7 HBK7 HB8 hq7
      by_cases hE9 : E9 = 0
      · subst hE9
        obtain ⟨rfl, hW9⟩ := hok9 rfl
        have HW9 := Lib.hid hW9
        obtain ⟨LL, hLL⟩ : ∃ LL, nodL t7 = LL := ⟨_, rfl⟩
        have HPB := Lib.hid fun W hk => parse_back t7 hW9 W hk
        rw [hLL] at HPB ⊢
        clear hok9 hbad9 hW9 hLL
        go_wp2_with fail
        refine (HPB.out _ (HK.out.below HB9.out)).mono ?_
        rintro e wq ⟨v6, rfl, hT6, hb6⟩
        obtain ⟨op6, rs6, nm6, ks6, mn6, mx6, ra6, rc6, a6, c6, _, rfl, _⟩ := hT6.open
        have HT6 := Lib.hid (NAt.later (al_below wq (.cells #[.int .i64 op6, .slice ra6 rs6.length rc6, .string ⟨nm6.toArray⟩, .slice a6 ks6.length c6, .int .i64 mn6, .int .i64 mx6] 25)) _ _ hT6.at)
        have HBK6 := Lib.hid (nE_new wq op6 ra6 rs6.length rc6 nm6 a6 ks6.length c6 mn6 mx6)
        have HB6 := Lib.hid (HB9.out.trans (hb6.mono HB9.out.size))
        have HB5 := Lib.hid (HB6.out.trans ((al_below wq (.cells #[.int .i64 op6, .slice ra6 rs6.length rc6, .string ⟨nm6.toArray⟩, .slice a6 ks6.length c6, .int .i64 mn6, .int .i64 mx6] 25)).mono HB6.out.size))
        have HBK5 := Lib.hid (((HBK9.out.on hb6 hq9).on (al_below wq (.cells #[.int .i64 op6, .slice ra6 rs6.length rc6, .string ⟨nm6.toArray⟩, .slice a6 ks6.length c6, .int .i64 mn6, .int .i64 mx6] 25)) (Nat.lt_of_lt_of_le hq9 hb6.size)))
        have HT5 := Lib.hid (NAt.later (al_below wq (.cells #[.int .i64 op6, .slice ra6 rs6.length rc6, .string ⟨nm6.toArray⟩, .slice a6 ks6.length c6, .int .i64 mn6, .int .i64 mx6] 25)) _ _ (NAt.later hb6 _ _ HT9.out))
        obtain ⟨w5, hw5⟩ : ∃ w5, wq.alloc (.cells #[.int .i64 op6, .slice ra6 rs6.length rc6, .string ⟨nm6.toArray⟩, .slice a6 ks6.length c6, .int .i64 mn6, .int .i64 mx6] 25) = w5 := ⟨_, rfl⟩
        rw [hw5] at HBK6 HT6 HB5 HBK5 HT5
        obtain ⟨q0, q1, q2, q3, q4, q5⟩ := bkn HBK6.out
        obtain ⟨p0, p1, p2, p3, p4, p5⟩ := bkn HBK5.out
        clear hT6 hb6 HT9 HBK9 HB9
        go_wp2_with fail
        clear hw5
        refine (same_self _ _ _ _ HT5.out HT6.out).mono ?_
        rintro e wz ⟨rfl, hbz⟩
        have HBZ := Lib.hid (HB5.out.trans (hbz.mono HB5.out.size))
        clear hbz
        go_wp2_with fail
        go_ret
        exact ⟨rfl, HBZ.out⟩
      · have h13 := hbad9 hE9 (HZ7.out (by simp))
        clear hok9 hbad9
        rcases h13 with rfl | rfl
        · go_wp2_with fail
          go_ret
          exact ⟨rfl, HB9.out⟩
        · go_wp2_with fail
          go_ret
          exact ⟨rfl, HB9.out⟩
    · have z7 : ((E7 : Int) == 0) = false := by rw [beq_eq_false_iff_ne]; omega
      go_wp2_with fail
      go_ret
      exact ⟨rfl, HB8.out⟩
  · have z5 : ((E5 : Int) == 0) = false := by rw [beq_eq_false_iff_ne]; omega
    clear hok5 hbad5
    go_wp2_with fail
    refine (parse_law s _ (HK.out.below HB5.out)).mono ?_
    rintro e wp ⟨v7, t7, O7, E7, rfl, hT7, hb7, hz7⟩
    obtain ⟨op7, rs7, nm7, ks7, mn7, mx7, ra7, rc7, a7, c7, _, rfl, _⟩ := hT7.open
    have HT7 := Lib.hid (NAt.later (al_below wp (.cells #[.int .i64 op7, .slice ra7 rs7.length rc7, .string ⟨nm7.toArray⟩, .slice a7 ks7.length c7, .int .i64 mn7, .int .i64 mx7] 25)) _ _ hT7.at)
    have HBK7 := Lib.hid (nE_new wp op7 ra7 rs7.length rc7 nm7 a7 ks7.length c7 mn7 mx7)
    have HB7 := Lib.hid (HB5.out.trans (hb7.mono HB5.out.size))
    have HB8 := Lib.hid (HB7.out.trans ((al_below wp (.cells #[.int .i64 op7, .slice ra7 rs7.length rc7, .string ⟨nm7.toArray⟩, .slice a7 ks7.length c7, .int .i64 mn7, .int .i64 mx7] 25)).mono HB7.out.size))
    have HZ7 := Lib.hid hz7
    have hq7 : wp.heap.size < (wp.alloc (.cells #[.int .i64 op7, .slice ra7 rs7.length rc7, .string ⟨nm7.toArray⟩, .slice a7 ks7.length c7, .int .i64 mn7, .int .i64 mx7] 25)).heap.size := by simp
    obtain ⟨w8, hw8⟩ : ∃ w8, wp.alloc (.cells #[.int .i64 op7, .slice ra7 rs7.length rc7, .string ⟨nm7.toArray⟩, .slice a7 ks7.length c7, .int .i64 mn7, .int .i64 mx7] 25) = w8 := ⟨_, rfl⟩
    rw [hw8] at HBK7 HT7 HB8 hq7
    obtain ⟨b7, hb7e⟩ : ∃ b7, wp.heap.size = b7 := ⟨_, rfl⟩
    rw [hb7e] at HBK7 hq7
    clear hT7 hb7 hz7 HB7
    by_cases hE7 : E7 = 0
    · subst hE7
      obtain ⟨q0, q1, q2, q3, q4, q5⟩ := bkn HBK7.out
      go_wp2_with fail
      clear hw8
      refine (format_law _ _ _ HT7.out (HK.out.below HB8.out)).mono ?_
      rintro e w9 ⟨L9, E9, rfl, hb9, hok9, hbad9⟩
      clear q0 q1 q2 q3 q4 q5
      have HT9 := Lib.hid (NAt.later hb9 _ _ HT7.out)
      have HBK9 := Lib.hid (HBK7.out.on hb9 hq7)
      have HB9 := Lib.hid (HB8.out.trans (hb9.mono HB8.out.size))
      have hq9 : b7 < w9.heap.size := Nat.lt_of_lt_of_le hq7 hb9.size
      clear hb9 HT7 HBK7 HB8 hq7
      by_cases hE9 : E9 = 0
      · subst hE9
        obtain ⟨rfl, hW9⟩ := hok9 rfl
        have HW9 := Lib.hid hW9
        obtain ⟨LL, hLL⟩ : ∃ LL, nodL t7 = LL := ⟨_, rfl⟩
        have HPB := Lib.hid fun W hk => parse_back t7 hW9 W hk
        rw [hLL] at HPB ⊢
        clear hok9 hbad9 hW9 hLL
        go_wp2_with fail
        refine (HPB.out _ (HK.out.below HB9.out)).mono ?_
        rintro e wq ⟨v6, rfl, hT6, hb6⟩
        obtain ⟨op6, rs6, nm6, ks6, mn6, mx6, ra6, rc6, a6, c6, _, rfl, _⟩ := hT6.open
        have HT6 := Lib.hid (NAt.later (al_below wq (.cells #[.int .i64 op6, .slice ra6 rs6.length rc6, .string ⟨nm6.toArray⟩, .slice a6 ks6.length c6, .int .i64 mn6, .int .i64 mx6] 25)) _ _ hT6.at)
        have HBK6 := Lib.hid (nE_new wq op6 ra6 rs6.length rc6 nm6 a6 ks6.length c6 mn6 mx6)
        have HB6 := Lib.hid (HB9.out.trans (hb6.mono HB9.out.size))
        have HB5 := Lib.hid (HB6.out.trans ((al_below wq (.cells #[.int .i64 op6, .slice ra6 rs6.length rc6, .string ⟨nm6.toArray⟩, .slice a6 ks6.length c6, .int .i64 mn6, .int .i64 mx6] 25)).mono HB6.out.size))
        have HBK5 := Lib.hid (((HBK9.out.on hb6 hq9).on (al_below wq (.cells #[.int .i64 op6, .slice ra6 rs6.length rc6, .string ⟨nm6.toArray⟩, .slice a6 ks6.length c6, .int .i64 mn6, .int .i64 mx6] 25)) (Nat.lt_of_lt_of_le hq9 hb6.size)))
        have HT5 := Lib.hid (NAt.later (al_below wq (.cells #[.int .i64 op6, .slice ra6 rs6.length rc6, .string ⟨nm6.toArray⟩, .slice a6 ks6.length c6, .int .i64 mn6, .int .i64 mx6] 25)) _ _ (NAt.later hb6 _ _ HT9.out))
        obtain ⟨w5, hw5⟩ : ∃ w5, wq.alloc (.cells #[.int .i64 op6, .slice ra6 rs6.length rc6, .string ⟨nm6.toArray⟩, .slice a6 ks6.length c6, .int .i64 mn6, .int .i64 mx6] 25) = w5 := ⟨_, rfl⟩
        rw [hw5] at HBK6 HT6 HB5 HBK5 HT5
        obtain ⟨q0, q1, q2, q3, q4, q5⟩ := bkn HBK6.out
        obtain ⟨p0, p1, p2, p3, p4, p5⟩ := bkn HBK5.out
        clear hT6 hb6 HT9 HBK9 HB9
        go_wp2_with fail
        clear hw5
        refine (same_self _ _ _ _ HT5.out HT6.out).mono ?_
        rintro e wz ⟨rfl, hbz⟩
        have HBZ := Lib.hid (HB5.out.trans (hbz.mono HB5.out.size))
        clear hbz
        go_wp2_with fail
        go_ret
        exact ⟨rfl, HBZ.out⟩
      · have h13 := hbad9 hE9 (HZ7.out (by simp))
        clear hok9 hbad9
        rcases h13 with rfl | rfl
        · go_wp2_with fail
          go_ret
          exact ⟨rfl, HB9.out⟩
        · go_wp2_with fail
          go_ret
          exact ⟨rfl, HB9.out⟩
    · have z7 : ((E7 : Int) == 0) = false := by rw [beq_eq_false_iff_ne]; omega
      go_wp2_with fail
      go_ret
      exact ⟨rfl, HB8.out⟩
end Go.Proofs.YtpbdcghiabhliaaDoor

/-
 Joined: MtCa, MtV, MtW, MtCb, MtCc, MtCd, MtX, MtY, MtWa.
-/
import Derived.Test.YtihdnlpelfgklaaDoorMcF
import Derived.StillTailTactics
import Derived.Test.YtihdnlpelfgklaaDoorMcE
namespace Go.Proofs.YtihdnlpelfgklaaDoor.Mt
def Okc (op : Int) (n : Nat) (mn mx : Int) : Prop := Ok1 op n mn mx ∧ (op ≠ 2 → op ≠ 3 → op ≠ 4 → op ≠ 5 → n = 0) ∧ n ≤ 400
mutual
def okC : NT → Prop
 | .node op rs _ ks mn mx => Okc op ks.length mn mx ∧ okD ks ∧ (op = 1 → 0 < rs.length ∧ rs.length ≤ 1000000)
def okD : List NT → Prop
 | [] => True
 | k :: ks => okC k ∧ okD ks
end
theorem okD_mem {ks : List NT} (h : okD ks) : ∀ i (hi : i < ks.length), okC ks[i] := by
 induction ks with
 | nil => intro i hi; simp at hi
 | cons k ks ih =>
  rw [okD] at h
  intro i hi
  cases i with
  | zero => exact h.1
  | succ i => exact ih h.2 i (by simpa using hi)
mutual
theorem okC_okN : ∀ t : NT, okC t → okN t
 | .node op rs nm ks mn mx, h => by
  rw [okC] at h
  rw [okN]
  exact ⟨h.1.1, okD_okL ks h.2.1, h.2.2⟩
theorem okD_okL : ∀ ks : List NT, okD ks → okL ks
 | [], _ => by rw [okL]; trivial
 | k :: ks, h => by
  rw [okD] at h
  rw [okL]
  exact ⟨okC_okN k h.1, okD_okL ks h.2⟩
end
def tmsI (mn mx : Int) : Int := if mx = -1 then mn + 1 else mx
mutual
def costN : NT → Nat
 | .node op _ _ ks mn mx => min (if op = 5 then costL ks + 2 else if op = 2 ∨ op = 3 then costL ks + ks.length else if op = 4 then 1 + (costL ks + 1) * (tmsI mn mx).toNat else 1) 4001
def costL : List NT → Nat
 | [] => 0
 | k :: ks => costN k + costL ks
end
theorem costN_le (t : NT) : costN t ≤ 4001 := by
 cases t
 rw [costN]
 exact Nat.min_le_right _ _
theorem costL_le : ∀ ks : List NT, costL ks ≤ ks.length * 4001
 | [] => by rw [costL]; omega
 | k :: ks => by
  rw [costL, List.length_cons]
  have := costN_le k
  have := costL_le ks
  omega
theorem costL_drop {ks : List NT} {i : Nat} (h : i < ks.length) : costL (ks.drop i) = costN ks[i] + costL (ks.drop (i + 1)) := by
 rw [List.drop_eq_getElem_cons h, costL]
theorem min_lt {a : Nat} (h : min a 4001 ≤ 4000) : min a 4001 = a := by omega
theorem times_len {f : Nat → List Nm → Cmp} {c : Nat} (h : ∀ b ns, (f b ns).1.length ≤ c) : ∀ n b ns, (times f n b ns).1.length ≤ n * c
 | 0, _, _ => by simp [times]
 | n + 1, b, ns => by
  rw [times]
  simp only [List.length_append]
  have := h b ns
  have := times_len h n (b + (f b ns).1.length) (f b ns).2
  rw [Nat.succ_mul]
  omega
theorem opts_le {f : Nat → List Nm → Cmp} {c : Nat} (h : ∀ b ns, (f b ns).1.length ≤ c) (E : Nat) : ∀ n b ns, (opts f E n b ns).1.length ≤ n * (c + 1)
 | 0, _, _ => by simp [opts]
 | n + 1, b, ns => by
  rw [opts]
  simp only [List.length_append, List.length_cons]
  have := h (b + 1) ns
  have := opts_le h E n (b + 1 + (f (b + 1) ns).1.length) (f (b + 1) ns).2
  rw [Nat.succ_mul]
  omega
mutual
theorem compN_le : ∀ t : NT, okN t → costN t ≤ 4000 → ∀ b ns, (compN t b ns).1.length ≤ 2 * costN t
 | .node op rs nm kids mn mx, hok, h, b, ns => by
  rw [okN] at hok
  rw [costN] at h ⊢
  rw [min_lt h]
  have h := min_lt h ▸ h
  rw [compN]
  by_cases h1 : op = 1
  ·subst h1
   simp
  rw [if_neg h1]
  by_cases h6 : op = 6
  ·subst h6
   simp
  rw [if_neg h6]
  by_cases h7 : op = 7
  ·subst h7
   simp
  rw [if_neg h7]
  by_cases h2 : op = 2
  ·subst h2
   simp only [show ¬ ((2 : Int) = 5) by decide, if_false, true_or, if_true] at h ⊢
   have := compL_le kids hok.2.1 (by omega) b ns
   omega
  rw [if_neg h2]
  by_cases h3 : op = 3
  ·subst h3
   simp only [show ¬ ((3 : Int) = 5) by decide, if_false, or_true, if_true] at h ⊢
   have := compA_le (b + (compA 0 kids b ns).1.length) kids hok.2.1 (by omega) b ns
   omega
  rw [if_neg h3]
  by_cases h5 : op = 5
  ·subst h5
   simp only [if_true] at h ⊢
   have := compH_le kids hok.2.1 (by omega) (b + 1) (capL ns nm)
   simp only [List.length_append, List.length_cons, List.length_nil]
   omega
  rw [if_neg h5]
  by_cases h4 : op = 4
  ·subst h4
   simp only [show ¬ ((4 : Int) = 5) by decide, show ¬ ((4 : Int) = 2 ∨ (4 : Int) = 3) by decide, if_false, if_true] at h ⊢
   by_cases h0 : mx = 0
   ·rw [if_pos h0]
    simp
   ·rw [if_neg h0]
    obtain ⟨_, b0, b1, b2⟩ := hok.1.2.2 rfl
    obtain ⟨m, rfl⟩ := Int.eq_ofNat_of_zero_le b0
    unfold rept
    rw [Int.toNat_natCast]
    by_cases hx : mx = -1
    ·subst hx
     rw [if_pos rfl]
     have ht : (tmsI (m : Int) (-1)).toNat = m + 1 := by unfold tmsI; rw [if_pos rfl]; omega
     rw [ht] at h ⊢
     have hc : costL kids ≤ 4000 := by
      have : costL kids + 1 ≤ (costL kids + 1) * (m + 1) := Nat.le_mul_of_pos_right _ (by omega)
      omega
     have ih := compH_le kids hok.2.1 hc
     have i1 := times_len ih m b ns
     unfold star
     simp only [List.length_append, List.length_cons, List.length_nil]
     have i2 := ih (b + (times (compH kids) m b ns).1.length + 2) (times (compH kids) m b ns).2
     have e : (costL kids + 1) * (m + 1) = m * costL kids + costL kids + m + 1 := by rw [Nat.add_mul, Nat.mul_add, Nat.mul_comm]; omega
     have e2 : m * (2 * costL kids) = 2 * (m * costL kids) := by rw [Nat.mul_left_comm]
     rw [e]
     omega
    ·rw [if_neg hx]
     obtain ⟨M, rfl⟩ := Int.eq_ofNat_of_zero_le (show 0 ≤ mx by omega)
     have ht : (tmsI (m : Int) (M : Int)).toNat = M := by unfold tmsI; rw [if_neg hx]; omega
     rw [ht] at h ⊢
     have hM : 1 ≤ M := by omega
     have hc : costL kids ≤ 4000 := by
      have : costL kids + 1 ≤ (costL kids + 1) * M := Nat.le_mul_of_pos_right _ hM
      omega
     have ih := compH_le kids hok.2.1 hc
     have i1 := times_len ih m b ns
     have hd : ((M : Int) - (m : Int)).toNat = M - m := by omega
     rw [hd]
     have i2 := opts_le ih (b + (times (compH kids) m b ns).1.length + (opts (compH kids) 0 (M - m) (b + (times (compH kids) m b ns).1.length) (times (compH kids) m b ns).2).1.length) (M - m) (b + (times (compH kids) m b ns).1.length) (times (compH kids) m b ns).2
     simp only [List.length_append]
     obtain ⟨d, rfl⟩ : ∃ d, M = m + d := ⟨M - m, by omega⟩
     rw [show m + d - m = d by omega] at i2 ⊢
     have e : (costL kids + 1) * (m + d) = m * costL kids + d * costL kids + m + d := by rw [Nat.add_mul, Nat.mul_add, Nat.mul_comm, Nat.mul_comm (costL kids) d]; omega
     have e2 : m * (2 * costL kids) = 2 * (m * costL kids) := by rw [Nat.mul_left_comm]
     have e3 : d * (2 * costL kids + 1) = 2 * (d * costL kids) + d := by rw [Nat.mul_add, Nat.mul_left_comm]; omega
     rw [e]
     omega
  ·rw [if_neg h4]
   simp
theorem compH_le : ∀ ks : List NT, okL ks → costL ks ≤ 4000 → ∀ b ns, (compH ks b ns).1.length ≤ 2 * costL ks
 | [], _, _, b, ns => by rw [compH]; simp
 | k :: ks, hok, h, b, ns => by
  rw [okL] at hok
  rw [costL] at h ⊢
  rw [compH]
  have := compN_le k hok.1 (by omega) b ns
  omega
theorem compL_le : ∀ ks : List NT, okL ks → costL ks ≤ 4000 → ∀ b ns, (compL ks b ns).1.length ≤ 2 * costL ks
 | [], _, _, b, ns => by rw [compL]; simp
 | k :: ks, hok, h, b, ns => by
  rw [okL] at hok
  rw [costL] at h ⊢
  rw [compL]
  simp only [List.length_append]
  have := compN_le k hok.1 (by omega) b ns
  have := compL_le ks hok.2 (by omega) (b + (compN k b ns).1.length) (compN k b ns).2
  omega
theorem compA_le (E : Nat) : ∀ ks : List NT, okL ks → costL ks ≤ 4000 → ∀ b ns, (compA E ks b ns).1.length ≤ 2 * costL ks + 2 * ks.length
 | [], _, _, b, ns => by rw [compA]; simp
 | [k], hok, h, b, ns => by
  rw [okL] at hok
  rw [costL] at h ⊢
  rw [compA]
  have := compN_le k hok.1 (by omega) b ns
  omega
 | k :: k2 :: ks, hok, h, b, ns => by
  rw [okL] at hok
  rw [costL] at h ⊢
  rw [compA_two]
  simp only [List.length_append, List.length_cons]
  have := compN_le k hok.1 (by omega) (b + 1) ns
  have := compA_le E (k2 :: ks) hok.2 (by omega) (b + 1 + (compN k (b + 1) ns).1.length + 1) (compN k (b + 1) ns).2
  rw [List.length_cons] at this
  omega
end
mutual
theorem nst_cost : ∀ t : NT, okN t → costN t ≤ 4000 → nst t ≤ costN t
 | .node op rs nm kids mn mx, hok, h => by
  rw [okN] at hok
  rw [costN] at h ⊢
  rw [min_lt h]
  have h := min_lt h ▸ h
  rw [nst]
  by_cases h23 : op = 2 ∨ op = 3
  ·have h5 : ¬ op = 5 := by omega
   rw [if_pos h23]
   rw [if_neg h5, if_pos h23] at h ⊢
   have := nstL_cost kids hok.2.1 (by omega)
   omega
  rw [if_neg h23]
  by_cases h5 : op = 5
  ·rw [if_pos h5]
   rw [if_pos h5] at h ⊢
   have := nstH_cost kids hok.2.1 (by omega)
   omega
  rw [if_neg h5]
  rw [if_neg h5, if_neg h23] at h ⊢
  by_cases h4 : op = 4
  ·subst h4
   simp only [if_true] at h ⊢
   by_cases h0 : mx = 0
   ·rw [if_pos h0]; omega
   rw [if_neg h0]
   obtain ⟨_, b0, b1, b2⟩ := hok.1.2.2 rfl
   have ht : 1 ≤ (tmsI mn mx).toNat := by unfold tmsI; split <;> omega
   have : costL kids + 1 ≤ (costL kids + 1) * (tmsI mn mx).toNat := Nat.le_mul_of_pos_right _ ht
   have := nstH_cost kids hok.2.1 (by omega)
   split <;> omega
  ·rw [if_neg h4]; omega
theorem nstH_cost : ∀ ks : List NT, okL ks → costL ks ≤ 4000 → nstH ks ≤ costL ks
 | [], _, _ => by rw [nstH]; omega
 | k :: ks, hok, h => by
  rw [okL] at hok
  rw [costL] at h ⊢
  rw [nstH]
  have := nst_cost k hok.1 (by omega)
  omega
theorem nstL_cost : ∀ ks : List NT, okL ks → costL ks ≤ 4000 → nstL ks ≤ costL ks
 | [], _, _ => by rw [nstL]; omega
 | k :: ks, hok, h => by
  rw [okL] at hok
  rw [costL] at h ⊢
  rw [nstL]
  have := nst_cost k hok.1 (by omega)
  have := nstL_cost ks hok.2 (by omega)
  omega
end
def NdF (fn : List Nm → List Nm) : Prop := ∀ ns, ns.Nodup → (fn ns).Nodup
theorem NdF.times {fn : List Nm → List Nm} (h : NdF fn) : ∀ n, NdF (timesN fn n)
 | 0, _, hx => hx
 | n + 1, ns, hx => by
  rw [timesN]
  exact NdF.times h n _ (h ns hx)
theorem capL_nd (nm : Nm) : NdF fun ns => capL ns nm := by
 intro ns h
 simp only [capL]
 split
 ·exact h
 ·next hc =>
  rw [List.nodup_append]
  refine ⟨h, by simp, fun a ha b hb => ?_⟩
  rw [List.mem_singleton] at hb
  subst hb
  rintro rfl
  exact hc (by simpa using ha)
mutual
theorem capsN_nd : ∀ t : NT, NdF (capsN t)
 | .node op rs nm kids mn mx, ns, h => by
  rw [capsN]
  split
  ·exact capsL_nd kids _ (capL_nd nm ns h)
  ·exact capsL_nd kids ns h
theorem capsL_nd : ∀ ks : List NT, NdF (capsL ks)
 | [], ns, h => by rw [capsL]; exact h
 | k :: ks, ns, h => by
  rw [capsL]
  exact capsL_nd ks _ (capsN_nd k ns h)
end
mutual
theorem nsN_nd : ∀ t : NT, NdF (nsN t)
 | .node op rs nm kids mn mx, ns, h => by
  have hH := nsH_nd kids
  rw [nsN]
  by_cases h0 : op = 1
  ·rw [if_pos h0]; exact h
  rw [if_neg h0]
  by_cases h2 : op = 6
  ·rw [if_pos h2]; exact h
  rw [if_neg h2]
  by_cases h3 : op = 7
  ·rw [if_pos h3]; exact h
  rw [if_neg h3]
  by_cases h4 : op = 2
  ·rw [if_pos h4]; exact nsL_nd kids ns h
  rw [if_neg h4]
  by_cases h5 : op = 3
  ·rw [if_pos h5]; exact nsL_nd kids ns h
  rw [if_neg h5]
  by_cases h6 : op = 5
  ·rw [if_pos h6]; exact hH _ (capL_nd nm ns h)
  rw [if_neg h6]
  by_cases h7 : op = 4
  ·rw [if_pos h7]
   by_cases h8 : mx = 0
   ·rw [if_pos h8]; exact capsL_nd _ ns h
   ·rw [if_neg h8]
    split
    ·exact hH _ (NdF.times hH _ ns h)
    ·exact NdF.times hH _ _ (NdF.times hH _ ns h)
  ·rw [if_neg h7]; exact h
theorem nsH_nd : ∀ ks : List NT, NdF (nsH ks)
 | [], ns, h => by rw [nsH]; exact h
 | k :: ks, ns, h => by rw [nsH]; exact nsN_nd k ns h
theorem nsL_nd : ∀ ks : List NT, NdF (nsL ks)
 | [], ns, h => by rw [nsL]; exact h
 | k :: ks, ns, h => by rw [nsL]; exact nsL_nd ks _ (nsN_nd k ns h)
end
theorem nodup_le : ∀ {l m : List Nm}, l.Nodup → (∀ x ∈ l, x ∈ m) → l.length ≤ m.length
 | [], m, _, _ => Nat.zero_le _
 | a :: l, m, hn, hs => by
  rw [List.nodup_cons] at hn
  have ha := hs a (by simp)
  have h1 := nodup_le (m := m.erase a) hn.2 fun x hx => by
   have hne : x ≠ a := by rintro rfl; exact hn.1 hx
   rw [List.mem_erase_of_ne hne]
   exact hs x (List.mem_cons_of_mem _ hx)
  have h2 := List.length_erase_of_mem ha
  have h3 := List.length_pos_of_mem ha
  rw [List.length_cons]
  omega
theorem nsN_len (t : NT) : (nsN t []).length ≤ (prN t).length := by
 refine nodup_le (nsN_nd t [] List.nodup_nil) fun x hx => ?_
 rcases nsN_sb t [] x hx with h | h
 ·cases h
 ·exact h
theorem shE_okc {op : Int} {rs : List (UInt8 × UInt8)} {nm : List UInt8} {n : Nat} {mn mx : Int} (h : shE op rs nm n mn mx = 0) (hn : n ≤ 400) : Okc op n mn mx := by
 refine ⟨shE_ok h, fun h2 h3 h4 h5 => ?_, hn⟩
 unfold shE at h
 split at h
 ·cases h
 ·next hs =>
  unfold shpB at hs
  by_cases h0 : op = 0 ∨ op = 6 ∨ op = 7
  ·rw [if_pos h0] at hs
   simp at hs
   exact hs.1
  ·rw [if_neg h0] at hs
   by_cases h1 : op = 1
   ·rw [if_pos h1] at hs
    simp at hs
    exact hs.1
   ·rw [if_neg h1, if_neg (by omega), if_neg h4, if_neg h5] at hs
    simp at hs
theorem ckNs_more : ∀ (ks : List NT) (d c : Nat) (ns : List Nm), (ckNs ks d c ns).2.2 = 0 → c + ks.length ≤ (ckNs ks d c ns).1
 | [], d, c, ns, _ => by rw [ckNs]; simp
 | k :: ks, d, c, ns, h => by
  rw [ckNs] at h ⊢
  split at h
  ·next h1 => exact absurd h h1
  ·next h1 =>
   rw [if_neg h1]
   have := ckNs_more ks d _ _ h
   have := (ckN_shift k d c d c ns ns (Nat.le_refl _) (Nat.le_refl _) (by simpa using h1)).2.2.2
   rw [List.length_cons]
   omega
mutual
theorem ckN_okC : ∀ (t : NT) (d c : Nat) (ns : List Nm), (ckN t d c ns).2.2 = 0 → (ckN t d c ns).1 ≤ 400 → okC t
 | .node op rs nm ks mn mx, d, c, ns, h, h4 => by
  rw [ckN] at h h4
  split at h
  ·cases h
  ·next g1 =>
   rw [if_neg g1] at h4
   split at h
   ·cases h
   ·next g2 =>
    rw [if_neg g2] at h4
    split at h
    ·next h1 => exact absurd h h1
    ·next h1 =>
     rw [if_neg h1] at h4
     rw [okC]
     have := ckNs_more ks _ _ _ h
     exact ⟨shE_okc (by simpa using h1) (by omega), ckN_okD ks _ _ _ h h4, shE_rs (by simpa using h1)⟩
theorem ckN_okD : ∀ (ks : List NT) (d c : Nat) (ns : List Nm), (ckNs ks d c ns).2.2 = 0 → (ckNs ks d c ns).1 ≤ 400 → okD ks
 | [], _, _, _, _, _ => by rw [okD]; trivial
 | k :: ks, d, c, ns, h, h4 => by
  rw [ckNs] at h h4
  split at h
  ·next h1 => exact absurd h h1
  ·next h1 =>
   rw [if_neg h1] at h4
   rw [okD]
   have hm := ckNs_more ks _ _ _ h
   exact ⟨ckN_okC k _ _ _ (by simpa using h1) (by omega), ckN_okD ks _ _ _ h h4⟩
end
theorem ckE_okC {t : NT} (h : ckE t = 0) : okC t := by
 obtain ⟨h0, _, _⟩ := ckE_zero h
 exact ckN_okC t 0 0 [] h0 ((ckN_ok (SizeOf.sizeOf t + 1) t 0 0 [] (by omega) (by omega) (by simp)).2.2.1 h0)
end Go.Proofs.YtihdnlpelfgklaaDoor.Mt
namespace Go.Proofs.YtihdnlpelfgklaaDoor
open Go.RowKit
section
variable {w0 : World} {s : List UInt8} {g : Nat} {F F' : Nat → Prop} {code : List Mt.Ins} {names : List (List UInt8)} {lp : Nat} {W W' : World}
theorem PgS.keep (hp : PgS w0 s g F code names lp W) (hb : ∀ b, b < W.heap.size → ¬ F b → W'.heap[b]? = W.heap[b]?) (hF : ∀ b, F' b → b < W'.heap.size ∧ (b < W.heap.size → F b)) : PgS w0 s g F' code names lp W' := by
 obtain ⟨cv, nv, uss, h⟩ := hp
 exact ⟨cv, nv, uss,
  {
   head := (hb g (heap_lt h.head) h.out).trans h.head
   len := h.len
   ins := h.ins
   crow := own_block h.crow fun b hv => hb b (own_lt h.crow hv) (h.cout b hv).1
   nrow := own_block h.nrow fun b hv => hb b (own_lt h.nrow hv) (h.nout b hv).1
   cout := fun k hk => ⟨fun hf => (h.cout k hk).1 ((hF k hf).2 (own_lt h.crow hk)), (h.cout k hk).2⟩
   nout := fun k hk => ⟨fun hf => (h.nout k hk).1 ((hF k hf).2 (own_lt h.nrow hk)), (h.nout k hk).2⟩
   out := fun hf => h.out ((hF g hf).2 (heap_lt h.head))
   bnd := fun b hf => (hF b hf).1 }⟩
theorem PgS.weak (hp : PgS w0 s g F code names lp W) (hF : ∀ b, F' b → F b) : PgS w0 s g F' code names lp W := by
 have hb : ∀ b, F b → b < W.heap.size := by obtain ⟨_, _, _, h⟩ := hp; exact h.bnd
 exact hp.keep (fun _ _ _ => rfl) (fun b h => ⟨hb b (hF b h), fun _ => hF b h⟩)
theorem PgS.bnd (hp : PgS w0 s g F code names lp W) : ∀ b, F b → b < W.heap.size := by obtain ⟨_, _, _, h⟩ := hp; exact h.bnd
theorem PgS.glt (hp : PgS w0 s g F code names lp W) : g < W.heap.size ∧ ¬ F g := by obtain ⟨_, _, _, h⟩ := hp; exact ⟨heap_lt h.head, h.out⟩
theorem PgS.c0 (hp : PgS w0 s g F code names lp W) : ∃ a c, W.cell? ⟨g, 0, none⟩ = some (.slice a code.length c) := by
 obtain ⟨_, _, _, h⟩ := hp
 obtain ⟨a, c, e⟩ := h.c0s
 exact ⟨a, c, by rw [h.c0, e]⟩
end
theorem GoF.same {F F1 : Nat → Prop} {W W' : World} (h : GoF F F1 W W') : GoF F F W W' := ⟨h.kp, fun _ h => h⟩
theorem GoF.low {F F1 : Nat → Prop} {W W' : World} (h : GoF F F1 W W') {B : Nat} (hF : ∀ b, b < B → F b) (hB : B ≤ W.heap.size) : Below B W W' := ⟨h.kp.os, h.kp.tape, h.kp.output, h.kp.size, fun k hk => h.kp.block k (hF k hk) (Nat.lt_of_lt_of_le hk hB)⟩
theorem GoF.drew (F : Nat → Prop) (W : World) : GoF F F W W.drew := ⟨⟨rfl, rfl, rfl, Nat.le_refl _, fun _ _ _ => rfl⟩, fun _ h => h⟩
def EdR (x : Nat) (us : List Value) : Prop := us = [.int .i64 (x : Int)]
def EO (W : World) (eds : List Nat) (ev : Value) : Prop := OR 0 3 1 EdR W eds ev
def Fe (F : Nat → Prop) (ev : Value) (b : Nat) : Prop := F b ∨ ev.ownBlock = some b
theorem infoI : (Tryd.prog.info? 3).map (fun i => (i.zero, i.size, i.bytes)) = some (some (.int .i64 0), 1, 8) := by kernel_rfl
theorem EO.lt {W : World} {eds : List Nat} {ev : Value} (h : EO W eds ev) {b : Nat} (hb : ev.ownBlock = some b) : b < W.heap.size := by
 obtain ⟨⟨uss, _, _, ho⟩, _⟩ := h
 exact own_lt ho hb
theorem EO.go {W W' : World} {eds : List Nat} {ev : Value} (h : EO W eds ev) (hb : ∀ b, ev.ownBlock = some b → W'.heap[b]? = W.heap[b]?) : EO W' eds ev := by
 obtain ⟨⟨uss, h1, h2, ho⟩, hs⟩ := h
 exact ⟨⟨uss, h1, h2, own_block ho hb⟩, hs⟩
theorem EO.sl {W : World} {eds : List Nat} {ev : Value} (h : EO W eds ev) : ∃ a c, ev = .slice a eds.length c := by
 obtain ⟨⟨uss, _, _, _, ⟨h1, h2⟩ | ⟨q, cap, cur, h1, _⟩⟩, _⟩ := h
 ·exact ⟨none, 0, by rw [h1, h2]⟩
 ·exact ⟨_, _, h1⟩
theorem EO.at {W : World} {eds : List Nat} {ev : Value} (h : EO W eds ev) {i : Nat} (hi : i < eds.length) : ∃ q c, ev = .slice (some ⟨q, 0, none⟩) eds.length c ∧ q < W.heap.size ∧ W.cell? ⟨q, i, none⟩ = some (.int .i64 ((eds[i] : Nat) : Int)) := by
 have hrow := h
 obtain ⟨⟨uss, hlen, hel, _, ⟨h1, h2⟩ | ⟨q, cap, cur, h1, _, hg, _, _, hcs, htk⟩⟩, _⟩ := h
 ·omega
 ·have h3 := (hel i hi (by omega)).2
  unfold EdR at h3
  have e := flat_at 1 uss (fun u hu => by obtain ⟨j, hj, rfl⟩ := List.getElem_of_mem hu; exact (hel j (by omega) hj).1) i 0 (by omega) (by decide)
  rw [← htk, List.getElem?_take_of_lt (by omega), h3] at e
  refine ⟨q, cap, h1, heap_lt hg, ?_⟩
  rw [Lib.cell_of_heap hg]
  simpa using e
theorem ends_push {W : World} {eds : List Nat} {ev : Value} (h : EO W eds ev) (hl : eds.length ≤ 100000) (x : Nat) : ∃ ev' W' a c, ev' = .slice a (eds.length + 1) c ∧ (Builtin.append_ #[55, 55] 55 #[ev, .slice (some ⟨W.heap.size, 0, none⟩) 1 1]).run Tryd.prog (W.alloc (.cells #[.int .i64 (x : Int)] 3)) = .ok ev' W' ∧ EO W' (eds ++ [x]) ev' ∧
  (∀ F : Nat → Prop, (∀ b, ev.ownBlock = some b → ¬ F b) → Kp F W W') ∧ (∀ b, b < W.heap.size → ev.ownBlock ≠ some b → W'.heap[b]? = W.heap[b]?) ∧ (∀ b, ev'.ownBlock = some b → ev.ownBlock = some b ∨ W.heap.size ≤ b) := by
 obtain ⟨i0, hi, hz0, hz1, hz2⟩ := info_parts infoI
 obtain ⟨Wb, hWb⟩ : ∃ Wb, W.alloc (.cells #[.int .i64 (x : Int)] 3) = Wb := ⟨_, rfl⟩
 have hbb : Below W.heap.size W Wb := by rw [← hWb]; exact (Below.refl _ _).alloc (Nat.le_refl _) _
 have hnb : Wb.heap[W.heap.size]? = some (.cells #[.int .i64 (x : Int)] 3 (0, 0)) := by rw [← hWb]; exact Deep.blk_alloc_new W _
 have hb : EO Wb eds ev := h.go fun b hb => hbb.block b (h.lt hb)
 obtain ⟨⟨uss, h1, h2, ho⟩, hs⟩ := hb
 obtain ⟨ev', W', hrun, hown, hgr, _, hnew⟩ := run_append_own2 (P := Tryd.prog) (w := Wb) 0 55 55 3 i0 (.int .i64 0) 1 8 Tryd.underlying55 hi hz0 hz1 hz2 rfl (by decide) ev eds.length _ ho ⟨W.heap.size, 0, none⟩ 1 1 [.int .i64 (x : Int)] rfl (World.news_of_block hnb) (by intro u hu; simp only [List.mem_cons, List.not_mem_nil, or_false] at hu; subst hu; rfl) (by unfold maxLen; omega) (by omega) (Nat.zero_le _)
 have hsl : ∃ a c, ev' = .slice a (eds.length + 1) c := by
  obtain ⟨_, ⟨h1, h2⟩ | ⟨q, cap, cur, h1, _⟩⟩ := hown
  ·omega
  ·exact ⟨_, _, h1⟩
 obtain ⟨a, c, hsl⟩ := hsl
 rw [hWb]
 have hblk : ∀ b, b < W.heap.size → ev.ownBlock ≠ some b → W'.heap[b]? = W.heap[b]? := fun b hl hne => (hgr.block b (Nat.lt_of_lt_of_le hl hbb.size) (fun e => hne e.symm)).trans (hbb.block b hl)
 refine ⟨ev', W', a, c, hsl, hrun, ⟨⟨uss ++ [[.int .i64 (x : Int)]], by simp [h1], fun i hi hi' => ?_, ?_⟩, by simp; omega⟩, fun F hF => ⟨hgr.os.trans hbb.os, hgr.tape.trans hbb.tape, hgr.output.trans hbb.output, Nat.le_trans hbb.size hgr.size, fun b hb hl => hblk b hl (fun e => hF b e hb)⟩, hblk, fun b hb => (hnew b hb).imp id (fun h => Nat.le_trans hbb.size h)⟩
 ·by_cases e : i < eds.length
  ·rw [List.getElem_append_left e, List.getElem_append_left (by omega)]
   exact h2 i e (by omega)
  ·obtain rfl : i = eds.length := by simp at hi; omega
   rw [List.getElem_append_right (by omega), List.getElem_append_right (by omega)]
   simp [h1, EdR]
 ·rw [List.length_append, List.length_singleton, List.flatten_append]
  simpa using hown
end Go.Proofs.YtihdnlpelfgklaaDoor
namespace Go.Proofs.YtihdnlpelfgklaaDoor
open Go.RowKit
def KAt (w : World) (kids : List NT) (a : Option Addr) : Prop := ∀ i (h : i < kids.length), ∃ blk off op' ra' rn' rc' nm' a' n' c' mn' mx', a = some ⟨blk, off, none⟩ ∧ blk < w.heap.size ∧ w.cell? ⟨blk, off + i * 6, none⟩ = some (.int .i64 op') ∧ w.cell? ⟨blk, off + i * 6 + 1, none⟩ = some (.slice ra' rn' rc') ∧
   w.cell? ⟨blk, off + i * 6 + 2, none⟩ = some (.string ⟨(nm' : List UInt8).toArray⟩) ∧ w.cell? ⟨blk, off + i * 6 + 3, none⟩ = some (.slice a' n' c') ∧ w.cell? ⟨blk, off + i * 6 + 4, none⟩ = some (.int .i64 mn') ∧ w.cell? ⟨blk, off + i * 6 + 5, none⟩ = some (.int .i64 mx') ∧
   NAt w kids[i] (.agg #[.int .i64 op', .slice ra' rn' rc', .string ⟨nm'.toArray⟩, .slice a' n' c', .int .i64 mn', .int .i64 mx'])
def NodP (w0 : World) (s : List UInt8) (g : Nat) (F : Nat → Prop) (code : List Mt.Ins) (lp : Nat) (c : Mt.Cmp) (q : Nat) (W : World) (e : Ending) (W' : World) : Prop := e = .returned (.tuple #[]) ∧ PgS w0 s g F (code ++ c.1) c.2 (max lp q) W' ∧ GoF F F W W'
structure Pre (w0 : World) (s : List UInt8) (g : Nat) (F : Nat → Prop) (code : List Mt.Ins) (names : List (List UInt8)) (lp : Nat) (W : World) : Prop where
 low : ∀ b, b < w0.heap.size → F b
 bl : Below w0.heap.size w0 W
 ps : PgS w0 s g F code names lp W
def NodAt (w0 : World) (s : List UInt8) (g : Nat) (t : NT) : Prop := ∀ (v : Value) (k : Nat) (F : Nat → Prop) (code : List Mt.Ins) (names : List (List UInt8)) (lp : Nat) (W : World), NAt w0 t v → Mt.okN t → Pre w0 s g F code names lp W → code.length + (Mt.compN t code.length names).1.length ≤ 100000 → (Mt.compN t code.length names).2.length ≤ 100000 → k + Mt.nst t ≤ 5000 →
 Calls Tryd.prog 31 #[.pointer (some ⟨g, 0, none⟩), v, .int .i64 (k : Int)] W (NodP w0 s g F code lp (Mt.compN t code.length names) (k + Mt.nst t) W)
theorem Mt.nsN_le (t : NT) (ns : List (List UInt8)) : ns.length ≤ (Mt.nsN t ns).length := (Mt.denN_mk [] t ns).1
theorem Mt.nsL_le : ∀ (ks : List NT) (ns : List (List UInt8)), ns.length ≤ (Mt.nsL ks ns).length
 | [], ns => by rw [Mt.nsL]; exact Nat.le_refl _
 | k :: ks, ns => by rw [Mt.nsL]; exact Nat.le_trans (Mt.nsN_le k ns) (Mt.nsL_le ks _)
theorem Mt.compN_names (t : NT) (b : Nat) (ns : List (List UInt8)) : (Mt.compN t b ns).2 = Mt.nsN t ns := (Mt.compN_sem [] 0 t [] b ns).1
theorem Mt.compA_names (E : Nat) (ks : List NT) (b : Nat) (ns : List (List UInt8)) : (Mt.compA E ks b ns).2 = Mt.nsL ks ns := (Mt.compA_sem [] 0 E ks [] b ns).1
section
variable {w0 : World} {s : List UInt8} {g : Nat} {F : Nat → Prop} {code code' : List Mt.Ins} {names names' : List (List UInt8)} {lp lp' : Nat} {W W' : World}
theorem Pre.go (h : Pre w0 s g F code names lp W) (hg : GoF F F W W') (hp : PgS w0 s g F code' names' lp' W') : Pre w0 s g F code' names' lp' W' := ⟨h.low, h.bl.trans (hg.low h.low h.bl.size), hp⟩
theorem Pre.below (h : Pre w0 s g F code names lp W) (hb : Below W.heap.size W W') : Pre w0 s g (Fg F W W') code names lp W' := ⟨fun b hl => .inl (h.low b hl), h.bl.trans (hb.mono h.bl.size), h.ps.below hb⟩
end
theorem PgS.putAt {w0 : World} {s : List UInt8} {g : Nat} {F : Nat → Prop} {pre post : List Mt.Ins} {i : Mt.Ins} {names : List (List UInt8)} {lp : Nat} {W : World} (h : PgS w0 s g F (pre ++ i :: post) names lp W) (b n : Nat) (hb : pre.length = b) (hn : (pre ++ i :: post).length = n) (j : Nat) (hj : j = 1 ∨ j = 2) :
  ∃ q cap m, W.cell? ⟨g, 0, none⟩ = some (.slice (some ⟨q, 0, none⟩) n cap) ∧ b < n ∧ W.cell? ⟨q, b * 4 + j, none⟩ = some (.int .i64 ((m : Nat) : Int)) ∧ W.frozen? ⟨q, b * 4 + j, none⟩ = false ∧ ∀ (v : Nat) (z : Int), z = (v : Int) → PgS w0 s g F (pre ++ Mt.up j v i :: post) names lp (W.setCell ⟨q, b * 4 + j, none⟩ (.int .i64 z)).drew ∧ GoF F F W (W.setCell ⟨q, b * 4 + j, none⟩ (.int .i64 z)).drew := by
 have hlt : b < (pre ++ i :: post).length := by simp; omega
 obtain ⟨q, cap, hq⟩ := h.put hlt j hj
 obtain ⟨m, hm⟩ := hq.cell
 refine ⟨q, cap, m, by rw [hq.c0, hn], by omega, hm, hq.soft, fun v z hz => ?_⟩
 subst hz
 have h2 := hq.done v
 rw [Mt.modify_mid _ _ _ _ _ hb.symm] at h2
 exact h2
theorem GoF.blk {F F' : Nat → Prop} {W W' : World} (h : GoF F F' W W') {b : Nat} {x : Obj} (hb : F b) (hx : W.heap[b]? = some x) : W'.heap[b]? = some x := (h.kp.block b hb (heap_lt hx)).trans hx
theorem rg_nil (w : World) : RgAt w [] (.slice none 0 0) := ⟨none, 0, rfl, by simp, fun i hi => by simp at hi⟩
theorem emit0_any (op x y : Nat) {w0 : World} {s : List UInt8} {g : Nat} {F : Nat → Prop} {code : List Mt.Ins} {names : List (List UInt8)} {lp : Nat} {W : World} (hp : PgS w0 s g F code names lp W) (hl : code.length ≤ 100000) :
  Calls Tryd.prog 32 #[.pointer (some ⟨g, 0, none⟩), .agg #[.int .i64 (op : Int), .int .i64 (x : Int), .int .i64 (y : Int), .slice none 0 0]] W fun e W' => e = .returned (.int .i64 (code.length : Int)) ∧ PgS w0 s g F (code ++ [⟨op, x, y, []⟩]) names lp W' ∧ GoF F F W W' :=
 emit_any w0 s g F code names lp ⟨op, x, y, []⟩ none 0 W hp ⟨rg_nil w0, by simp, fun _ => rfl⟩ hl
theorem box6 {W : World} {b : Nat} {u0 u1 u2 u3 u4 u5 : Value} {t : TypeId} {f : Nat × Nat} (h : W.heap[b]? = some (.cells #[u0, u1, u2, u3, u4, u5] t f)) : W.cell? ⟨b, 0, none⟩ = some u0 ∧ W.cell? ⟨b, 1, none⟩ = some u1 ∧ W.cell? ⟨b, 2, none⟩ = some u2 ∧ W.cell? ⟨b, 3, none⟩ = some u3 ∧ W.cell? ⟨b, 4, none⟩ = some u4 ∧ W.cell? ⟨b, 5, none⟩ = some u5 := by
 refine ⟨?_, ?_, ?_, ?_, ?_, ?_⟩ <;> (rw [Lib.cell_of_heap h]; rfl)
end Go.Proofs.YtihdnlpelfgklaaDoor
namespace Go.Proofs.YtihdnlpelfgklaaDoor
open Go.RowKit
theorem mul_nat (a b : Nat) : ((a : Int) + 1) * (b : Int) = (((a + 1) * b : Nat) : Int) := by push_cast; rfl
set_option maxRecDepth 1000000 in
set_option maxHeartbeats 8000000 in
theorem cost_aux (SZ : Nat) : ∀ (t : NT) (v : Value) (w : World), SizeOf.sizeOf t < SZ → Mt.okC t → NAt w t v →
  Calls Tryd.prog 45 #[v] w fun e w' => e = .returned (.int .i64 (Mt.costN t)) ∧ Below w.heap.size w w' := by
 induction SZ with
 | zero => intro t v w h _; omega
 | succ SZ ih =>
 intro t v w hN hok h
 obtain ⟨op, rs, nm, kids, mn, mx, ra, rc, a, c, rfl, rfl, hr, hnm, hk⟩ := h.open
 have hK : KAt w kids a := hk
 rw [Mt.okC] at hok
 obtain ⟨⟨⟨hs3, hs5, hs4⟩, hs0, hn4⟩, hokd, _⟩ := hok
 have IH := Lib.hid fun (i : Nat) (hi : i < kids.length) (W : World) (u : Value) (hu : NAt W kids[i] u) => ih kids[i] u W (by have := kid_lt (op := op) (rs := rs) (nm := nm) (mn := mn) (mx := mx) i hi; omega) (Mt.okD_mem hokd i hi) hu
 have HK := Lib.hid hK
 have H4 := Lib.hid hs4
 rw [Mt.costN]
 obtain ⟨nk, hnk⟩ : ∃ n, kids.length = n := ⟨_, rfl⟩
 obtain ⟨nr, hnr⟩ : ∃ n, rs.length = n := ⟨_, rfl⟩
 have HNK := Lib.hid hnk
 rw [hnk] at hn4 hs4 H4
 rw [hnk, hnr]
 obtain ⟨Wa, hWa⟩ : ∃ Wa, w.alloc (.cells #[.int .i64 op, .slice ra nr rc, .string ⟨nm.toArray⟩, .slice a nk c, .int .i64 mn, .int .i64 mx] 29) = Wa := ⟨_, rfl⟩
 have HB0 : Hid (Below w.heap.size w Wa) := Lib.hid (by rw [← hWa]; exact (Below.refl _ _).alloc (Nat.le_refl _) _)
 have hbx : Wa.heap[w.heap.size]? = some (.cells #[.int .i64 op, .slice ra nr rc, .string ⟨nm.toArray⟩, .slice a nk c, .int .i64 mn, .int .i64 mx] 29 (0, 0)) := by rw [← hWa]; exact Deep.blk_alloc_new w _
 have HBX := Lib.hid hbx
 obtain ⟨b0, b1, b2, b3, b4, b5⟩ := box6 hbx
 obtain ⟨S, hS⟩ : ∃ S, Mt.costL kids = S := ⟨_, rfl⟩
 have hSb : S ≤ 400 * 4001 := by
  have := Mt.costL_le kids
  rw [hS, hnk] at this
  exact Nat.le_trans this (Nat.mul_le_mul_right _ hn4)
 have hS1 : nk = 1 → S ≤ 4001 := by
  rintro rfl
  have := Mt.costL_le kids
  rw [hS, hnk] at this
  omega
 have HS := Lib.hid hS
 have HS1 := Lib.hid hS1
 rw [hS]
 obtain ⟨Z, hZ⟩ : ∃ Z, min (if op = 5 then S + 2 else if op = 2 ∨ op = 3 then S + nk else if op = 4 then 1 + (S + 1) * (Mt.tmsI mn mx).toNat else 1) 4001 = Z := ⟨_, rfl⟩
 rw [hZ]
 have HZ := Lib.hid hZ
 clear hk h hr ih hN hnm hK hs3 hs5 hs4 hs0 hokd hnk hnr hbx hS hS1 hZ
 go_enter Tryd.func45, Tryd.ntmps45
 go_wp2_with fail
 go_loopw [3, 10] (fun n i wr => ∃ (m k : Nat), n = .int .i64 m ∧ i = .int .i64 k ∧ k ≤ nk ∧ Hid (m + Mt.costL (kids.drop k) = S) ∧ Hid (Below w.heap.size w wr) ∧ Hid (wr.heap[w.heap.size]? = some (.cells #[.int .i64 op, .slice ra nr rc, .string ⟨nm.toArray⟩, .slice a nk c, .int .i64 mn, .int .i64 mx] 29 (0, 0)))) (fun _ i _ => nk - (intOf i).toNat)
 case atStart => exact ⟨0, 0, rfl, rfl, by omega, Lib.hid (by rw [List.drop_zero, HS.out]; omega), HB0, HBX⟩
 case round =>
  obtain ⟨m, k, rfl, rfl, hkl, HQ, HB, HX⟩ := hrel
  obtain ⟨b0, b1, b2, b3, b4, b5⟩ := box6 HX.out
  by_cases hlt : k < nk
  ·have hkk : k < kids.length := by rw [HNK.out]; exact hlt
   obtain ⟨blk, off, op', ra', rn', rc', nm', a', n', c', mn', mx', rfl, hl, c0, c1, c2, c3, c4, c5, ht⟩ := HK.out k hkk
   have e0 := (HB.out.cell (p := ⟨blk, off + k * 6, none⟩) hl).trans c0
   have e1 := (HB.out.cell (p := ⟨blk, off + k * 6 + 1, none⟩) hl).trans c1
   have e2 := (HB.out.cell (p := ⟨blk, off + k * 6 + 2, none⟩) hl).trans c2
   have e3 := (HB.out.cell (p := ⟨blk, off + k * 6 + 3, none⟩) hl).trans c3
   have e4 := (HB.out.cell (p := ⟨blk, off + k * 6 + 4, none⟩) hl).trans c4
   have e5 := (HB.out.cell (p := ⟨blk, off + k * 6 + 5, none⟩) hl).trans c5
   have hlw : blk < wr.heap.size := Nat.lt_of_lt_of_le hl HB.out.size
   have i1 : (k : Int) < (nk : Int) := by omega
   obtain ⟨Wb, hWb⟩ : ∃ Wb, wr.alloc (.cells #[.int .i64 op', .slice ra' rn' rc', .string ⟨nm'.toArray⟩, .slice a' n' c', .int .i64 mn', .int .i64 mx'] 29) = Wb := ⟨_, rfl⟩
   have hbb : Below wr.heap.size wr Wb := by rw [← hWb]; exact (Below.refl _ _).alloc (Nat.le_refl _) _
   obtain ⟨q0, q1, q2, q3, q4, q5⟩ := box6 (show Wb.heap[wr.heap.size]? = some (.cells #[.int .i64 op', .slice ra' rn' rc', .string ⟨nm'.toArray⟩, .slice a' n' c', .int .i64 mn', .int .i64 mx'] 29 (0, 0)) by rw [← hWb]; exact Deep.blk_alloc_new wr _)
   have HBA := Lib.hid (HB.out.trans (hbb.mono HB.out.size))
   have hwx : w.heap.size < wr.heap.size := heap_lt HX.out
   have HXA := Lib.hid ((hbb.block _ hwx).trans HX.out)
   have HI := Lib.hid (IH.out k hkk _ _ (NAt.later HBA.out _ _ ht))
   have hq := HQ.out
   rw [Mt.costL_drop hkk] at hq
   have hcl := Mt.costN_le kids[k]
   obtain ⟨x, hx⟩ : ∃ x, Mt.costN kids[k] = x := ⟨_, rfl⟩
   rw [hx] at HI hq hcl
   have HQ2 := Lib.hid hq
   have hms : m + x ≤ S := by omega
   clear c0 c1 c2 c3 c4 c5 ht hx hq hbb
   go_wp2_with fail
   refine HI.out.mono ?_
   rintro e w2 ⟨rfl, hb2⟩
   have HB3 := Lib.hid (HBA.out.trans (hb2.mono HBA.out.size))
   have HX3 := Lib.hid ((hb2.block _ (heap_lt HXA.out)).trans HXA.out)
   clear hb2
   go_wp2_with fail
   go_roundw
   case rel => exact ⟨m + x, k + 1, by go_num, by go_num, by omega, Lib.hid (by have := HQ2.out; omega), HB3, HX3⟩
   case measure => simp [intOf]; omega
  ·have hms : m = S := by have := HQ.out; rw [List.drop_eq_nil_of_le (by rw [HNK.out]; omega), Mt.costL] at this; omega
   subst hms
   by_cases o5 : op = 5
   ·subst o5
    have hz := HZ.out
    simp only [if_true] at hz
    have hmin : min ((m : Int) + 2) 4001 = (Z : Int) := by omega
    clear hz
    go_wp2_with fail
    go_ret
    exact ⟨rfl, HB.out⟩
   by_cases o2 : op = 2
   ·subst o2
    have hz := HZ.out
    simp only [show ¬ (2 : Int) = 5 by decide, true_or, if_true, if_false] at hz
    have hmin : min ((m : Int) + (nk : Int)) 4001 = (Z : Int) := by omega
    clear hz
    go_wp2_with fail
    go_ret
    exact ⟨rfl, HB.out⟩
   by_cases o3 : op = 3
   ·subst o3
    have hz := HZ.out
    simp only [show ¬ (3 : Int) = 5 by decide, or_true, if_true, if_false] at hz
    have hmin : min ((m : Int) + (nk : Int)) 4001 = (Z : Int) := by omega
    clear hz
    go_wp2_with fail
    go_ret
    exact ⟨rfl, HB.out⟩
   by_cases o4 : op = 4
   ·subst o4
    obtain ⟨g1, g2, g3, g4⟩ := H4.out rfl
    have hm4 : m ≤ 4001 := HS1.out g1
    subst g1
    have hz := HZ.out
    simp only [show ¬ (4 : Int) = 5 by decide, show ¬ ((4 : Int) = 2 ∨ (4 : Int) = 3) by decide, if_true, if_false] at hz
    obtain ⟨mi, rfl⟩ := Int.eq_ofNat_of_zero_le g2
    by_cases hx : mx = -1
    ·subst hx
     have ht : (Mt.tmsI (mi : Int) (-1)).toNat = mi + 1 := by unfold Mt.tmsI; rw [if_pos rfl]; omega
     rw [ht] at hz
     have hb : (m + 1) * (mi + 1) ≤ 4002 * 41 := Nat.mul_le_mul (by omega) (by omega)
     have hmul : ((m : Int) + 1) * ((mi : Int) + 1) = (((m + 1) * (mi + 1) : Nat) : Int) := by push_cast; rfl
     obtain ⟨P, hP⟩ : ∃ P, (m + 1) * (mi + 1) = P := ⟨_, rfl⟩
     rw [hP] at hz hb hmul
     have hmin : min (1 + (P : Int)) 4001 = (Z : Int) := by omega
     clear hz hP ht g4
     go_wp2_with fail
     go_ret
     exact ⟨rfl, HB.out⟩
    ·obtain ⟨M, rfl⟩ := Int.eq_ofNat_of_zero_le (show 0 ≤ mx by omega)
     have ht : (Mt.tmsI (mi : Int) (M : Int)).toNat = M := by unfold Mt.tmsI; rw [if_neg hx]; omega
     rw [ht] at hz
     have hz0 : ((M : Int) == -1) = false := by rw [beq_eq_false_iff_ne]; exact hx
     have hb : (m + 1) * M ≤ 4002 * 41 := Nat.mul_le_mul (by omega) (by omega)
     have hmul : ((m : Int) + 1) * (M : Int) = (((m + 1) * M : Nat) : Int) := mul_nat m M
     obtain ⟨P, hP⟩ : ∃ P, (m + 1) * M = P := ⟨_, rfl⟩
     rw [hP] at hz hb hmul
     have hmin : min (1 + (P : Int)) 4001 = (Z : Int) := by omega
     clear hz hP ht g4 hx
     go_wp2_with fail
     go_ret
     exact ⟨rfl, HB.out⟩
   ·have hz := HZ.out
    rw [if_neg o5, if_neg (by omega), if_neg o4] at hz
    have hz1 : Z = 1 := by omega
    subst hz1
    have z2 : (op == 2) = false := by rw [beq_eq_false_iff_ne]; exact o2
    have z3 : (op == 3) = false := by rw [beq_eq_false_iff_ne]; exact o3
    have z4 : (op == 4) = false := by rw [beq_eq_false_iff_ne]; exact o4
    have z5 : (op == 5) = false := by rw [beq_eq_false_iff_ne]; exact o5
    clear hz
    go_wp2_with fail
    go_ret
    exact ⟨rfl, HB.out⟩
theorem cost_any (t : NT) (v : Value) (w : World) (hok : Mt.okC t) (h : NAt w t v) :
  Calls Tryd.prog 45 #[v] w fun e w' => e = .returned (.int .i64 (Mt.costN t)) ∧ Below w.heap.size w w' := cost_aux _ t v w (Nat.lt_succ_self _) hok h
end Go.Proofs.YtihdnlpelfgklaaDoor
namespace Go.Proofs.YtihdnlpelfgklaaDoor
open Go.RowKit
theorem Mt.costL_sum : ∀ ks : List NT, Mt.costL ks = (ks.map Mt.costN).sum
 | [] => by rw [Mt.costL]; rfl
 | k :: ks => by rw [Mt.costL, Mt.costL_sum ks, List.map_cons, List.sum_cons]
theorem sum_drop {ks : List NT} {i : Nat} (h : i < ks.length) (f : NT → Nat) : ((ks.drop i).map f).sum = f ks[i] + ((ks.drop (i + 1)).map f).sum := by
 rw [List.drop_eq_getElem_cons h, List.map_cons, List.sum_cons]
set_option maxRecDepth 1000000 in
set_option maxHeartbeats 16000000 in
theorem rcost_aux (SZ : Nat) : ∀ (t : NT) (v : Value) (w : World), SizeOf.sizeOf t < SZ → Mt.okC t → NAt w t v →
  Calls Tryd.prog 21 #[v] w fun e w' => e = .returned (.int .i64 (Mt.costN t)) ∧ Below w.heap.size w w' := by
 induction SZ with
 | zero => intro t v w h _; omega
 | succ SZ ih =>
 intro t v w hN hok h
 obtain ⟨op, rs, nm, kids, mn, mx, ra, rc, a, c, rfl, rfl, hr, hnm, hk⟩ := h.open
 have hK : KAt w kids a := hk
 rw [Mt.okC] at hok
 obtain ⟨⟨⟨hs3, hs5, hs4⟩, hs0, hn4⟩, hokd, _⟩ := hok
 have IH := Lib.hid fun (i : Nat) (hi : i < kids.length) (W : World) (u : Value) (hu : NAt W kids[i] u) => ih kids[i] u W (by have := kid_lt (op := op) (rs := rs) (nm := nm) (mn := mn) (mx := mx) i hi; omega) (Mt.okD_mem hokd i hi) hu
 have HK := Lib.hid hK
 have H4 := Lib.hid hs4
 have H0 := Lib.hid hs0
 rw [Mt.costN]
 obtain ⟨nk, hnk⟩ : ∃ n, kids.length = n := ⟨_, rfl⟩
 obtain ⟨nr, hnr⟩ : ∃ n, rs.length = n := ⟨_, rfl⟩
 have HNQ := Lib.hid hnk
 rw [hnk] at hn4 hs4 H4 H0
 rw [hnk, hnr]
 obtain ⟨Wa, hWa⟩ : ∃ Wa, w.alloc (.cells #[.int .i64 op, .slice ra nr rc, .string ⟨nm.toArray⟩, .slice a nk c, .int .i64 mn, .int .i64 mx] 29) = Wa := ⟨_, rfl⟩
 have HB0 : Hid (Below w.heap.size w Wa) := Lib.hid (by rw [← hWa]; exact (Below.refl _ _).alloc (Nat.le_refl _) _)
 have hbx : Wa.heap[w.heap.size]? = some (.cells #[.int .i64 op, .slice ra nr rc, .string ⟨nm.toArray⟩, .slice a nk c, .int .i64 mn, .int .i64 mx] 29 (0, 0)) := by rw [← hWa]; exact Deep.blk_alloc_new w _
 have HBX := Lib.hid hbx
 obtain ⟨b0, b1, b2, b3, b4, b5⟩ := box6 hbx
 rw [Mt.costL_sum]
 obtain ⟨Z, hZ⟩ : ∃ Z, min (if op = 5 then (kids.map Mt.costN).sum + 2 else if op = 2 ∨ op = 3 then (kids.map Mt.costN).sum + nk else if op = 4 then 1 + ((kids.map Mt.costN).sum + 1) * (Mt.tmsI mn mx).toNat else 1) 4001 = Z := ⟨_, rfl⟩
 rw [hZ]
 have HZ := Lib.hid hZ
 clear hk h hr ih hN hnm hK hs3 hs5 hs4 hs0 hokd hnk hnr hbx hZ
 by_cases o5 : op = 5
 ·subst o5
  have hz := HZ.out
  simp only [if_true] at hz
  have HS : Hid (min 4001 (2 + (kids.map Mt.costN).sum) = Z) := Lib.hid (by omega)
  clear hz
  go_enter Tryd.func21, Tryd.ntmps21
  go_wp2_with fail
  go_loopw [3, 4] (fun n i wr => ∃ (m k : Nat), n = .int .i64 m ∧ i = .int .i64 k ∧ k ≤ nk ∧ m ≤ 4001 ∧ Hid (min 4001 (m + ((kids.drop k).map Mt.costN).sum) = Z) ∧ Hid (Below w.heap.size w wr) ∧ Hid (wr.heap[w.heap.size]? = some (.cells #[.int .i64 5, .slice ra nr rc, .string ⟨nm.toArray⟩, .slice a nk c, .int .i64 mn, .int .i64 mx] 29 (0, 0)))) (fun _ i _ => nk - (intOf i).toNat)
  case atStart => exact ⟨2, 0, rfl, rfl, by omega, by omega, Lib.hid (by rw [List.drop_zero]; exact HS.out), HB0, HBX⟩
  case round =>
   obtain ⟨m, k, rfl, rfl, hkl, hm4, HQ, HB, HX⟩ := hrel
   obtain ⟨b0, b1, b2, b3, b4, b5⟩ := box6 HX.out
   by_cases hlt : k < nk
   ·have hkk : k < kids.length := by rw [HNQ.out]; exact hlt
    obtain ⟨blk, off, op', ra', rn', rc', nm', a', n', c', mn', mx', rfl, hl, c0, c1, c2, c3, c4, c5, ht⟩ := HK.out k hkk
    have e0 := (HB.out.cell (p := ⟨blk, off + k * 6, none⟩) hl).trans c0
    have e1 := (HB.out.cell (p := ⟨blk, off + k * 6 + 1, none⟩) hl).trans c1
    have e2 := (HB.out.cell (p := ⟨blk, off + k * 6 + 2, none⟩) hl).trans c2
    have e3 := (HB.out.cell (p := ⟨blk, off + k * 6 + 3, none⟩) hl).trans c3
    have e4 := (HB.out.cell (p := ⟨blk, off + k * 6 + 4, none⟩) hl).trans c4
    have e5 := (HB.out.cell (p := ⟨blk, off + k * 6 + 5, none⟩) hl).trans c5
    have hlw : blk < wr.heap.size := Nat.lt_of_lt_of_le hl HB.out.size
    have i1 : (k : Int) < (nk : Int) := by omega
    have i2 : (0 : Int) ≤ (k : Int) := by omega
    have HI := Lib.hid (IH.out k hkk _ _ (NAt.later HB.out _ _ ht))
    have hq := HQ.out
    rw [sum_drop hkk] at hq
    have hcl := Mt.costN_le kids[k]
    obtain ⟨x, hx⟩ : ∃ x, Mt.costN kids[k] = x := ⟨_, rfl⟩
    rw [hx] at HI hcl
    rw [hx] at hq
    have HQ2 := Lib.hid hq
    clear c0 c1 c2 c3 c4 c5 ht hx hq
    go_wp2_with fail
    refine HI.out.mono ?_
    rintro e w2 ⟨rfl, hb2⟩
    have HB3 := Lib.hid (HB.out.trans (hb2.mono HB.out.size))
    have HX3 := Lib.hid ((hb2.block _ (heap_lt HX.out)).trans HX.out)
    obtain ⟨d0, d1, d2, d3, d4, d5⟩ := box6 HX3.out
    obtain ⟨y, hy⟩ : ∃ y, min 4001 (m + x) = y := ⟨_, rfl⟩
    have hmin : min 4001 ((m : Int) + (x : Nat)) = (y : Int) := by omega
    have HY := Lib.hid hy
    clear hb2 hy b0 b1 b2 b3 b4 b5
    go_wp2_with fail
    go_roundw
    case rel => exact ⟨y, k + 1, by go_num, by go_num, by omega, by have := HY.out; omega, Lib.hid (by have := HQ2.out; have := HY.out; omega), HB3, HX3⟩
    case measure => simp [intOf]; omega
   ·have hms : m = Z := by have := HQ.out; rw [List.drop_eq_nil_of_le (by rw [HNQ.out]; omega)] at this; simp only [List.map_nil, List.sum_nil] at this; omega
    subst hms
    go_wp2_with fail
    go_ret
    exact ⟨rfl, HB.out⟩
 by_cases o2 : op = 2
 ·subst o2
  have hz := HZ.out
  simp only [show ¬ (2 : Int) = 5 by decide, true_or, if_true, if_false] at hz
  have HS : Hid (min 4001 (nk + (kids.map Mt.costN).sum) = Z) := Lib.hid (by omega)
  clear hz
  go_enter Tryd.func21, Tryd.ntmps21
  go_wp2_with fail
  go_loopw [3, 4] (fun n i wr => ∃ (m k : Nat), n = .int .i64 m ∧ i = .int .i64 k ∧ k ≤ nk ∧ m ≤ 4001 ∧ Hid (min 4001 (m + ((kids.drop k).map Mt.costN).sum) = Z) ∧ Hid (Below w.heap.size w wr) ∧ Hid (wr.heap[w.heap.size]? = some (.cells #[.int .i64 2, .slice ra nr rc, .string ⟨nm.toArray⟩, .slice a nk c, .int .i64 mn, .int .i64 mx] 29 (0, 0)))) (fun _ i _ => nk - (intOf i).toNat)
  case atStart => exact ⟨nk, 0, rfl, rfl, by omega, by omega, Lib.hid (by rw [List.drop_zero]; exact HS.out), HB0, HBX⟩
  case round =>
   obtain ⟨m, k, rfl, rfl, hkl, hm4, HQ, HB, HX⟩ := hrel
   obtain ⟨b0, b1, b2, b3, b4, b5⟩ := box6 HX.out
   by_cases hlt : k < nk
   ·have hkk : k < kids.length := by rw [HNQ.out]; exact hlt
    obtain ⟨blk, off, op', ra', rn', rc', nm', a', n', c', mn', mx', rfl, hl, c0, c1, c2, c3, c4, c5, ht⟩ := HK.out k hkk
    have e0 := (HB.out.cell (p := ⟨blk, off + k * 6, none⟩) hl).trans c0
    have e1 := (HB.out.cell (p := ⟨blk, off + k * 6 + 1, none⟩) hl).trans c1
    have e2 := (HB.out.cell (p := ⟨blk, off + k * 6 + 2, none⟩) hl).trans c2
    have e3 := (HB.out.cell (p := ⟨blk, off + k * 6 + 3, none⟩) hl).trans c3
    have e4 := (HB.out.cell (p := ⟨blk, off + k * 6 + 4, none⟩) hl).trans c4
    have e5 := (HB.out.cell (p := ⟨blk, off + k * 6 + 5, none⟩) hl).trans c5
    have hlw : blk < wr.heap.size := Nat.lt_of_lt_of_le hl HB.out.size
    have i1 : (k : Int) < (nk : Int) := by omega
    have i2 : (0 : Int) ≤ (k : Int) := by omega
    have HI := Lib.hid (IH.out k hkk _ _ (NAt.later HB.out _ _ ht))
    have hq := HQ.out
    rw [sum_drop hkk] at hq
    have hcl := Mt.costN_le kids[k]
    obtain ⟨x, hx⟩ : ∃ x, Mt.costN kids[k] = x := ⟨_, rfl⟩
    rw [hx] at HI hcl
    rw [hx] at hq
    have HQ2 := Lib.hid hq
    clear c0 c1 c2 c3 c4 c5 ht hx hq
    go_wp2_with fail
    refine HI.out.mono ?_
    rintro e w2 ⟨rfl, hb2⟩
    have HB3 := Lib.hid (HB.out.trans (hb2.mono HB.out.size))
    have HX3 := Lib.hid ((hb2.block _ (heap_lt HX.out)).trans HX.out)
    obtain ⟨d0, d1, d2, d3, d4, d5⟩ := box6 HX3.out
    obtain ⟨y, hy⟩ : ∃ y, min 4001 (m + x) = y := ⟨_, rfl⟩
    have hmin : min 4001 ((m : Int) + (x : Nat)) = (y : Int) := by omega
    have HY := Lib.hid hy
    clear hb2 hy b0 b1 b2 b3 b4 b5
    go_wp2_with fail
    go_roundw
    case rel => exact ⟨y, k + 1, by go_num, by go_num, by omega, by have := HY.out; omega, Lib.hid (by have := HQ2.out; have := HY.out; omega), HB3, HX3⟩
    case measure => simp [intOf]; omega
   ·have hms : m = Z := by have := HQ.out; rw [List.drop_eq_nil_of_le (by rw [HNQ.out]; omega)] at this; simp only [List.map_nil, List.sum_nil] at this; omega
    subst hms
    go_wp2_with fail
    go_ret
    exact ⟨rfl, HB.out⟩
 by_cases o3 : op = 3
 ·subst o3
  have hz := HZ.out
  simp only [show ¬ (3 : Int) = 5 by decide, or_true, if_true, if_false] at hz
  have HS : Hid (min 4001 (nk + (kids.map Mt.costN).sum) = Z) := Lib.hid (by omega)
  clear hz
  go_enter Tryd.func21, Tryd.ntmps21
  go_wp2_with fail
  go_loopw [3, 4] (fun n i wr => ∃ (m k : Nat), n = .int .i64 m ∧ i = .int .i64 k ∧ k ≤ nk ∧ m ≤ 4001 ∧ Hid (min 4001 (m + ((kids.drop k).map Mt.costN).sum) = Z) ∧ Hid (Below w.heap.size w wr) ∧ Hid (wr.heap[w.heap.size]? = some (.cells #[.int .i64 3, .slice ra nr rc, .string ⟨nm.toArray⟩, .slice a nk c, .int .i64 mn, .int .i64 mx] 29 (0, 0)))) (fun _ i _ => nk - (intOf i).toNat)
  case atStart => exact ⟨nk, 0, rfl, rfl, by omega, by omega, Lib.hid (by rw [List.drop_zero]; exact HS.out), HB0, HBX⟩
  case round =>
   obtain ⟨m, k, rfl, rfl, hkl, hm4, HQ, HB, HX⟩ := hrel
   obtain ⟨b0, b1, b2, b3, b4, b5⟩ := box6 HX.out
   by_cases hlt : k < nk
   ·have hkk : k < kids.length := by rw [HNQ.out]; exact hlt
    obtain ⟨blk, off, op', ra', rn', rc', nm', a', n', c', mn', mx', rfl, hl, c0, c1, c2, c3, c4, c5, ht⟩ := HK.out k hkk
    have e0 := (HB.out.cell (p := ⟨blk, off + k * 6, none⟩) hl).trans c0
    have e1 := (HB.out.cell (p := ⟨blk, off + k * 6 + 1, none⟩) hl).trans c1
    have e2 := (HB.out.cell (p := ⟨blk, off + k * 6 + 2, none⟩) hl).trans c2
    have e3 := (HB.out.cell (p := ⟨blk, off + k * 6 + 3, none⟩) hl).trans c3
    have e4 := (HB.out.cell (p := ⟨blk, off + k * 6 + 4, none⟩) hl).trans c4
    have e5 := (HB.out.cell (p := ⟨blk, off + k * 6 + 5, none⟩) hl).trans c5
    have hlw : blk < wr.heap.size := Nat.lt_of_lt_of_le hl HB.out.size
    have i1 : (k : Int) < (nk : Int) := by omega
    have i2 : (0 : Int) ≤ (k : Int) := by omega
    have HI := Lib.hid (IH.out k hkk _ _ (NAt.later HB.out _ _ ht))
    have hq := HQ.out
    rw [sum_drop hkk] at hq
    have hcl := Mt.costN_le kids[k]
    obtain ⟨x, hx⟩ : ∃ x, Mt.costN kids[k] = x := ⟨_, rfl⟩
    rw [hx] at HI hcl
    rw [hx] at hq
    have HQ2 := Lib.hid hq
    clear c0 c1 c2 c3 c4 c5 ht hx hq
    go_wp2_with fail
    refine HI.out.mono ?_
    rintro e w2 ⟨rfl, hb2⟩
    have HB3 := Lib.hid (HB.out.trans (hb2.mono HB.out.size))
    have HX3 := Lib.hid ((hb2.block _ (heap_lt HX.out)).trans HX.out)
    obtain ⟨d0, d1, d2, d3, d4, d5⟩ := box6 HX3.out
    obtain ⟨y, hy⟩ : ∃ y, min 4001 (m + x) = y := ⟨_, rfl⟩
    have hmin : min 4001 ((m : Int) + (x : Nat)) = (y : Int) := by omega
    have HY := Lib.hid hy
    clear hb2 hy b0 b1 b2 b3 b4 b5
    go_wp2_with fail
    go_roundw
    case rel => exact ⟨y, k + 1, by go_num, by go_num, by omega, by have := HY.out; omega, Lib.hid (by have := HQ2.out; have := HY.out; omega), HB3, HX3⟩
    case measure => simp [intOf]; omega
   ·have hms : m = Z := by have := HQ.out; rw [List.drop_eq_nil_of_le (by rw [HNQ.out]; omega)] at this; simp only [List.map_nil, List.sum_nil] at this; omega
    subst hms
    go_wp2_with fail
    go_ret
    exact ⟨rfl, HB.out⟩
 by_cases o4 : op = 4
 ·subst o4
  obtain ⟨g1, g2, g3, g4⟩ := H4.out rfl
  subst g1
  have hz := HZ.out
  simp only [show ¬ (4 : Int) = 5 by decide, show ¬ ((4 : Int) = 2 ∨ (4 : Int) = 3) by decide, if_true, if_false] at hz
  obtain ⟨T, hT⟩ : ∃ T, (Mt.tmsI mn mx).toNat = T := ⟨_, rfl⟩
  rw [hT] at hz
  have HS : Hid (min 4001 (1 + (kids.map fun t => (Mt.costN t + 1) * T).sum) = Z) := Lib.hid (by
   have := HNQ.out
   match kids, this with
   | [x], _ =>
    simp only [List.map_cons, List.map_nil, List.sum_cons, List.sum_nil, Nat.add_zero] at hz ⊢
    omega)
  obtain ⟨mi, rfl⟩ := Int.eq_ofNat_of_zero_le g2
  have hT41 : T ≤ 41 := by rw [← hT]; unfold Mt.tmsI; split <;> omega
  clear hz
  by_cases hx : mx = -1
  ·subst hx
   have ht : T = mi + 1 := by rw [← hT]; unfold Mt.tmsI; rw [if_pos rfl]; omega
   clear g4 hT
   subst ht
   go_enter Tryd.func21, Tryd.ntmps21
   go_wp2_with fail
   go_loopw [3, 4] (fun n i wr => ∃ (m k : Nat), n = .int .i64 m ∧ i = .int .i64 k ∧ k ≤ 1 ∧ m ≤ 4001 ∧ Hid (min 4001 (m + ((kids.drop k).map fun t => (Mt.costN t + 1) * (mi + 1)).sum) = Z) ∧ Hid (Below w.heap.size w wr) ∧ Hid (wr.heap[w.heap.size]? = some (.cells #[.int .i64 4, .slice ra nr rc, .string ⟨nm.toArray⟩, .slice a 1 c, .int .i64 (mi : Int), .int .i64 (-1)] 29 (0, 0)))) (fun _ i _ => 1 - (intOf i).toNat)
   case atStart => exact ⟨1, 0, rfl, rfl, by omega, by omega, Lib.hid (by rw [List.drop_zero]; exact HS.out), HB0, HBX⟩
   case round =>
    obtain ⟨m, k, rfl, rfl, hkl, hm4, HQ, HB, HX⟩ := hrel
    obtain ⟨b0, b1, b2, b3, b4, b5⟩ := box6 HX.out
    by_cases hlt : k < 1
    ·have hkk : k < kids.length := by rw [HNQ.out]; exact hlt
     obtain ⟨blk, off, op', ra', rn', rc', nm', a', n', c', mn', mx', rfl, hl, c0, c1, c2, c3, c4, c5, ht⟩ := HK.out k hkk
     have e0 := (HB.out.cell (p := ⟨blk, off + k * 6, none⟩) hl).trans c0
     have e1 := (HB.out.cell (p := ⟨blk, off + k * 6 + 1, none⟩) hl).trans c1
     have e2 := (HB.out.cell (p := ⟨blk, off + k * 6 + 2, none⟩) hl).trans c2
     have e3 := (HB.out.cell (p := ⟨blk, off + k * 6 + 3, none⟩) hl).trans c3
     have e4 := (HB.out.cell (p := ⟨blk, off + k * 6 + 4, none⟩) hl).trans c4
     have e5 := (HB.out.cell (p := ⟨blk, off + k * 6 + 5, none⟩) hl).trans c5
     have hlw : blk < wr.heap.size := Nat.lt_of_lt_of_le hl HB.out.size
     have i1 : (k : Int) < (1 : Int) := by omega
     have i2 : (0 : Int) ≤ (k : Int) := by omega
     have HI := Lib.hid (IH.out k hkk _ _ (NAt.later HB.out _ _ ht))
     have hq := HQ.out
     rw [sum_drop hkk] at hq
     have hcl := Mt.costN_le kids[k]
     obtain ⟨x, hx⟩ : ∃ x, Mt.costN kids[k] = x := ⟨_, rfl⟩
     rw [hx] at HI hcl
     simp only [hx] at hq
     have hb : (x + 1) * (mi + 1) ≤ 4002 * 41 := Nat.mul_le_mul (by omega) hT41
     have hmul : ((x : Int) + 1) * ((mi : Int) + 1) = (((x + 1) * (mi + 1) : Nat) : Int) := by push_cast; rfl
     obtain ⟨P, hP⟩ : ∃ P, (x + 1) * (mi + 1) = P := ⟨_, rfl⟩
     rw [hP] at hq hb hmul
     clear hP
     have HQ2 := Lib.hid hq
     clear c0 c1 c2 c3 c4 c5 ht hx hq
     go_wp2_with fail
     refine HI.out.mono ?_
     rintro e w2 ⟨rfl, hb2⟩
     have HB3 := Lib.hid (HB.out.trans (hb2.mono HB.out.size))
     have HX3 := Lib.hid ((hb2.block _ (heap_lt HX.out)).trans HX.out)
     obtain ⟨d0, d1, d2, d3, d4, d5⟩ := box6 HX3.out
     obtain ⟨y, hy⟩ : ∃ y, min 4001 (m + P) = y := ⟨_, rfl⟩
     have hmin : min 4001 ((m : Int) + (P : Nat)) = (y : Int) := by omega
     have HY := Lib.hid hy
     clear hb2 hy b0 b1 b2 b3 b4 b5
     go_wp2_with fail
     go_roundw
     case rel => exact ⟨y, k + 1, by go_num, by go_num, by omega, by have := HY.out; omega, Lib.hid (by have := HQ2.out; have := HY.out; omega), HB3, HX3⟩
     case measure => simp [intOf]; omega
    ·have hms : m = Z := by have := HQ.out; rw [List.drop_eq_nil_of_le (by rw [HNQ.out]; omega)] at this; simp only [List.map_nil, List.sum_nil] at this; omega
     subst hms
     go_wp2_with fail
     go_ret
     exact ⟨rfl, HB.out⟩
  ·obtain ⟨M, rfl⟩ := Int.eq_ofNat_of_zero_le (show 0 ≤ mx by omega)
   have ht : T = M := by rw [← hT]; unfold Mt.tmsI; rw [if_neg hx]; omega
   have hz0 : ((M : Int) == -1) = false := by rw [beq_eq_false_iff_ne]; exact hx
   clear g4 hT hx
   subst ht
   go_enter Tryd.func21, Tryd.ntmps21
   go_wp2_with fail
   go_loopw [3, 4] (fun n i wr => ∃ (m k : Nat), n = .int .i64 m ∧ i = .int .i64 k ∧ k ≤ 1 ∧ m ≤ 4001 ∧ Hid (min 4001 (m + ((kids.drop k).map fun t => (Mt.costN t + 1) * T).sum) = Z) ∧ Hid (Below w.heap.size w wr) ∧ Hid (wr.heap[w.heap.size]? = some (.cells #[.int .i64 4, .slice ra nr rc, .string ⟨nm.toArray⟩, .slice a 1 c, .int .i64 (mi : Int), .int .i64 (T : Int)] 29 (0, 0)))) (fun _ i _ => 1 - (intOf i).toNat)
   case atStart => exact ⟨1, 0, rfl, rfl, by omega, by omega, Lib.hid (by rw [List.drop_zero]; exact HS.out), HB0, HBX⟩
   case round =>
    obtain ⟨m, k, rfl, rfl, hkl, hm4, HQ, HB, HX⟩ := hrel
    obtain ⟨b0, b1, b2, b3, b4, b5⟩ := box6 HX.out
    by_cases hlt : k < 1
    ·have hkk : k < kids.length := by rw [HNQ.out]; exact hlt
     obtain ⟨blk, off, op', ra', rn', rc', nm', a', n', c', mn', mx', rfl, hl, c0, c1, c2, c3, c4, c5, ht⟩ := HK.out k hkk
     have e0 := (HB.out.cell (p := ⟨blk, off + k * 6, none⟩) hl).trans c0
     have e1 := (HB.out.cell (p := ⟨blk, off + k * 6 + 1, none⟩) hl).trans c1
     have e2 := (HB.out.cell (p := ⟨blk, off + k * 6 + 2, none⟩) hl).trans c2
     have e3 := (HB.out.cell (p := ⟨blk, off + k * 6 + 3, none⟩) hl).trans c3
     have e4 := (HB.out.cell (p := ⟨blk, off + k * 6 + 4, none⟩) hl).trans c4
     have e5 := (HB.out.cell (p := ⟨blk, off + k * 6 + 5, none⟩) hl).trans c5
     have hlw : blk < wr.heap.size := Nat.lt_of_lt_of_le hl HB.out.size
     have i1 : (k : Int) < (1 : Int) := by omega
     have i2 : (0 : Int) ≤ (k : Int) := by omega
     have HI := Lib.hid (IH.out k hkk _ _ (NAt.later HB.out _ _ ht))
     have hq := HQ.out
     rw [sum_drop hkk] at hq
     have hcl := Mt.costN_le kids[k]
     obtain ⟨x, hx⟩ : ∃ x, Mt.costN kids[k] = x := ⟨_, rfl⟩
     rw [hx] at HI hcl
     simp only [hx] at hq
     have hb : (x + 1) * (T) ≤ 4002 * 41 := Nat.mul_le_mul (by omega) hT41
     have hmul : ((x : Int) + 1) * (T : Int) = (((x + 1) * (T) : Nat) : Int) := by push_cast; rfl
     obtain ⟨P, hP⟩ : ∃ P, (x + 1) * (T) = P := ⟨_, rfl⟩
     rw [hP] at hq hb hmul
     clear hP
     have HQ2 := Lib.hid hq
     clear c0 c1 c2 c3 c4 c5 ht hx hq
     go_wp2_with fail
     refine HI.out.mono ?_
     rintro e w2 ⟨rfl, hb2⟩
     have HB3 := Lib.hid (HB.out.trans (hb2.mono HB.out.size))
     have HX3 := Lib.hid ((hb2.block _ (heap_lt HX.out)).trans HX.out)
     obtain ⟨d0, d1, d2, d3, d4, d5⟩ := box6 HX3.out
     obtain ⟨y, hy⟩ : ∃ y, min 4001 (m + P) = y := ⟨_, rfl⟩
     have hmin : min 4001 ((m : Int) + (P : Nat)) = (y : Int) := by omega
     have HY := Lib.hid hy
     clear hb2 hy b0 b1 b2 b3 b4 b5
     go_wp2_with fail
     go_roundw
     case rel => exact ⟨y, k + 1, by go_num, by go_num, by omega, by have := HY.out; omega, Lib.hid (by have := HQ2.out; have := HY.out; omega), HB3, HX3⟩
     case measure => simp [intOf]; omega
    ·have hms : m = Z := by have := HQ.out; rw [List.drop_eq_nil_of_le (by rw [HNQ.out]; omega)] at this; simp only [List.map_nil, List.sum_nil] at this; omega
     subst hms
     go_wp2_with fail
     go_ret
     exact ⟨rfl, HB.out⟩
 ·have h0 : nk = 0 := H0.out o2 o3 o4 o5
  have hz := HZ.out
  rw [if_neg o5, if_neg (by omega), if_neg o4] at hz
  have hz1 : Z = 1 := by omega
  subst hz1 h0
  have HS : Hid (min 4001 (1 + (kids.map Mt.costN).sum) = 1) := Lib.hid (by
   rw [List.length_eq_zero_iff.1 HNQ.out]
   rfl)
  have z2 : (op == 2) = false := by rw [beq_eq_false_iff_ne]; exact o2
  have z3 : (op == 3) = false := by rw [beq_eq_false_iff_ne]; exact o3
  have z4 : (op == 4) = false := by rw [beq_eq_false_iff_ne]; exact o4
  have z5 : (op == 5) = false := by rw [beq_eq_false_iff_ne]; exact o5
  clear hz
  go_enter Tryd.func21, Tryd.ntmps21
  go_wp2_with fail
  go_loopw [3, 4] (fun n i wr => ∃ (m k : Nat), n = .int .i64 m ∧ i = .int .i64 k ∧ k ≤ 0 ∧ m ≤ 4001 ∧ Hid (min 4001 (m + ((kids.drop k).map Mt.costN).sum) = 1) ∧ Hid (Below w.heap.size w wr) ∧ Hid (wr.heap[w.heap.size]? = some (.cells #[.int .i64 op, .slice ra nr rc, .string ⟨nm.toArray⟩, .slice a 0 c, .int .i64 mn, .int .i64 mx] 29 (0, 0)))) (fun _ i _ => 0 - (intOf i).toNat)
  case atStart => exact ⟨1, 0, rfl, rfl, by omega, by omega, Lib.hid (by rw [List.drop_zero]; exact HS.out), HB0, HBX⟩
  case round =>
   obtain ⟨m, k, rfl, rfl, hkl, hm4, HQ, HB, HX⟩ := hrel
   obtain ⟨b0, b1, b2, b3, b4, b5⟩ := box6 HX.out
   by_cases hlt : k < 0
   ·omega
   ·have hms : m = 1 := by have := HQ.out; rw [List.drop_eq_nil_of_le (by rw [HNQ.out]; omega)] at this; simp only [List.map_nil, List.sum_nil] at this; omega
    subst hms
    go_wp2_with fail
    go_ret
    exact ⟨rfl, HB.out⟩
theorem rcost_any (t : NT) (v : Value) (w : World) (hok : Mt.okC t) (h : NAt w t v) :
  Calls Tryd.prog 21 #[v] w fun e w' => e = .returned (.int .i64 (Mt.costN t)) ∧ Below w.heap.size w w' := rcost_aux _ t v w (Nat.lt_succ_self _) hok h
end Go.Proofs.YtihdnlpelfgklaaDoor
namespace Go.Proofs.YtihdnlpelfgklaaDoor
open Go.RowKit
set_option maxRecDepth 1000000 in
set_option maxHeartbeats 4000000 in
theorem Cost_any (t : NT) (v : Value) (w : World) (h : NAt w t v) (hk : Kinds w) :
  Calls Tryd.prog 30 #[v] w fun e w' => e = .returned (.int .i64 (if ckE t = 0 then (Mt.costN t : Int) else 0)) ∧ Below w.heap.size w w' := by
 have h2 := h
 have hcl := Mt.costN_le t
 have hok := @Mt.ckE_okC t
 obtain ⟨op, rs, nm, kids, mn, mx, ra, rc, a, c, e0, rfl, _⟩ := h.open
 clear e0
 obtain ⟨nk, hnk⟩ : ∃ n, kids.length = n := ⟨_, rfl⟩
 obtain ⟨nr, hnr⟩ : ∃ n, rs.length = n := ⟨_, rfl⟩
 rw [hnk, hnr] at h2 ⊢
 obtain ⟨Wa, hWa⟩ : ∃ Wa, w.alloc (.cells #[.int .i64 op, .slice ra nr rc, .string ⟨nm.toArray⟩, .slice a nk c, .int .i64 mn, .int .i64 mx] 29) = Wa := ⟨_, rfl⟩
 have hb : Below w.heap.size w Wa := by rw [← hWa]; exact (Below.refl _ _).alloc (Nat.le_refl _) _
 have hbx : Wa.heap[w.heap.size]? = some (.cells #[.int .i64 op, .slice ra nr rc, .string ⟨nm.toArray⟩, .slice a nk c, .int .i64 mn, .int .i64 mx] 29 (0, 0)) := by rw [← hWa]; exact Deep.blk_alloc_new w _
 have HC := Lib.hid (check_any t _ Wa (NAt.later hb _ _ h2) ⟨Nat.lt_of_lt_of_le hk.1 hb.size, fun c hc => (hb.cell (p := ⟨0, c, none⟩) hk.1).trans (hk.2 c hc)⟩)
 have HB := Lib.hid hb
 have HX := Lib.hid hbx
 have HN := Lib.hid h2
 obtain ⟨b0, b1, b2, b3, b4, b5⟩ := box6 hbx
 obtain ⟨E, hE⟩ : ∃ E, ckE t = E := ⟨_, rfl⟩
 obtain ⟨Z, hZ⟩ : ∃ Z, (if ckE t = 0 then (Mt.costN t : Int) else 0) = Z := ⟨_, rfl⟩
 rw [hZ]
 rw [hE] at HC hok hZ
 have HZ := Lib.hid hZ
 clear hk hb hbx h2 h hnk hnr hE hZ
 go_enter Tryd.func30, Tryd.ntmps30
 go_wp2_with fail
 refine HC.out.mono ?_
 rintro e w2 ⟨rfl, hb2⟩
 have HB2 := Lib.hid (HB.out.trans (hb2.mono HB.out.size))
 have hx2 := (hb2.block _ (heap_lt HX.out)).trans HX.out
 obtain ⟨d0, d1, d2, d3, d4, d5⟩ := box6 hx2
 clear hb2 hx2
 by_cases h0 : E = 0
 ·subst h0
  have HK := Lib.hid (cost_any t _ w2 (hok rfl) (NAt.later HB2.out _ _ HN.out))
  obtain ⟨K, hK⟩ : ∃ K, Mt.costN t = K := ⟨_, rfl⟩
  have hZ := HZ.out
  rw [if_pos rfl] at hZ
  rw [hK] at HK hZ hcl
  subst hZ
  clear hok hK
  go_wp2_with fail
  refine HK.out.mono ?_
  rintro e w3 ⟨rfl, hb3⟩
  have HB3 := Lib.hid (HB2.out.trans (hb3.mono HB2.out.size))
  go_wp2_with fail
  go_ret
  exact ⟨rfl, HB3.out⟩
 ·have hz : ((E : Int) == 0) = false := by rw [beq_eq_false_iff_ne]; omega
  have hZ := HZ.out
  rw [if_neg h0] at hZ
  subst hZ
  clear hok
  go_wp2_with fail
  go_ret
  exact ⟨rfl, HB2.out⟩
set_option maxRecDepth 1000000 in
set_option maxHeartbeats 4000000 in
theorem rCost_any (t : NT) (v : Value) (w : World) (h : NAt w t v) :
  Calls Tryd.prog 11 #[v] w fun e w' => e = .returned (.int .i64 (if ckE t = 0 then (Mt.costN t : Int) else 0)) ∧ Below w.heap.size w w' := by
 have h2 := h
 have hcl := Mt.costN_le t
 have hok := @Mt.ckE_okC t
 obtain ⟨op, rs, nm, kids, mn, mx, ra, rc, a, c, e0, rfl, _⟩ := h.open
 clear e0
 obtain ⟨nk, hnk⟩ : ∃ n, kids.length = n := ⟨_, rfl⟩
 obtain ⟨nr, hnr⟩ : ∃ n, rs.length = n := ⟨_, rfl⟩
 rw [hnk, hnr] at h2 ⊢
 obtain ⟨Wa, hWa⟩ : ∃ Wa, w.alloc (.cells #[.int .i64 op, .slice ra nr rc, .string ⟨nm.toArray⟩, .slice a nk c, .int .i64 mn, .int .i64 mx] 29) = Wa := ⟨_, rfl⟩
 have hb : Below w.heap.size w Wa := by rw [← hWa]; exact (Below.refl _ _).alloc (Nat.le_refl _) _
 have hbx : Wa.heap[w.heap.size]? = some (.cells #[.int .i64 op, .slice ra nr rc, .string ⟨nm.toArray⟩, .slice a nk c, .int .i64 mn, .int .i64 mx] 29 (0, 0)) := by rw [← hWa]; exact Deep.blk_alloc_new w _
 have HC := Lib.hid (rcheck_any t _ Wa (NAt.later hb _ _ h2))
 have HB := Lib.hid hb
 have HX := Lib.hid hbx
 have HN := Lib.hid h2
 obtain ⟨b0, b1, b2, b3, b4, b5⟩ := box6 hbx
 obtain ⟨E, hE⟩ : ∃ E, ckE t = E := ⟨_, rfl⟩
 obtain ⟨Z, hZ⟩ : ∃ Z, (if ckE t = 0 then (Mt.costN t : Int) else 0) = Z := ⟨_, rfl⟩
 rw [hZ]
 rw [hE] at HC hok hZ
 have HZ := Lib.hid hZ
 clear hb hbx h2 h hnk hnr hE hZ
 go_enter Tryd.func11, Tryd.ntmps11
 go_wp2_with fail
 refine HC.out.mono ?_
 rintro e w2 ⟨rfl, hb2⟩
 have HB2 := Lib.hid (HB.out.trans (hb2.mono HB.out.size))
 have hx2 := (hb2.block _ (heap_lt HX.out)).trans HX.out
 obtain ⟨d0, d1, d2, d3, d4, d5⟩ := box6 hx2
 clear hb2 hx2
 by_cases h0 : E = 0
 ·subst h0
  have HK := Lib.hid (rcost_any t _ w2 (hok rfl) (NAt.later HB2.out _ _ HN.out))
  obtain ⟨K, hK⟩ : ∃ K, Mt.costN t = K := ⟨_, rfl⟩
  have hZ := HZ.out
  rw [if_pos rfl] at hZ
  rw [hK] at HK hZ hcl
  subst hZ
  clear hok hK
  go_wp2_with fail
  refine HK.out.mono ?_
  rintro e w3 ⟨rfl, hb3⟩
  have HB3 := Lib.hid (HB2.out.trans (hb3.mono HB2.out.size))
  go_wp2_with fail
  go_ret
  exact ⟨rfl, HB3.out⟩
 ·have hz : ((E : Int) == 0) = false := by rw [beq_eq_false_iff_ne]; omega
  have hZ := HZ.out
  rw [if_neg h0] at hZ
  subst hZ
  clear hok
  go_wp2_with fail
  go_ret
  exact ⟨rfl, HB2.out⟩
end Go.Proofs.YtihdnlpelfgklaaDoor
namespace Go.Proofs.YtihdnlpelfgklaaDoor
open Go.RowKit
set_option maxHeartbeats 8000000 in
set_option maxRecDepth 1000000 in
theorem optional_any (w0 : World) (s : List UInt8) (g : Nat) (t : NT) (ih : NodAt w0 s g t) (v : Value) (k : Nat) (F : Nat → Prop) (code : List Mt.Ins) (names : List (List UInt8)) (lp : Nat) (W : World) (hv : NAt w0 t v) (hok : Mt.okN t) (hp : Pre w0 s g F code names lp W) (hl : code.length + 3 + (Mt.compN t (code.length + 2) names).1.length ≤ 100000) (hn : (Mt.compN t (code.length + 2) names).2.length ≤ 100000) (hk : k + 1 + Mt.nst t ≤ 5000) :
  Calls Tryd.prog 63 #[.pointer (some ⟨g, 0, none⟩), v, .int .i64 (k : Int)] W fun e W' => e = .returned (.int .i64 (code.length : Int)) ∧ PgS w0 s g F (code ++ (⟨1, code.length + 1, 0, []⟩ :: ⟨7, 0, 0, []⟩ :: (Mt.compN t (code.length + 2) names).1 ++ [⟨8, 0, 0, []⟩])) (Mt.compN t (code.length + 2) names).2 (max lp (k + 1 + Mt.nst t)) W' ∧ GoF F F W W' := by
 have hv2 := hv
 obtain ⟨op, rs, nm, kids, mn, mx, ra, rc, a, c, rfl, rfl, _, _, _⟩ := hv.open
 clear hv
 generalize hT : NT.node op rs nm kids mn mx = t at *
 obtain ⟨nk, hnk⟩ : ∃ n, kids.length = n := ⟨_, rfl⟩
 obtain ⟨nr, hnr⟩ : ∃ n, rs.length = n := ⟨_, rfl⟩
 rw [hnk, hnr] at hv2 ⊢
 clear hT hnk hnr
 obtain ⟨Wa, hWa⟩ : ∃ Wa, W.alloc (.cells #[.int .i64 op, .slice ra nr rc, .string ⟨nm.toArray⟩, .slice a nk c, .int .i64 mn, .int .i64 mx] 29) = Wa := ⟨_, rfl⟩
 have hba : Below W.heap.size W Wa := by rw [← hWa]; exact (Below.refl _ _).alloc (Nat.le_refl _) _
 have hbx : Wa.heap[W.heap.size]? = some (.cells #[.int .i64 op, .slice ra nr rc, .string ⟨nm.toArray⟩, .slice a nk c, .int .i64 mn, .int .i64 mx] 29 (0, 0)) := by rw [← hWa]; exact Deep.blk_alloc_new W _
 have HP1 := Lib.hid (hp.below hba)
 have HFb : Hid (Fg F W Wa W.heap.size) := Lib.hid (.inr ⟨Nat.le_refl _, heap_lt hbx⟩)
 have HG1 : Hid (GoF F (Fg F W Wa) W Wa) := Lib.hid (GoF.below hba)
 have HBX := Lib.hid hbx
 have HV := Lib.hid hv2
 clear hp hba hbx hv2
 generalize Fg F W Wa = F1 at HP1 HFb HG1
 obtain ⟨b, hb⟩ : ∃ b, code.length = b := ⟨_, rfl⟩
 have HB := Lib.hid hb
 rw [hb] at hl hn ⊢
 clear hb
 go_enter Tryd.func63, Tryd.ntmps63
 go_wp2_with fail
 refine (emit0_any 1 0 0 HP1.out.ps (by rw [HB.out]; omega)).mono ?_
 rintro e W2 ⟨rfl, hp2, hg2⟩
 rw [HB.out]
 obtain ⟨q, cap, m, e1, e2, e3, e4, hput⟩ := hp2.putAt b (b + 1) HB.out (by simp [HB.out]) 1 (.inl rfl)
 have HP2 := Lib.hid (HP1.out.go hg2 hp2)
 have HG2 := Lib.hid (HG1.out.trans hg2)
 have HPUT := Lib.hid (hput (b + 1) ((b : Int) + 1) (by omega))
 have HBX2 := Lib.hid (hg2.blk HFb.out HBX.out)
 have i1 : (b : Int) < (b : Int) + 1 := by omega
 have i2 : (0 : Int) ≤ (b : Int) := by omega
 clear hp2 hg2 hput
 go_wp2_with fail
 go_still_tail 12, (by rfl)
 change wpList _ _ _ _ _ W2.drew
 go_wp2_with fail
 obtain ⟨W3, hW3⟩ : ∃ W3, (W2.setCell ⟨q, b * 4 + 1, none⟩ (.int .i64 ((b : Int) + 1))).drew = W3 := ⟨_, rfl⟩
 rw [hW3]
 have hput := HPUT.out
 rw [hW3] at hput
 have HP3 := Lib.hid (HP2.out.go hput.2 hput.1)
 have HG3 := Lib.hid (HG2.out.trans hput.2)
 have HBX3 := Lib.hid (hput.2.blk HFb.out HBX2.out)
 clear hput hW3 e1 e3 e4
 refine (emit0_any 7 0 0 HP3.out.ps (by simp [HB.out]; omega)).mono ?_
 rintro e W4 ⟨rfl, hp4, hg4⟩
 have HP4 := Lib.hid (HP3.out.go hg4 hp4)
 have HG4 := Lib.hid (HG3.out.trans hg4)
 have HBX4 := Lib.hid (hg4.blk HFb.out HBX3.out)
 clear hp4 hg4
 obtain ⟨b0, b1, b2, b3, b4, b5⟩ := box6 HBX4.out
 obtain ⟨c4, hc4⟩ : ∃ c, code ++ [Mt.up 1 (b + 1) ⟨1, 0, 0, []⟩] ++ [(⟨7, 0, 0, []⟩ : Mt.Ins)] = c := ⟨_, rfl⟩
 have hl4 : c4.length = b + 2 := by rw [← hc4]; simp [HB.out]
 have hp4 := HP4.out
 rw [hc4] at hp4
 have HN := ih _ (k + 1) F1 c4 names lp W4 HV.out hok hp4 (by rw [hl4]; omega) (by rw [hl4]; exact hn) hk
 rw [hl4] at HN
 have HN := Lib.hid HN
 have HP4' := Lib.hid hp4
 have HC4 := Lib.hid hc4
 have HL4 := Lib.hid hl4
 clear hp4 hc4 hl4
 go_wp2_with fail
 refine HN.out.mono ?_
 rintro e W5 ⟨rfl, hp5, hg5⟩
 have HP5 := Lib.hid (HP4'.out.go hg5 hp5)
 have HG5 := Lib.hid (HG4.out.trans hg5)
 clear hp5 hg5
 go_wp2_with fail
 refine (emit0_any 8 0 0 HP5.out.ps (by rw [List.length_append, HL4.out]; omega)).mono ?_
 rintro e W6 ⟨rfl, hp6, hg6⟩
 have HP6 := Lib.hid hp6
 have HG6 := Lib.hid (HG5.out.trans hg6)
 clear hp6 hg6
 go_wp2_with fail
 go_ret
 refine ⟨rfl, ?_, HG6.out.same⟩
 have h := HP6.out
 rw [← HC4.out] at h
 have e : code ++ [Mt.up 1 (b + 1) ⟨1, 0, 0, []⟩] ++ [(⟨7, 0, 0, []⟩ : Mt.Ins)] ++ (Mt.compN t (b + 2) names).1 ++ [⟨8, 0, 0, []⟩] = code ++ (⟨1, b + 1, 0, []⟩ :: ⟨7, 0, 0, []⟩ :: (Mt.compN t (b + 2) names).1 ++ [⟨8, 0, 0, []⟩]) := by simp [Mt.up, Mt.upX]
 rw [e] at h
 exact h.weak HG1.out.mono
end Go.Proofs.YtihdnlpelfgklaaDoor
namespace Go.Proofs.YtihdnlpelfgklaaDoor
open Go.RowKit
def CapAt (w0 : World) (s : List UInt8) (g : Nat) (t : NT) : Prop := ∀ (v : Value) (F : Nat → Prop) (code : List Mt.Ins) (names : List (List UInt8)) (lp : Nat) (W : World), NAt w0 t v → Pre w0 s g F code names lp W → (Mt.capsN t names).length ≤ 100000 →
 Calls Tryd.prog 62 #[.pointer (some ⟨g, 0, none⟩), v] W fun e W' => e = .returned (.tuple #[]) ∧ PgS w0 s g F code (Mt.capsN t names) lp W' ∧ GoF F F W W'
set_option maxHeartbeats 8000000 in
set_option maxRecDepth 1000000 in
theorem caps_step (w0 : World) (s : List UInt8) (g : Nat) (N : Nat) (ih : ∀ t : NT, SizeOf.sizeOf t < N → CapAt w0 s g t) (t : NT) (ht : SizeOf.sizeOf t < N + 1) : CapAt w0 s g t := by
 intro v F code names lp W hv hp hn
 obtain ⟨op, rs, nm, kids, mn, mx, ra, rc, a, c, rfl, rfl, _, hkl, hk⟩ := hv.open
 have HIH : Hid (∀ i (h : i < kids.length), CapAt w0 s g kids[i]) := Lib.hid fun i h => ih _ (by have := kid_lt (op := op) (rs := rs) (nm := nm) (mn := mn) (mx := mx) i h; omega)
 rw [Mt.capsN] at hn ⊢
 clear hv ih ht
 obtain ⟨nr, hnr⟩ : ∃ n, rs.length = n := ⟨_, rfl⟩
 rw [hnr] at *
 clear hnr
 have HK := Lib.hid hk
 obtain ⟨nk, hnk⟩ : ∃ n, kids.length = n := ⟨_, rfl⟩
 have HNK := Lib.hid hnk
 rw [hnk] at hkl ⊢
 clear hk hnk
 obtain ⟨Wa, hWa⟩ : ∃ Wa, W.alloc (.cells #[.int .i64 op, .slice ra nr rc, .string ⟨nm.toArray⟩, .slice a nk c, .int .i64 mn, .int .i64 mx] 29) = Wa := ⟨_, rfl⟩
 have hba : Below W.heap.size W Wa := by rw [← hWa]; exact (Below.refl _ _).alloc (Nat.le_refl _) _
 have hbx : Wa.heap[W.heap.size]? = some (.cells #[.int .i64 op, .slice ra nr rc, .string ⟨nm.toArray⟩, .slice a nk c, .int .i64 mn, .int .i64 mx] 29 (0, 0)) := by rw [← hWa]; exact Deep.blk_alloc_new W _
 have HP1 := Lib.hid (hp.below hba)
 have HFb : Hid (Fg F W Wa W.heap.size) := Lib.hid (.inr ⟨Nat.le_refl _, heap_lt hbx⟩)
 have HG1 : Hid (GoF F (Fg F W Wa) W Wa) := Lib.hid (GoF.below hba)
 have HBX := Lib.hid hbx
 clear hp hba hbx
 generalize Fg F W Wa = F1 at HP1 HFb HG1
 have HN := Lib.hid hn
 obtain ⟨b0, b1, b2, b3, b4, b5⟩ := box6 HBX.out
 by_cases o5 : op = 5
 ·subst o5
  rw [if_pos rfl] at hn HN ⊢
  have hc1 : (Mt.capL names nm).length ≤ 100000 := Nat.le_trans (Mt.capsL_le kids _) hn
  have hc0 : names.length ≤ 100000 := Nat.le_trans (Mt.capL_le names nm) hc1
  go_enter Tryd.func62, Tryd.ntmps62
  go_wp2_with fail
  refine (capture_any w0 s g F1 code names lp nm Wa HP1.out.ps hc0).mono ?_
  rintro e W2 ⟨rfl, hp2, hg2⟩
  have HP2 := Lib.hid (HP1.out.go hg2 hp2)
  have HG2 := Lib.hid (HG1.out.trans hg2)
  have HBX2 := Lib.hid (hg2.blk HFb.out HBX.out)
  clear hp2 hg2
  obtain ⟨b0', b1', b2', b3', b4', b5'⟩ := box6 HBX2.out
  go_wp2_with fail
  go_loopw [16] (fun i wr => ∃ (j : Nat) (ns1 : List (List UInt8)), i = .int .i64 (j : Int) ∧ j ≤ nk ∧ Hid (Mt.capsL kids (Mt.capL names nm) = Mt.capsL (kids.drop j) ns1) ∧ Hid (Pre w0 s g F1 code ns1 lp wr) ∧ Hid (GoF F F1 W wr)) (fun i _ => nk - (intOf i).toNat)
  case atStart => exact ⟨0, Mt.capL names nm, rfl, by omega, Lib.hid (by rw [List.drop_zero]), HP2, HG2⟩
  case round =>
   obtain ⟨j, ns1, rfl, hj, HE, HPj, HGj⟩ := hrel
   by_cases hlt : j < nk
   ·have hjk : j < kids.length := by rw [HNK.out]; exact hlt
    obtain ⟨blk, off, op', ra', rn', rc', nm', a', n', c', mn', mx', rfl, hl, c0, c1, c2, c3, c4, c5, hT⟩ := HK.out j hjk
    have e0 := (HPj.out.bl.cell (p := ⟨blk, off + j * 6, none⟩) hl).trans c0
    have e1 := (HPj.out.bl.cell (p := ⟨blk, off + j * 6 + 1, none⟩) hl).trans c1
    have e2 := (HPj.out.bl.cell (p := ⟨blk, off + j * 6 + 2, none⟩) hl).trans c2
    have e3 := (HPj.out.bl.cell (p := ⟨blk, off + j * 6 + 3, none⟩) hl).trans c3
    have e4 := (HPj.out.bl.cell (p := ⟨blk, off + j * 6 + 4, none⟩) hl).trans c4
    have e5 := (HPj.out.bl.cell (p := ⟨blk, off + j * 6 + 5, none⟩) hl).trans c5
    have hlw : blk < wr.heap.size := Nat.lt_of_lt_of_le hl HPj.out.bl.size
    have i1 : (j : Int) < (nk : Int) := by omega
    obtain ⟨Wb, hWb⟩ : ∃ Wb, wr.alloc (.cells #[.int .i64 op', .slice ra' rn' rc', .string ⟨nm'.toArray⟩, .slice a' n' c', .int .i64 mn', .int .i64 mx'] 29) = Wb := ⟨_, rfl⟩
    have hbb : Below wr.heap.size wr Wb := by rw [← hWb]; exact (Below.refl _ _).alloc (Nat.le_refl _) _
    have hbx : Wb.heap[wr.heap.size]? = some (.cells #[.int .i64 op', .slice ra' rn' rc', .string ⟨nm'.toArray⟩, .slice a' n' c', .int .i64 mn', .int .i64 mx'] 29 (0, 0)) := by rw [← hWb]; exact Deep.blk_alloc_new wr _
    have hstep : Mt.capsL (kids.drop j) ns1 = Mt.capsL (kids.drop (j + 1)) (Mt.capsN kids[j] ns1) := by rw [List.drop_eq_getElem_cons hjk, Mt.capsL]
    have hle : (Mt.capsN kids[j] ns1).length ≤ 100000 := Nat.le_trans (Mt.capsL_le (kids.drop (j + 1)) _) (by rw [← hstep, ← HE.out]; exact HN.out)
    have HT := Lib.hid (HIH.out j hjk _ (Fg F1 wr Wb) code ns1 lp Wb hT (HPj.out.below hbb) hle)
    have HBB := Lib.hid hbb
    have HE2 := Lib.hid (HE.out.trans hstep)
    obtain ⟨q0, q1, q2, q3, q4, q5⟩ := box6 hbx
    clear c0 c1 c2 c3 c4 c5 hT hbb hbx hstep hle
    go_wp2_with fail
    refine HT.out.mono ?_
    rintro e W3 ⟨rfl, hp3, hg3⟩
    have HG3 : Hid (GoF F1 F1 wr W3) := Lib.hid ((GoF.below HBB.out).trans hg3).same
    have HP3 := Lib.hid (HPj.out.go HG3.out (hp3.weak fun _ h => .inl h))
    clear hp3 hg3
    go_wp2_with fail
    go_roundw
    case rel => exact ⟨j + 1, _, by go_num, by omega, HE2, HP3, Lib.hid (HGj.out.trans HG3.out)⟩
    case measure => simp [intOf]; omega
   ·have hend : Mt.capsL kids (Mt.capL names nm) = ns1 := by rw [HE.out, List.drop_eq_nil_of_le (by rw [HNK.out]; omega), Mt.capsL]
    go_wp2_with fail
    go_end0
    exact ⟨rfl, by rw [hend]; exact HPj.out.ps.weak HG1.out.mono, HGj.out.same⟩
 ·rw [if_neg o5] at hn HN ⊢
  have hz : (op == 5) = false := by rw [beq_eq_false_iff_ne]; exact o5
  go_enter Tryd.func62, Tryd.ntmps62
  go_wp2_with fail
  go_loopw [16] (fun i wr => ∃ (j : Nat) (ns1 : List (List UInt8)), i = .int .i64 (j : Int) ∧ j ≤ nk ∧ Hid (Mt.capsL kids (names) = Mt.capsL (kids.drop j) ns1) ∧ Hid (Pre w0 s g F1 code ns1 lp wr) ∧ Hid (GoF F F1 W wr)) (fun i _ => nk - (intOf i).toNat)
  case atStart => exact ⟨0, names, rfl, by omega, Lib.hid (by rw [List.drop_zero]), HP1, HG1⟩
  case round =>
   obtain ⟨j, ns1, rfl, hj, HE, HPj, HGj⟩ := hrel
   by_cases hlt : j < nk
   ·have hjk : j < kids.length := by rw [HNK.out]; exact hlt
    obtain ⟨blk, off, op', ra', rn', rc', nm', a', n', c', mn', mx', rfl, hl, c0, c1, c2, c3, c4, c5, hT⟩ := HK.out j hjk
    have e0 := (HPj.out.bl.cell (p := ⟨blk, off + j * 6, none⟩) hl).trans c0
    have e1 := (HPj.out.bl.cell (p := ⟨blk, off + j * 6 + 1, none⟩) hl).trans c1
    have e2 := (HPj.out.bl.cell (p := ⟨blk, off + j * 6 + 2, none⟩) hl).trans c2
    have e3 := (HPj.out.bl.cell (p := ⟨blk, off + j * 6 + 3, none⟩) hl).trans c3
    have e4 := (HPj.out.bl.cell (p := ⟨blk, off + j * 6 + 4, none⟩) hl).trans c4
    have e5 := (HPj.out.bl.cell (p := ⟨blk, off + j * 6 + 5, none⟩) hl).trans c5
    have hlw : blk < wr.heap.size := Nat.lt_of_lt_of_le hl HPj.out.bl.size
    have i1 : (j : Int) < (nk : Int) := by omega
    obtain ⟨Wb, hWb⟩ : ∃ Wb, wr.alloc (.cells #[.int .i64 op', .slice ra' rn' rc', .string ⟨nm'.toArray⟩, .slice a' n' c', .int .i64 mn', .int .i64 mx'] 29) = Wb := ⟨_, rfl⟩
    have hbb : Below wr.heap.size wr Wb := by rw [← hWb]; exact (Below.refl _ _).alloc (Nat.le_refl _) _
    have hbx : Wb.heap[wr.heap.size]? = some (.cells #[.int .i64 op', .slice ra' rn' rc', .string ⟨nm'.toArray⟩, .slice a' n' c', .int .i64 mn', .int .i64 mx'] 29 (0, 0)) := by rw [← hWb]; exact Deep.blk_alloc_new wr _
    have hstep : Mt.capsL (kids.drop j) ns1 = Mt.capsL (kids.drop (j + 1)) (Mt.capsN kids[j] ns1) := by rw [List.drop_eq_getElem_cons hjk, Mt.capsL]
    have hle : (Mt.capsN kids[j] ns1).length ≤ 100000 := Nat.le_trans (Mt.capsL_le (kids.drop (j + 1)) _) (by rw [← hstep, ← HE.out]; exact HN.out)
    have HT := Lib.hid (HIH.out j hjk _ (Fg F1 wr Wb) code ns1 lp Wb hT (HPj.out.below hbb) hle)
    have HBB := Lib.hid hbb
    have HE2 := Lib.hid (HE.out.trans hstep)
    obtain ⟨q0, q1, q2, q3, q4, q5⟩ := box6 hbx
    clear c0 c1 c2 c3 c4 c5 hT hbb hbx hstep hle
    go_wp2_with fail
    refine HT.out.mono ?_
    rintro e W3 ⟨rfl, hp3, hg3⟩
    have HG3 : Hid (GoF F1 F1 wr W3) := Lib.hid ((GoF.below HBB.out).trans hg3).same
    have HP3 := Lib.hid (HPj.out.go HG3.out (hp3.weak fun _ h => .inl h))
    clear hp3 hg3
    go_wp2_with fail
    go_roundw
    case rel => exact ⟨j + 1, _, by go_num, by omega, HE2, HP3, Lib.hid (HGj.out.trans HG3.out)⟩
    case measure => simp [intOf]; omega
   ·have hend : Mt.capsL kids (names) = ns1 := by rw [HE.out, List.drop_eq_nil_of_le (by rw [HNK.out]; omega), Mt.capsL]
    go_wp2_with fail
    go_end0
    exact ⟨rfl, by rw [hend]; exact HPj.out.ps.weak HG1.out.mono, HGj.out.same⟩
theorem caps_any (w0 : World) (s : List UInt8) (g : Nat) (t : NT) : CapAt w0 s g t := by
 have h : ∀ N (t : NT), SizeOf.sizeOf t < N → CapAt w0 s g t := by
  intro N
  induction N with
  | zero => intro t h; omega
  | succ N ih => intro t h; exact caps_step w0 s g N ih t h
 exact h (SizeOf.sizeOf t + 1) t (by omega)
end Go.Proofs.YtihdnlpelfgklaaDoor
namespace Go.Proofs.YtihdnlpelfgklaaDoor
open Go.RowKit
theorem GoF.sub {F F' : Nat → Prop} {W W' : World} (h : GoF F' F' W W') (hs : ∀ b, F b → F' b) : GoF F F W W' := ⟨⟨h.kp.os, h.kp.tape, h.kp.output, h.kp.size, fun b hb hl => h.kp.block b (hs b hb) hl⟩, fun _ h => h⟩
theorem push_step {w0 : World} {s : List UInt8} {g : Nat} {F : Nat → Prop} {code : List Mt.Ins} {names : List (List UInt8)} {lp : Nat} {W : World} {eds : List Nat} {ev : Value} (hp : PgS w0 s g (Fe F ev) code names lp W) (he : EO W eds ev) (hl : eds.length ≤ 100000) (x : Nat) (hown : ∀ b, ev.ownBlock = some b → ¬ F b) :
  ∃ ev' W' a c, ev' = .slice a (eds.length + 1) c ∧ (Builtin.append_ #[55, 55] 55 #[ev, .slice (some ⟨W.heap.size, 0, none⟩) 1 1]).run Tryd.prog (W.alloc (.cells #[.int .i64 (x : Int)] 3)) = .ok ev' W' ∧ EO W' (eds ++ [x]) ev' ∧ PgS w0 s g (Fe F ev') code names lp W' ∧ GoF F F W W' ∧ (∀ b, ev'.ownBlock = some b → ev.ownBlock = some b ∨ W.heap.size ≤ b) := by
 obtain ⟨ev', W', a, c, h1, h2, h3, h4, h5, h6⟩ := ends_push he hl x
 have hkp := h4 F hown
 refine ⟨ev', W', a, c, h1, h2, h3, hp.keep (fun b hb hn => h5 b hb fun e => hn (.inr e)) (fun b hb => ?_), ⟨hkp, fun _ h => h⟩, h6⟩
 rcases hb with hb | hb
 ·have := hp.bnd b (.inl hb)
  exact ⟨Nat.lt_of_lt_of_le this hkp.size, fun _ => .inl hb⟩
 ·refine ⟨h3.lt hb, fun hl => ?_⟩
  rcases h6 b hb with e | e
  ·exact .inr e
  ·omega
theorem PgS.putK {w0 : World} {s : List UInt8} {g : Nat} {F : Nat → Prop} {code : List Mt.Ins} {names : List (List UInt8)} {lp : Nat} {W : World} (h : PgS w0 s g F code names lp W) {b : Nat} (hb : b < code.length) (j : Nat) (hj : j = 1 ∨ j = 2) :
  ∃ q cap m, W.cell? ⟨g, 0, none⟩ = some (.slice (some ⟨q, 0, none⟩) code.length cap) ∧ W.cell? ⟨q, b * 4 + j, none⟩ = some (.int .i64 ((m : Nat) : Int)) ∧ W.frozen? ⟨q, b * 4 + j, none⟩ = false ∧ ∀ (v : Nat) (z : Int), z = (v : Int) → PgS w0 s g F (code.modify b (Mt.up j v)) names lp (W.setCell ⟨q, b * 4 + j, none⟩ (.int .i64 z)).drew ∧ GoF F F W (W.setCell ⟨q, b * 4 + j, none⟩ (.int .i64 z)).drew := by
 obtain ⟨q, cap, hq⟩ := h.put hb j hj
 obtain ⟨m, hm⟩ := hq.cell
 refine ⟨q, cap, m, hq.c0, hm, hq.soft, fun v z hz => ?_⟩
 subst hz
 exact hq.done v
namespace Mt
theorem rept_times (t : NT) (mn mx : Int) (b : Nat) (ns : List Nm) : (times (compN t) mn.toNat b ns).1.length ≤ (rept (compN t) mn mx b ns).1.length ∧ (times (compN t) mn.toNat b ns).2.length ≤ (rept (compN t) mn mx b ns).2.length := by
 unfold rept
 split
 ·refine ⟨by simp, ?_⟩
  show _ ≤ (compN t _ _).2.length
  rw [compN_names]
  exact nsN_le t _
 ·refine ⟨by simp, ?_⟩
  show _ ≤ (opts _ 0 _ _ _).2.length
  rw [opts_names (s := []) (L := 0) (q := nst t) (D := denN [] t) (fn := nsN t) (compN_sem [] 0 t)]
  have h : ∀ n (ns : List Nm), ns.length ≤ (timesN (nsN t) n ns).length := by
   intro n
   induction n with
   | zero => intro ns; exact Nat.le_refl _
   | succ n ih => intro ns; exact Nat.le_trans (nsN_le t ns) (ih _)
  exact h _ _
end Mt
end Go.Proofs.YtihdnlpelfgklaaDoor

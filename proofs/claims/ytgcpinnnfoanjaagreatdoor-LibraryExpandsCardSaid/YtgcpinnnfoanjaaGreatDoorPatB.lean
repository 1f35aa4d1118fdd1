/-
  Size of the reference.
-/
import Derived.Test.YtgcpinnnfoanjaaGreatDoorPatA
namespace Go.Proofs.YtgcpinnnfoanjaaGreatDoor
open Go.RowKit

mutual
def cN : NT → Nat → Nat
  | .node _ _ _ ks _ _, n => cNs (n + 1) ks
def cNs : Nat → List NT → Nat
  | n, [] => n
  | n, k :: ks => if n ≤ 400 then cNs (cN k n) ks else n
end
theorem cNs_big {n : Nat} (h : 400 < n) (ks : List NT) : cNs n ks = n := by
  cases ks with
  | nil => rw [cNs]
  | cons k ks => rw [cNs, if_neg (by omega)]
theorem cNs_step {kids : List NT} {k : Nat} (h : k < kids.length) (n : Nat) : cNs n (kids.drop k) = if n ≤ 400 then cNs (cN kids[k] n) (kids.drop (k + 1)) else n := by
  rw [List.drop_eq_getElem_cons h, cNs]
theorem nSzs_ge (ks : List NT) : ∀ n, n ≤ nSzs n ks := by
  induction ks with
  | nil => intro n; rw [nSzs]; exact Nat.le_refl _
  | cons k ks ih =>
    intro n
    rw [nSzs]
    split
    · exact Nat.le_refl _
    · have := ih (n + nSz k); omega
theorem cN_eq (N : Nat) : ∀ t : NT, SizeOf.sizeOf t < N → ∀ n, n ≤ 400 → cN t n = min (n + nSz t) 401 := by
  induction N with
  | zero => intro t h; omega
  | succ N ih =>
    intro t h n hn
    obtain ⟨op, rs, nm, kids, mn, mx⟩ := t
    rw [cN, nSz]
    have key : ∀ ks : List NT, (∀ k ∈ ks, SizeOf.sizeOf k < N) → ∀ m, n + m ≤ 401 → cNs (n + m) ks = min (n + nSzs m ks) 401 := by
      intro ks
      induction ks with
      | nil => intro _ m hm; rw [cNs, nSzs]; omega
      | cons k ks ihk =>
        intro hk m hm
        rw [cNs, nSzs]
        by_cases c1 : n + m ≤ 400
        · rw [if_pos c1, if_neg (by omega), ih k (hk k (by simp)) (n + m) c1]
          by_cases c2 : n + m + nSz k ≤ 401
          · rw [Nat.min_eq_left c2, show n + m + nSz k = n + (m + nSz k) by omega]
            exact ihk (fun x hx => hk x (List.mem_cons_of_mem _ hx)) _ (by omega)
          · have e61 : min (n + m + nSz k) 401 = 401 := by omega
            rw [e61, cNs_big (show 400 < 401 by decide)]
            have := nSzs_ge ks (m + nSz k)
            omega
        · rw [if_neg c1]
          split
          · omega
          · have := nSzs_ge ks (m + nSz k)
            omega
    have hk : ∀ k ∈ kids, SizeOf.sizeOf k < N := fun k hk => by
      have := List.sizeOf_lt_of_mem hk
      simp at h
      omega
    have := key kids hk 1 (by omega)
    omega
theorem cN_le (t : NT) {n : Nat} (h : n ≤ 400) : cN t n ≤ 401 := by
  rw [cN_eq _ t (Nat.lt_succ_self _) n h]
  omega

end Go.Proofs.YtgcpinnnfoanjaaGreatDoor

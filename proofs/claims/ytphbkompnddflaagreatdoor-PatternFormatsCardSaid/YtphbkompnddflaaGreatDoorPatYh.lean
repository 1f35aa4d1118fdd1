/-
  Parse of the law's text.
-/
import Derived.Test.YtphbkompnddflaaGreatDoorPatYg
namespace Go.Proofs.YtphbkompnddflaaGreatDoor
open Go.RowKit

theorem rngs_skip (f : Nat → Bool) (hi : Nat) (hhi : hi ≤ 256) : ∀ lo, lo ≤ hi → (∀ j, lo ≤ j → j < hi → f j = false) → rngs f lo = rngs f hi := by
  intro lo h1 h2
  obtain ⟨n, hn⟩ : ∃ n, hi - lo = n := ⟨_, rfl⟩
  induction n generalizing lo with
  | zero => rw [show lo = hi by omega]
  | succ n ih => rw [rngs_off f lo (by omega) (h2 lo (Nat.le_refl _) (by omega)), ih (lo + 1) (by omega) (fun j h3 h4 => h2 j (by omega) h4) (by omega)]
theorem runTo_all (f : Nat → Bool) (hi : Nat) (hhi : hi < 256) (hend : hi + 1 < 256 → f (hi + 1) = false) : ∀ lo, lo ≤ hi → (∀ j, lo < j → j ≤ hi → f j = true) → runTo f lo = hi := by
  intro lo h1 h2
  obtain ⟨n, hn⟩ : ∃ n, hi - lo = n := ⟨_, rfl⟩
  induction n generalizing lo with
  | zero => rw [show lo = hi by omega]; exact runTo_off f hi hend
  | succ n ih => rw [← runTo_on f lo (by omega) (h2 (lo + 1) (by omega) (by omega)), ih (lo + 1) (by omega) (fun j h3 h4 => h2 j (by omega) h4) (by omega)]
/-- A set of bytes that lie together has one range. -/
theorem rngs_one (f : Nat → Bool) (lo hi : Nat) (h : lo ≤ hi) (h2 : hi < 256) (hf : ∀ j, j < 256 → (f j = true ↔ lo ≤ j ∧ j ≤ hi)) : rngs f 0 = [(UInt8.ofNat lo, UInt8.ofNat hi)] := by
  have hno : ∀ j, j < 256 → ¬ (lo ≤ j ∧ j ≤ hi) → f j = false := fun j hj hn => by cases hh : f j with | false => rfl | true => exact absurd ((hf j hj).1 hh) hn
  rw [rngs_skip f lo (by omega) 0 (Nat.zero_le _) (fun j _ hj => hno j (by omega) (by omega)), rngs_on f lo (by omega) ((hf lo (by omega)).2 ⟨Nat.le_refl _, h⟩),
    runTo_all f hi h2 (fun h3 => hno _ h3 (by omega)) lo h (fun j h3 h4 => (hf j (by omega)).2 ⟨by omega, h4⟩), rngs_skip f 256 (Nat.le_refl _) (hi + 1) (by omega) (fun j h3 h4 => hno j h4 (by omega))]
  rw [rngs, dif_neg (by omega)]

/-- The law's text: (n:\d+)ms -/
def awS : List UInt8 := [40, 110, 58, 92, 100, 43, 41, 109, 115]
def awD : NT := .node 1 [(48, 57)] [] [] 0 0
def awT : NT := .node 2 [] [] [.node 5 [] [110] [.node 4 [] [] [awD] 1 (-1)] 0 0, .node 1 [(109, 109)] [] [] 0 0, .node 1 [(115, 115)] [] [] 0 0] 0 0
theorem rngs_d : rngs Asc.isDigit 0 = [(48, 57)] := rngs_one _ 48 57 (by omega) (by omega) (fun j _ => by unfold Asc.isDigit; simp)
theorem rngs_c (c : UInt8) : rngs (spanF c.toNat (c.toNat + 1)) 0 = [(c, c)] := by
  have := UInt8.toNat_lt c
  rw [rngs_one _ c.toNat c.toNat (Nat.le_refl _) this (fun j _ => by unfold spanF; simp; omega)]
  simp
theorem aw_at : Asc.at_ awS 0 = 40 ∧ Asc.at_ awS 3 = 92 ∧ Asc.at_ awS 4 = 100 ∧ Asc.at_ awS 5 = 43 ∧ Asc.at_ awS 6 = 41 ∧ Asc.at_ awS 7 = 109 ∧ Asc.at_ awS 8 = 115 ∧ Asc.at_ awS 9 = 999 := by decide
theorem aw_choice (b : Nat) : RdC 29 b awS 0 awT 9 := by
  obtain ⟨a0, a3, a4, a5, a6, a7, a8, a9⟩ := aw_at
  have d := atom_digit b awS 3 a3 a4
  rw [rngs_d] at d
  have r3 := rep_plus b awS 3 _ 5 d a5
  have c3 := concat_any b awS 3 [_] 6 (.cons 3 6 6 92 _ [] a3 (by decide) (by decide) (by decide) r3 (.nil 6)) (.inr (.inr a6)) (by simp)
  have h3 := choice_any b awS 3 6 _ [] 6 c3 (.nil 6) (by rw [a6]; decide) (by simp)
  have g1 := group_named b awS 1 1 _ 6 (by decide) (by decide) (by decide) h3 a6 110 [] (by decide)
  have r0 := rep_none b awS 0 _ 7 (atom_group b awS 0 _ 7 a0 g1) (fun d hd => by rw [a7]; omega)
  have m7 := atom_plain b awS 7 109 (by rw [a7]; decide) (by decide) (by decide) (by decide)
  rw [rngs_c] at m7
  have r7 := rep_none b awS 7 _ 8 m7 (fun d hd => by rw [a8]; omega)
  have s8 := atom_plain b awS 8 115 (by rw [a8]; decide) (by decide) (by decide) (by decide)
  rw [rngs_c] at s8
  have r8 := rep_none b awS 8 _ 9 s8 (fun d hd => by rw [a9]; omega)
  have c0 := concat_any b awS 0 [_, _, _] 9 (.cons 0 7 9 40 _ _ a0 (by decide) (by decide) (by decide) r0 (.cons 7 8 9 109 _ _ a7 (by decide) (by decide) (by decide) r7 (.cons 8 9 9 115 _ [] a8 (by decide) (by decide) (by decide) r8 (.nil 9)))) (.inl (by decide)) (by simp)
  exact choice_any b awS 0 9 _ [] 9 c0 (.nil 9) (by rw [a9]; decide) (by simp)
theorem aw_ck : ckE awT = 0 := by
  have hs : ∀ (x y : UInt8), x.toNat ≤ y.toNat → srtB [(x, y)] = true := fun x y h => srtB_yes ⟨by simp, fun i hi => by
    obtain rfl : i = 0 := by simpa using hi
    unfold okR
    simp
    exact h⟩
  have hn : nmB [110] = true := nmB_yes ⟨by decide, by decide, by decide, by decide⟩
  have hck : ckN awT 0 0 [] = (6, [[110]], 0) := by
    unfold awT awD
    simp [ckN, ckNs, shE, shpB, badR, hs, hn]
  exact (ckE_of hck).2.2.2 rfl (by
    rintro ⟨i, hi, hm⟩
    obtain rfl : i = 0 := by simpa using hi
    simp at hm) (by simp)
theorem awake_any (w : World) (hk : Kinds w) : Calls Tryz.prog 14 #[.string ⟨#[40, 110, 58, 92, 100, 43, 41, 109, 115]⟩] w fun e w' => ∃ v, e = .returned (.tuple #[v, .int .i64 9, .int .i64 0]) ∧ NG (fun k => w.heap.size ≤ k) w' awT v ∧ Below w.heap.size w w' :=
  parse_ok awS awT (by decide) (fun b _ => aw_choice b) aw_ck w hk
end Go.Proofs.YtphbkompnddflaaGreatDoor

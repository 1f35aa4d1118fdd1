/-
  The decoder, plainly: an object that is followed by closing braces; an object within objects; fields with a name ahead.
-/
import Derived.Test.YtfdbjgdafolbmaaDoorJsK
namespace Go.Proofs.YtfdbjgdafolbmaaDoor
open Go.RowKit Go.Sort Go.Shelf
namespace Js

/-- Closing braces. -/
def br (k : Nat) : List UInt8 := List.replicate k 125
theorem br_mem {k : Nat} {c : UInt8} (h : c ∈ br k) : c = 125 := (List.mem_replicate.1 h).2
theorem br_zero : br 0 = [] := rfl
theorem br_succ (k : Nat) : br (k + 1) = 125 :: br k := rfl
def app (t : List UInt8) (x : List UInt8 × List UInt8) : List UInt8 × List UInt8 := (x.1, x.2 ++ t)
theorem sp125 : sp 125 = false := by decide
theorem blk_br (k : Nat) : blk (br k) = br k := by
  cases k with
  | zero => rfl
  | succ k => rw [br_succ, blk_no sp125]
theorem blk_app {r q : List UInt8} {c : UInt8} (h : blk r = c :: q) (t : List UInt8) : blk (r ++ t) = c :: (q ++ t) := by
  induction r with
  | nil => cases h
  | cons d r ih =>
    cases hs : sp d
    · rw [blk_no hs] at h
      injection h with h1 h2
      subst h1 h2
      rw [List.cons_append, blk_no hs]
    · rw [blk_sp hs] at h
      rw [List.cons_append, blk_sp hs, ih h]
theorem blk_end {r : List UInt8} (h : blk r = []) (t : List UInt8) : blk (r ++ t) = blk t := by
  induction r with
  | nil => rfl
  | cons d r ih =>
    cases hs : sp d
    · rw [blk_no hs] at h; cases h
    · rw [blk_sp hs] at h
      rw [List.cons_append, blk_sp hs, ih h]
theorem exp_br (c : UInt8) (hc : c ≠ 125) (r : List UInt8) (k : Nat) : exp c (r ++ br k) = (exp c r).map (· ++ br k) := by
  unfold exp
  cases h : blk r with
  | nil =>
    rw [blk_end h, blk_br]
    cases k with
    | zero => rfl
    | succ k => rw [br_succ, if_neg (by simp; exact fun e => hc e.symm)]; rfl
  | cons d q =>
    rw [blk_app h]
    by_cases hd : d = c
    · subst hd; simp
    · rw [if_neg (by simpa using hd), if_neg (by simpa using hd)]; rfl
theorem txtL_brs (k : Nat) (acc : List UInt8) : txtL (br k) acc = none := by
  induction k generalizing acc with
  | zero => rfl
  | succ k ih => rw [br_succ, txtL_o (by decide) (by decide) (by decide), ih]
theorem txtL_br (k : Nat) : ∀ (n : Nat) (r acc : List UInt8), r.length ≤ n → txtL (r ++ br k) acc = (txtL r acc).map (app (br k)) := by
  intro n
  induction n with
  | zero =>
    intro r acc hn
    obtain rfl : r = [] := List.length_eq_zero_iff.1 (by omega)
    rw [List.nil_append, txtL_brs]; rfl
  | succ n ih =>
    intro r acc hn
    cases r with
    | nil => rw [List.nil_append, txtL_brs]; rfl
    | cons c r =>
      rw [List.cons_append]
      by_cases h32 : c.toNat < 32
      · rw [txtL_low h32, txtL_low h32]; rfl
      · by_cases h34 : c = 34
        · subst h34; rw [txtL_q, txtL_q]; rfl
        · by_cases h92 : c = 92
          · subst h92
            cases r with
            | nil =>
              rw [txtL_bn (r := []) (fun _ _ h => by cases h), List.nil_append, txtL_bn]
              · rfl
              · intro d q e
                have : d ∈ br k := by rw [e]; simp
                rw [br_mem this]; decide
            | cons d r =>
              cases hu : unesc d with
              | none =>
                rw [txtL_bn (r := d :: r) (fun d' q e => by injection e with e1 e2; rw [← e1]; exact hu), List.cons_append, txtL_bn (fun d' q e => by injection e with e1 e2; rw [← e1]; exact hu)]
                rfl
              | some y => rw [List.cons_append, txtL_b hu, txtL_b hu, ih r _ (by simp at hn; omega)]
          · rw [txtL_o h32 h34 h92, txtL_o h32 h34 h92, ih r _ (by simp at hn; omega)]
theorem txt_br (r : List UInt8) (k : Nat) : txt (r ++ br k) = (txt r).map (app (br k)) := by
  unfold txt
  rw [exp_br 34 (by decide)]
  cases exp 34 r with
  | none => rfl
  | some q => exact txtL_br k q.length q [] (Nat.le_refl _)
theorem tw_br (u : List UInt8) (k : Nat) : (u ++ br k).takeWhile dg = u.takeWhile dg ∧ (u ++ br k).dropWhile dg = u.dropWhile dg ++ br k := by
  induction u with
  | nil =>
    cases k with
    | zero => exact ⟨rfl, rfl⟩
    | succ k => exact tw_stop (c := 125) (by decide)
  | cons c u ih =>
    cases h : dg c
    · rw [List.cons_append, (tw_stop h).1, (tw_stop h).2, (tw_stop h).1, (tw_stop h).2]; exact ⟨rfl, rfl⟩
    · rw [List.cons_append, (tw_cons h).1, (tw_cons h).2, (tw_cons h).1, (tw_cons h).2, ih.1, ih.2]; exact ⟨rfl, rfl⟩
theorem num_br (c : UInt8) (r : List UInt8) (k : Nat) : num (c :: r ++ br k) = (num (c :: r)).map (app (br k)) := by
  have hs : sgn (c :: r ++ br k) = sgn (c :: r) := rfl
  have hu : unsgn (c :: r ++ br k) = unsgn (c :: r) ++ br k := by
    unfold unsgn
    by_cases h : c = 45
    · subst h; rfl
    · rw [if_neg (by simpa using h), if_neg (by simpa using h)]
  unfold num
  rw [hs, hu, (tw_br _ k).1, (tw_br _ k).2]
  cases e : unsgn (c :: r) with
  | nil => simp
  | cons d u =>
    have e1 : (d :: u ++ br k).head? = (d :: u).head? := rfl
    rw [e1]
    split <;> rfl
theorem pre_br {p : List UInt8} (hp : 125 ∉ p) (r : List UInt8) (k : Nat) : p.isPrefixOf (r ++ br k) = p.isPrefixOf r := by
  induction p generalizing r with
  | nil => simp
  | cons a p ih =>
    cases r with
    | nil =>
      cases k with
      | zero => rfl
      | succ k =>
        have : (a == 125) = false := by rw [beq_eq_false_iff_ne]; intro e; apply hp; rw [e]; simp
        simp [br_succ, List.isPrefixOf, this]
    | cons b r =>
      have := ih (fun h => hp (List.mem_cons_of_mem _ h)) r
      simp only [List.cons_append, List.isPrefixOf, this]
theorem wrd_br (r : List UInt8) (k : Nat) : wrd (r ++ br k) = (wrd r).map (app (br k)) := by
  unfold wrd
  rw [pre_br (by decide), pre_br (by decide), pre_br (by decide)]
  split
  · rename_i h
    have : 4 ≤ r.length := prefix_len h
    simp only [Option.map_some, app]
    rw [List.drop_append_of_le_length this]
  · split
    · rename_i h
      have : 5 ≤ r.length := prefix_len h
      simp only [Option.map_some, app]
      rw [List.drop_append_of_le_length this]
    · split
      · rename_i h
        have : 4 ≤ r.length := prefix_len h
        simp only [Option.map_some, app]
        rw [List.drop_append_of_le_length this]
      · rfl
theorem pick_br (r : List UInt8) (k : Nat) : pick3 (blk (r ++ br k)) = (pick3 (blk r)).map (app (br k)) := by
  cases h : blk r with
  | nil =>
    rw [blk_end h, blk_br]
    cases k with
    | zero => rfl
    | succ k => rfl
  | cons c q =>
    rw [blk_app h]
    have e : c :: (q ++ br k) = (c :: q) ++ br k := rfl
    unfold pick3
    simp only
    split
    · rw [e, txt_br]
    · split
      · rw [e, num_br]
      · rw [e, wrd_br]

def px (p : List UInt8) (x : Fd) : Fd := (p ++ x.1, x.2)
theorem px_nil (d : List Fd) : d.map (px []) = d := by
  have : px [] = id := by funext x; rfl
  rw [this, List.map_id]

end Js
end Go.Proofs.YtfdbjgdafolbmaaDoor

/-
  The decoder: its states; value.
-/
import Derived.Test.YtfdbjgdafolbmaaDoorJsE
namespace Go.Proofs.YtfdbjgdafolbmaaDoor
open Go.RowKit Go.Sort Go.Shelf

namespace Js
inductive State
  | ok (r : List UInt8) (fs : List Fd)
  | er (c : Nat)
def expS (c : UInt8) : State → State
  | .ok r fs => match exp c r with | some q => .ok q fs | none => .er 1
  | .er c => .er c
def blkS : State → State
  | .ok r fs => .ok (blk r) fs
  | .er c => .er c
def optS (fs : List Fd) : Option (List UInt8 × List UInt8) → State
  | some x => .ok x.2 fs
  | none => .er 1
def optV : Option (List UInt8 × List UInt8) → List UInt8
  | some x => x.1
  | none => []
def resS (fs : List Fd) : Res → State
  | .ok r d => .ok r (fs ++ d)
  | .err c => .er c
def valS (ob : List UInt8 → List UInt8 → Res) (nm : List UInt8) : State → State
  | .ok r fs => resS fs (val ob nm r)
  | .er c => .er c
def takB (c : UInt8) : State → Bool
  | .ok r _ => decide (r.head? = some c)
  | .er _ => false
def takS (c : UInt8) : State → State
  | .ok r fs => if r.head? = some c then .ok r.tail fs else .ok r fs
  | .er c => .er c

/-! Lengths. -/
theorem exp_len {c : UInt8} {r q : List UInt8} (h : exp c r = some q) : q.length < r.length := by
  unfold exp at h
  split at h
  · rename_i h1
    injection h with h
    have := blk_len r
    revert h1 h
    cases e : blk r with
    | nil => intro h; cases h
    | cons d t => intro _ h; subst h; rw [e] at this; simp at this ⊢; omega
  · cases h
theorem txtL_len : ∀ (n : Nat) (r acc : List UInt8) (x : List UInt8 × List UInt8), r.length ≤ n → txtL r acc = some x → x.2.length < r.length ∧ x.1.length + x.2.length < acc.length + r.length := by
  intro n
  induction n with
  | zero =>
    intro r acc x hn h
    have : r = [] := List.length_eq_zero_iff.1 (by omega)
    subst this
    simp [txtL] at h
  | succ n ih =>
    intro r acc x hn h
    cases r with
    | nil => simp [txtL] at h
    | cons c r =>
      by_cases h32 : c.toNat < 32
      · rw [txtL_low h32] at h; cases h
      · by_cases h34 : c = 34
        · subst h34
          rw [txtL_q] at h
          injection h with h
          subst h
          simp
        · by_cases h92 : c = 92
          · subst h92
            cases r with
            | nil => rw [txtL_bn (fun _ _ h => by cases h)] at h; cases h
            | cons d r =>
              cases hu : unesc d with
              | none => rw [txtL_bn (fun d' q e => by injection e with e1 e2; rw [← e1]; exact hu)] at h; cases h
              | some y =>
                rw [txtL_b hu] at h
                have := ih r _ x (by simp at hn; omega) h
                simp at this ⊢
                omega
          · rw [txtL_o h32 h34 h92] at h
            have := ih r _ x (by simp at hn; omega) h
            simp at this ⊢
            omega
theorem txt_len {r : List UInt8} {x : List UInt8 × List UInt8} (h : txt r = some x) : x.2.length < r.length ∧ x.1.length + x.2.length < r.length := by
  unfold txt at h
  cases he : exp 34 r with
  | none => rw [he] at h; cases h
  | some q =>
    rw [he] at h
    have h1 := exp_len he
    have h2 := txtL_len q.length q [] x (Nat.le_refl _) h
    simp at h2
    omega
theorem tw_dw_len (l : List UInt8) : (l.takeWhile dg).length + (l.dropWhile dg).length = l.length := by
  have := congrArg List.length (List.takeWhile_append_dropWhile (p := dg) (l := l))
  rw [List.length_append] at this
  exact this
theorem num_len {r : List UInt8} {x : List UInt8 × List UInt8} (h : num r = some x) : x.2.length < r.length ∧ x.1.length + x.2.length ≤ r.length := by
  unfold num at h
  split at h
  · cases h
  · rename_i hn
    injection h with h
    subst h
    have h1 := tw_dw_len (unsgn r)
    have h2 : 0 < ((unsgn r).takeWhile dg).length := by
      rcases Nat.eq_zero_or_pos ((unsgn r).takeWhile dg).length with e | e
      · exact absurd (.inl (List.length_eq_zero_iff.1 e)) hn
      · exact e
    have h3 : (sgn r).length + (unsgn r).length = r.length := by
      unfold sgn unsgn
      split
      · rename_i h45
        revert h45
        cases r with
        | nil => intro h; cases h
        | cons c r => intro _; simp; omega
      · simp
    simp only [List.length_append]
    omega
theorem wrd_len {r : List UInt8} {x : List UInt8 × List UInt8} (h : wrd r = some x) : x.2.length < r.length ∧ x.1.length + x.2.length ≤ r.length := by
  unfold wrd at h
  split at h
  · rename_i hp
    have := prefix_len hp
    injection h with h
    subst h
    simp [tru] at this ⊢
    omega
  · split at h
    · rename_i hp
      have := prefix_len hp
      injection h with h
      subst h
      simp [fal] at this ⊢
      omega
    · split at h
      · rename_i hp
        have := prefix_len hp
        injection h with h
        subst h
        simp [nul] at this ⊢
        omega
      · cases h
end Js

/-- The decoder in a state; b: how many fields more than bytes a failed one may have. -/
def St (w0 : World) (g : Nat) (s : List UInt8) (b : Nat) (x : Js.State) (W : World) : Prop :=
  match x with
  | .ok r fs => DOK w0 g s r fs W
  | .er c => DER w0 g s (s.length + b) c W
theorem St.more {w0 W : World} {g b b' : Nat} {s : List UInt8} {x : Js.State} (h : St w0 g s b x W) (hb : b ≤ b') : St w0 g s b' x W := by
  cases x with
  | ok r fs => exact h
  | er c =>
    obtain ⟨hc, k, fs, hk, hd, hl⟩ := h
    exact ⟨hc, k, fs, hk, hd, by omega⟩
theorem st_txt {w0 W : World} {g : Nat} {s : List UInt8} {fs : List Fd} {res : Option (List UInt8 × List UInt8)} {e : Ending} (h : TxtPost w0 g s fs res e W) : e = .returned (.string ⟨(Js.optV res).toArray⟩) ∧ St w0 g s 0 (Js.optS fs res) W := by
  cases res with
  | some x => exact h
  | none => exact h
theorem blanksS {w0 W : World} {g b : Nat} {s : List UInt8} {x : Js.State} (h : St w0 g s b x W) (hs : s.length ≤ 1000) :
    Calls Tryd.prog 33 #[.pointer (some ⟨g, 0, none⟩)] W fun e w' => e = .returned (.tuple #[]) ∧ St w0 g s b (Js.blkS x) w' := by
  cases x with
  | ok r fs => exact blanksOK h hs
  | er c => exact blanksER h hs
theorem expectS {w0 W : World} {g b : Nat} {s : List UInt8} {x : Js.State} {c : UInt8} (h : St w0 g s b x W) (hs : s.length ≤ 1000) :
    Calls Tryd.prog 50 #[.pointer (some ⟨g, 0, none⟩), .string ⟨#[c]⟩] W fun e w' => e = .returned (.tuple #[]) ∧ St w0 g s b (Js.expS c x) w' := by
  cases x with
  | ok r fs =>
    show Calls _ _ _ _ fun e w' => e = .returned (.tuple #[]) ∧ St w0 g s b (match Js.exp c r with | some q => .ok q fs | none => .er 1) w'
    cases he : Js.exp c r with
    | some q => exact expect_yes h hs he
    | none => exact (expect_no h hs he).mono fun _ _ ⟨h1, hc, k, fs, hk, hd, hl⟩ => ⟨h1, hc, k, fs, hk, hd, by omega⟩
  | er j => exact expectER h hs
theorem takesS {w0 W : World} {g b : Nat} {s : List UInt8} {x : Js.State} {c : UInt8} (h : St w0 g s b x W) (hs : s.length ≤ 1000) :
    Calls Tryd.prog 51 #[.pointer (some ⟨g, 0, none⟩), .string ⟨#[c]⟩] W fun e w' => e = .returned (.bool (Js.takB c x)) ∧ St w0 g s b (Js.takS c x) w' := by
  cases x with
  | ok r fs =>
    show Calls _ _ _ _ fun e w' => e = .returned (.bool (decide (r.head? = some c))) ∧ St w0 g s b (if r.head? = some c then .ok r.tail fs else .ok r fs) w'
    by_cases hh : r.head? = some c
    · rw [if_pos hh, decide_eq_true hh]
      revert h hh
      cases r with
      | nil => intro _ h; cases h
      | cons d q => intro h hh; injection hh with hh; subst hh; exact takes_yes h hs
    · rw [if_neg hh, decide_eq_false hh]
      exact takes_no h hh
  | er j => exact takesER h [c]
theorem St.er0 {w0 W : World} {g b : Nat} {s : List UInt8} {x : Js.State} (h : St w0 g s b x W) : ∃ k e fs, k ≤ s.length ∧ DAt w0 g s k e fs W ∧ fs.length ≤ s.length + b ∧ (∀ r d, x = .ok r d → e = 0) ∧ (∀ c, x = .er c → e = c ∧ e ≠ 0) := by
  cases x with
  | ok r fs =>
    obtain ⟨k, hk, hr, hd, hl⟩ := h
    exact ⟨k, 0, fs, hk, hd, by omega, fun _ _ _ => rfl, (fun _ h => by cases h)⟩
  | er c =>
    obtain ⟨hc, k, fs, hk, hd, hl⟩ := h
    exact ⟨k, c, fs, hk, hd, hl, (fun _ _ h => by cases h), (fun _ h => by injection h with h; exact ⟨h, hc⟩)⟩

/-- A field more. -/
theorem DAt.push {w0 W W' : World} {g k e : Nat} {s : List UInt8} {fs : List Fd} {v v' : Value} {o : Obj} (h : DAt w0 g s k e fs W) (x : Fd) (hv : W.ownsRow (g + 1) 30 2 v fs.length (cellsF fs))
    (ho : W'.ownsRow (g + 1) 30 2 v' (fs.length + 1) (cellsF fs ++ encF x)) (hg : (W.alloc o).grownBy W' v.ownBlock) : Below (g + 1) W W' ∧ DAt w0 g s k e (fs ++ [x]) (W'.setCell ⟨g, 3, none⟩ v') := by
  have hb : Below (g + 1) W W' := ((Below.refl _ W).alloc h.hi _).grown hg (by have := h.hi; simp; omega) (fun k hk => (hv.lt k hk).1)
  obtain ⟨u, h1, h2, h3⟩ := h.c3
  have c3 := (hb.cell (p := ⟨g, 3, none⟩) (Nat.lt_succ_self _)).trans h1
  have e1 : cellsF (fs ++ [x]) = cellsF fs ++ encF x := by simp [cellsF]
  refine ⟨hb, ?_, ?_, ?_, ⟨v', World.cell?_setCell_same _ _ _ c3, ?_, fun h => by simp at h⟩, fun i => ?_, h.lo, ?_, (h.below.trans (hb.mono (by have := h.lo; omega))).setCell (p := ⟨g, 3, none⟩) h.lo _, h.k0⟩
  · rw [World.cell?_setCell_other _ _ _ _ (ne_off (by decide))]; exact (hb.cell (p := ⟨g, 0, none⟩) (Nat.lt_succ_self _)).trans h.c0
  · rw [World.cell?_setCell_other _ _ _ _ (ne_off (by decide))]; exact (hb.cell (p := ⟨g, 1, none⟩) (Nat.lt_succ_self _)).trans h.c1
  · rw [World.cell?_setCell_other _ _ _ _ (ne_off (by decide))]; exact (hb.cell (p := ⟨g, 2, none⟩) (Nat.lt_succ_self _)).trans h.c2
  · rw [e1, List.length_append]
    exact own_keep ho fun i hi _ => Below.heap_setCell _ _ _ i (by simp; omega)
  · rw [World.frozen?_setCell]; exact (hb.frozen (p := ⟨g, i, none⟩) (Nat.lt_succ_self _)).trans (h.fz i)
  · have := hb.size
    have := h.hi
    simp
    omega

end Go.Proofs.YtfdbjgdafolbmaaDoor

/-
  What the parser computes, plainly.
-/
import Derived.Test.YtpbdcghiabhliaaDoorPatYh
namespace Go.Proofs.YtpbdcghiabhliaaDoor

/-- An outcome: a result and the place behind it, or the place of the first error and the error. -/
abbrev Out (α : Type) := Except (Nat × Nat) (α × Nat)
def clsT (f : Nat → Bool) : NT := .node 1 (rngs f 0) [] [] 0 0
/-- A byte that stands for itself behind a backslash. -/
def selfE (c : Nat) : Bool := decide (32 ≤ c) && decide (c ≤ 126) && !Asc.isLetter c && !Asc.isDigit c
/-- Behind a backslash. -/
def escM (l : List UInt8) (i : Nat) : Out ((Nat → Bool) × Nat × Bool) :=
  if Asc.at_ l i = 100 then .ok ((Asc.isDigit, 100, false), i + 1)
  else if Asc.at_ l i = 119 then .ok ((Asc.isWord, 119, false), i + 1)
  else if Asc.at_ l i = 115 then .ok ((Asc.isSpace, 115, false), i + 1)
  else if Asc.at_ l i = 110 then .ok ((spanF 10 11, 10, true), i + 1)
  else if Asc.at_ l i = 116 then .ok ((spanF 9 10, 9, true), i + 1)
  else if selfE (Asc.at_ l i) then .ok ((spanF (Asc.at_ l i) (Asc.at_ l i + 1), Asc.at_ l i, true), i + 1)
  else .error (i, 1)
/-- A byte that stands for itself in brackets. -/
def selfI (c : Nat) : Bool := decide (32 ≤ c) && decide (c ≤ 126) && decide (c ≠ 93) && decide (c ≠ 45) && decide (c ≠ 94)
def dws (c : Nat) : Bool := decide (c = 100) || decide (c = 119) || decide (c = 115)
/-- An item in brackets. -/
def itemM (l : List UInt8) (single : Bool) (i : Nat) : Out ((Nat → Bool) × Nat × Bool) :=
  if Asc.at_ l i = 92 then (if single && dws (Asc.at_ l (i + 1)) then .error (i, 1) else escM l (i + 1))
  else if selfI (Asc.at_ l i) then .ok ((spanF (Asc.at_ l i) (Asc.at_ l i + 1), Asc.at_ l i, true), i + 1)
  else .error (i, 1)
/-- The items in brackets. -/
def braL (l : List UInt8) : Nat → Bool → Nat → (Nat → Bool) → Out (Nat → Bool)
  | 0, _, i, _ => .error (i, 0)
  | n + 1, first, i, all =>
    if first = false ∧ Asc.at_ l i = 93 then .ok (all, i)
    else match itemM l false i with
      | .error x => .error x
      | .ok ((s, lo, one), j) =>
        if one = true ∧ Asc.at_ l j = 45 then
          match itemM l true (j + 1) with
          | .error x => .error x
          | .ok ((_, hi, _), k) => if hi < lo then .error (k, 2) else braL l n false k (fun c => all c || spanF lo (hi + 1) c)
        else braL l n false j (fun c => all c || s c)
/-- Behind an opening bracket. -/
def braM (l : List UInt8) (i : Nat) : Out NT :=
  match braL l (l.length + 1) true (if Asc.at_ l i = 94 then i + 1 else i) (fun _ => false) with
  | .error x => .error x
  | .ok (f, j) => .ok (clsT (if Asc.at_ l i = 94 then (fun c => !f c) else f), j + 1)
/-- A bound: one digit or two. -/
def boundM (l : List UInt8) (i : Nat) : Out Nat :=
  if Asc.isDigit (Asc.at_ l i) then
    (if Asc.isDigit (Asc.at_ l (i + 1)) then
      (if 40 < (Asc.at_ l i - 48) * 10 + (Asc.at_ l (i + 1) - 48) then .error (i + 2, 2) else .ok ((Asc.at_ l i - 48) * 10 + (Asc.at_ l (i + 1) - 48), i + 2))
    else .ok (Asc.at_ l i - 48, i + 1))
  else .error (i, 1)
/-- Bounds, up to the closing brace. -/
def boundsM (l : List UInt8) (i : Nat) : Out (Int × Int) :=
  match boundM l i with
  | .error x => .error x
  | .ok (lo, j) =>
    if Asc.at_ l j = 44 then
      (if Asc.at_ l (j + 1) = 125 then .ok (((lo : Int), -1), j + 2)
      else match boundM l (j + 1) with
        | .error x => .error x
        | .ok (hi, k) => if hi < lo then .error (k, 2) else if Asc.at_ l k = 125 then .ok (((lo : Int), (hi : Int)), k + 1) else .error (k, 1))
    else if Asc.at_ l j = 125 then .ok (((lo : Int), (lo : Int)), j + 1) else .error (j, 1)
/-- Where the content of a group begins. -/
def grpI (l : List UInt8) (i : Nat) : Nat := if 0 < capN (l.drop i) then i + capN (l.drop i) + 1 else i
section
variable (ch : Nat → Out NT) (l : List UInt8)
/-- Behind an opening parenthesis. -/
def grpM (i : Nat) : Out NT :=
  match ch (grpI l i) with
  | .error x => .error x
  | .ok (t, j) => if Asc.at_ l j = 41 then .ok (if 0 < capN (l.drop i) then .node 5 [] (Asc.seg l i (i + capN (l.drop i))) [t] 0 0 else t, j + 1) else .error (j, 1)
/-- A byte that stands for itself. -/
def selfA (c : Nat) : Bool := decide (32 ≤ c) && decide (c ≤ 126) && !(spec.map UInt8.toNat).contains c
/-- An atom. -/
def atomM (i : Nat) : Out NT :=
  if Asc.at_ l i = 40 then grpM ch l (i + 1)
  else if Asc.at_ l i = 91 then braM l (i + 1)
  else if Asc.at_ l i = 46 then .ok (clsT (fun c => !spanF 10 11 c), i + 1)
  else if Asc.at_ l i = 94 then .ok (.node 6 [] [] [] 0 0, i + 1)
  else if Asc.at_ l i = 36 then .ok (.node 7 [] [] [] 0 0, i + 1)
  else if Asc.at_ l i = 92 then (match escM l (i + 1) with
    | .error x => .error x
    | .ok ((s, _, _), j) => .ok (clsT s, j))
  else if selfA (Asc.at_ l i) then .ok (clsT (spanF (Asc.at_ l i) (Asc.at_ l i + 1)), i + 1)
  else .error (i, 1)
/-- An atom and what follows it. -/
def repM (i : Nat) : Out NT :=
  match atomM ch l i with
  | .error x => .error x
  | .ok (t, j) =>
    if Asc.at_ l j = 42 then .ok (.node 4 [] [] [t] 0 (-1), j + 1)
    else if Asc.at_ l j = 43 then .ok (.node 4 [] [] [t] 1 (-1), j + 1)
    else if Asc.at_ l j = 63 then .ok (.node 4 [] [] [t] 0 1, j + 1)
    else if Asc.at_ l j = 123 then (match boundsM l (j + 1) with
      | .error x => .error x
      | .ok ((lo, hi), k) => .ok (.node 4 [] [] [t] lo hi, k))
    else .ok (t, j)
/-- A sequence: what is left of it. -/
def catL : Nat → Nat → List NT → Out NT
  | 0, i, _ => .error (i, 0)
  | n + 1, i, ts =>
    if Asc.at_ l i = 999 ∨ Asc.at_ l i = 124 ∨ Asc.at_ l i = 41 then .ok (joinT 2 ts, i)
    else match repM ch l i with
      | .error x => .error x
      | .ok (t, j) => catL n j (ts ++ [t])
def catM (i : Nat) : Out NT := catL ch l (l.length + 1) i []
/-- Alternatives: what is left of them. -/
def altL : Nat → Nat → List NT → Out NT
  | 0, i, _ => .error (i, 0)
  | n + 1, i, ts =>
    if Asc.at_ l i = 124 then (match catM ch l (i + 1) with
      | .error x => .error x
      | .ok (t, j) => altL n j (ts ++ [t]))
    else .ok (joinT 3 ts, i)
def choB (i : Nat) : Out NT :=
  match catM ch l i with
  | .error x => .error x
  | .ok (t, j) => altL ch l (l.length + 1) j [t]
end
/-- Alternatives, d groups deep at most. -/
def choM (l : List UInt8) : Nat → Nat → Out NT
  | 0, i => .error (i, 0)
  | d + 1, i => choB (choM l d) l i

/-- The outcome is this node, this place, this error. -/
def fits {α : Type} (r : Out α) (t : α) (j e : Nat) : Prop := match r with
  | .ok (t', j') => t = t' ∧ j = j' ∧ e = 0
  | .error (k, x) => j = k ∧ e = x ∧ e ≠ 0
theorem fits_cases {α : Type} {r : Out α} {t : α} {j e : Nat} (h : fits r t j e) : (r = .ok (t, j) ∧ e = 0) ∨ (r = .error (j, e) ∧ e ≠ 0) := by
  unfold fits at h
  split at h
  · obtain ⟨rfl, rfl, rfl⟩ := h
    exact .inl ⟨rfl, rfl⟩
  · obtain ⟨rfl, rfl, h⟩ := h
    exact .inr ⟨rfl, h⟩
theorem fits_ok {α : Type} {t : α} {j : Nat} : fits (.ok (t, j)) t j 0 := ⟨rfl, rfl, rfl⟩
theorem fits_err {α : Type} {t : α} {j e : Nat} (h : e ≠ 0) : fits (.error (j, e)) t j e := ⟨rfl, rfl, h⟩
end Go.Proofs.YtpbdcghiabhliaaDoor

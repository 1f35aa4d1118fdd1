/-
  PLAIN MATHEMATICS OF THE DECODER OF OBJECTS: what is read, on the rest of the string; no program in sight.
-/
import Derived.Test.YtfdbjgdafolbmaaDoorParN
namespace Go.Proofs.YtfdbjgdafolbmaaDoor
namespace Js

def sp (c : UInt8) : Bool := Asc.isSpace c.toNat
/-- Blanks struck. -/
def blk (r : List UInt8) : List UInt8 := r.dropWhile sp
/-- The byte c, after blanks. -/
def exp (c : UInt8) (r : List UInt8) : Option (List UInt8) := if (blk r).head? = some c then some (blk r).tail else none
def unesc (c : UInt8) : Option UInt8 := if c = 34 ∨ c = 92 ∨ c = 47 then some c else if c = 110 then some 10 else if c = 116 then some 9 else if c = 114 then some 13 else none
/-- What follows an opening quotation mark. -/
def txtL : List UInt8 → List UInt8 → Option (List UInt8 × List UInt8)
  | [], _ => none
  | [c], acc => if c.toNat < 32 then none else if c = 34 then some (acc, []) else none
  | c :: d :: r, acc => if c.toNat < 32 then none else if c = 34 then some (acc, d :: r) else if c = 92 then (match unesc d with | none => none | some x => txtL r (acc ++ [x])) else txtL (d :: r) (acc ++ [c])
def txt (r : List UInt8) : Option (List UInt8 × List UInt8) := match exp 34 r with | none => none | some r' => txtL r' []
def dg (c : UInt8) : Bool := decide (48 ≤ c.toNat ∧ c.toNat ≤ 57)
def sgn (r : List UInt8) : List UInt8 := if r.head? = some 45 then [45] else []
def unsgn (r : List UInt8) : List UInt8 := if r.head? = some 45 then r.tail else r
def num (r : List UInt8) : Option (List UInt8 × List UInt8) :=
  if (unsgn r).takeWhile dg = [] ∨ ((unsgn r).head? = some 48 ∧ 1 < ((unsgn r).takeWhile dg).length) then none else some (sgn r ++ (unsgn r).takeWhile dg, (unsgn r).dropWhile dg)
def tru : List UInt8 := [116, 114, 117, 101]
def fal : List UInt8 := [102, 97, 108, 115, 101]
def nul : List UInt8 := [110, 117, 108, 108]
def wrd (r : List UInt8) : Option (List UInt8 × List UInt8) :=
  if tru.isPrefixOf r then some (tru, r.drop 4) else if fal.isPrefixOf r then some (fal, r.drop 5) else if nul.isPrefixOf r then some ([], r.drop 4) else none

inductive Res
  | ok (r : List UInt8) (fs : List Fd)
  | err (c : Nat)
def one (nm : List UInt8) : Option (List UInt8 × List UInt8) → Res
  | none => .err 1
  | some x => .ok x.2 [(nm, x.1)]
def val (ob : List UInt8 → List UInt8 → Res) (nm r : List UInt8) : Res :=
  match blk r with
  | [] => .err 1
  | c :: q => if c = 123 then ob (nm ++ [46]) (c :: q) else if c = 34 then one nm (txt (c :: q)) else if c = 45 ∨ dg c = true then one nm (num (c :: q)) else one nm (wrd (c :: q))
def mem (vl : List UInt8 → List UInt8 → Res) (pre : List UInt8) : Nat → List UInt8 → Res
  | 0, _ => .err 1
  | n + 1, r =>
    match txt r with
    | none => .err 1
    | some x =>
      match exp 58 x.2 with
      | none => .err 1
      | some r2 =>
        match vl (pre ++ x.1) r2 with
        | .err c => .err c
        | .ok r3 fs =>
          if (blk r3).head? = some 125 then .ok (blk r3).tail fs else
            match exp 44 r3 with
            | none => .err 1
            | some r4 =>
              match mem vl pre n r4 with
              | .err c => .err c
              | .ok r5 fs2 => .ok r5 (fs ++ fs2)
def obj : Nat → List UInt8 → List UInt8 → Res
  | 0, _, r => if (blk r).head? = some 123 then .err 5 else .err 1
  | m + 1, pre, r =>
    match exp 123 r with
    | none => .err 1
    | some r1 => if (blk r1).head? = some 125 then .ok (blk r1).tail [] else mem (val (obj m)) pre 1000 r1

/-! The rest is a part of what was read. -/
theorem blk_suffix (r : List UInt8) : ∃ u, r = u ++ blk r := ⟨r.takeWhile sp, (List.takeWhile_append_dropWhile).symm⟩
theorem blk_len (r : List UInt8) : (blk r).length ≤ r.length := (List.dropWhile_sublist _).length_le
theorem blk_nil : blk [] = [] := rfl
theorem blk_sp {c : UInt8} {r : List UInt8} (h : sp c = true) : blk (c :: r) = blk r := by unfold blk; rw [List.dropWhile_cons, if_pos h]
theorem blk_no {c : UInt8} {r : List UInt8} (h : sp c = false) : blk (c :: r) = c :: r := by unfold blk; rw [List.dropWhile_cons, if_neg (by simp [h])]
theorem blk_blk (r : List UInt8) : blk (blk r) = blk r := by
  induction r with
  | nil => rfl
  | cons c r ih =>
    cases h : sp c
    · rw [blk_no h, blk_no h]
    · rw [blk_sp h]; exact ih
theorem exp_blk (c : UInt8) (r : List UInt8) : exp c (blk r) = exp c r := by unfold exp; rw [blk_blk]
theorem txt_blk (r : List UInt8) : txt (blk r) = txt r := by unfold txt; rw [exp_blk]
theorem val_blk (ob : List UInt8 → List UInt8 → Res) (nm r : List UInt8) : val ob nm (blk r) = val ob nm r := by unfold val; rw [blk_blk]
theorem mem_blk (vl : List UInt8 → List UInt8 → Res) (pre : List UInt8) (n : Nat) (r : List UInt8) : mem vl pre n (blk r) = mem vl pre n r := by
  cases n with
  | zero => rfl
  | succ n => rw [mem, mem, txt_blk]

end Js
end Go.Proofs.YtfdbjgdafolbmaaDoor

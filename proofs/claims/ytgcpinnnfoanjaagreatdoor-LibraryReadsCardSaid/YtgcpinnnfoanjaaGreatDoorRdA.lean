/-
 Joined: LbM, LbA.
-/
import Derived.Test.YtgcpinnnfoanjaaGreatDoorRdZa
import Derived.Lib.Index
namespace Go.Proofs.YtgcpinnnfoanjaaGreatDoor.Lb
abbrev Def := List UInt8 × List UInt8
def cutPM : List UInt8 → Option (List UInt8 × List UInt8)
 | [] => none
 | c :: t => if c = 37 ∧ t.head? = some 123 then some ([], t.tail) else (cutPM t).map fun x => (c :: x.1, x.2)
def readM (q : List UInt8) : Option (List UInt8 × List UInt8 × Nat) :=
 if nlen q = 0 then none
 else if (q.drop (nlen q)).head? = some 58 then
  if nlen (q.drop (nlen q + 1)) = 0 then none
  else if (q.drop (nlen q + 1 + nlen (q.drop (nlen q + 1)))).head? = some 125 then some (q.take (nlen q), (q.drop (nlen q + 1)).take (nlen (q.drop (nlen q + 1))), nlen q + 1 + nlen (q.drop (nlen q + 1)) + 1) else none
 else if (q.drop (nlen q)).head? = some 125 then some (q.take (nlen q), [], nlen q + 1) else none
structure Ref where
 fr : Nat
 to : Nat
 nm : List UInt8
 fd : List UInt8
def rfs (s : List UInt8) : Nat → Nat → Option (List Ref)
 | 0, _ => none
 | n + 1, at_ => match cutPM (s.drop at_) with
  | none => some []
  | some (p, q) => match readM q with
   | none => none
   | some (nm, fd, k) => (rfs s n (at_ + p.length + 2 + k)).map (⟨at_ + p.length, at_ + p.length + 2 + k, nm, fd⟩ :: ·)
def refsM (s : List UInt8) : Option (List Ref) := rfs s (s.length + 1) 0
def findM (l : List (List UInt8 × List UInt8)) (nm : List UInt8) : Option Nat := l.findIdx? fun d => d.1 = nm
def fldL (fd : List UInt8) : List UInt8 := if fd = [] then [] else fd ++ [58]
abbrev Res := Except Nat (List UInt8)
def expL (l : List (List UInt8 × List UInt8)) (sub : Nat → Res) (b : List Nat) (s : List UInt8) : List Ref → Nat → List UInt8 → Res
 | [], at_, out => if 400 < (out ++ s.drop at_).length then .error 3 else .ok (out ++ s.drop at_)
 | r :: L, at_, out =>
  if 400 < (out ++ (s.drop at_).take (r.fr - at_)).length then .error 3
  else match findM l r.nm with
   | none => .error 6
   | some i => if i ∈ b then .error 8
    else match sub i with
     | .error e => .error e
     | .ok t => expL l sub b s L r.to (out ++ (s.drop at_).take (r.fr - at_) ++ 40 :: (fldL r.fd ++ t ++ [41]))
def srcOf (l : List (List UInt8 × List UInt8)) (i : Nat) : List UInt8 := ((l[i]?).map (·.2)).getD []
def expM (l : List (List UInt8 × List UInt8)) : Nat → List UInt8 → List Nat → Res
 | 0, _, _ => .error 0
 | n + 1, s, b => match refsM s with
  | none => .error 1
  | some L => expL l (fun i => expM l n (srcOf l i) (i :: b)) b s L 0 []
theorem index_cut : ∀ l : List UInt8, Go.Lib.index l [37, 123] = match cutPM l with
  | none => -1
  | some x => (x.1.length : Int)
 | [] => rfl
 | c :: t => by
  rw [Go.Lib.index, cutPM]
  have ih := index_cut t
  have hp : ([37, 123] : List UInt8).isPrefixOf (c :: t) = decide (c = 37 ∧ t.head? = some 123) := by
   cases t with
   | nil => simp [List.isPrefixOf]
   | cons d t =>
    simp only [List.isPrefixOf, Bool.and_true, List.head?_cons, Option.some.injEq]
    rw [Bool.eq_iff_iff]
    simp only [Bool.and_eq_true, beq_iff_eq, decide_eq_true_iff]
    exact ⟨fun h => ⟨h.1.symm, h.2.symm⟩, fun h => ⟨h.1.symm, h.2.symm⟩⟩
  rw [hp]
  by_cases h : c = 37 ∧ t.head? = some 123
  ·rw [if_pos h, if_pos (decide_eq_true h)]
   rfl
  ·rw [if_neg h, if_neg (by simp only [decide_eq_true_iff]; exact h), ih]
   cases hq : cutPM t with
   | none => rfl
   | some x =>
    simp only [Option.map_some, List.length_cons]
    have : ¬ (((x.1.length : Int) == -1) = true) := by rw [beq_iff_eq]; omega
    rw [if_neg this]
    exact (Int.natCast_succ _).symm
def noPM (s : List UInt8) : Prop := cutPM s = none
theorem noPM_cons {c : UInt8} {t : List UInt8} : noPM (c :: t) ↔ ¬ (c = 37 ∧ t.head? = some 123) ∧ noPM t := by
 unfold noPM
 rw [cutPM]
 by_cases h : c = 37 ∧ t.head? = some 123
 ·rw [if_pos h]; simp [h]
 ·rw [if_neg h]; simp [h]
theorem cutPM_parts : ∀ {s p q : List UInt8}, cutPM s = some (p, q) → s = p ++ 37 :: 123 :: q ∧ noPM p
 | [], _, _, h => by cases h
 | c :: t, p, q, h => by
  rw [cutPM] at h
  split at h
  ·next h1 =>
   injection h with h
   injection h with h2 h3
   subst h2 h3
   obtain ⟨rfl, h4⟩ := h1
   cases t with
   | nil => cases h4
   | cons d t =>
    injection h4 with h4
    subst h4
    exact ⟨rfl, rfl⟩
  ·next h1 =>
   rw [Option.map_eq_some_iff] at h
   obtain ⟨⟨p', q'⟩, h2, h3⟩ := h
   injection h3 with h3 h4
   subst h3 h4
   obtain ⟨h5, h6⟩ := cutPM_parts h2
   refine ⟨by rw [List.cons_append, ← h5], noPM_cons.2 ⟨?_, h6⟩⟩
   rintro ⟨h7, h8⟩
   refine h1 ⟨h7, ?_⟩
   rw [h5]
   cases p' with
   | nil => simp at h8
   | cons d p' => exact h8
theorem tw_take (p : UInt8 → Bool) (t : List UInt8) : ∀ c ∈ t.take (t.takeWhile p).length, p c = true := by
 induction t with
 | nil => intro c h; simp at h
 | cons x t ih =>
  intro c h
  rw [List.takeWhile_cons] at h
  split at h
  ·next h1 =>
   rw [List.length_cons, List.take_succ_cons] at h
   rcases List.mem_cons.1 h with rfl | h
   ·exact h1
   ·exact ih c h
  ·simp at h
theorem nlen_word {q : List UInt8} : ∀ c ∈ q.take (nlen q), Asc.isWord c.toNat = true := by
 unfold nlen
 cases q with
 | nil => intro c h; simp at h
 | cons x t =>
  simp only
  split
  ·next h1 =>
   split
   ·intro c h; simp at h
   ·intro c h
    rw [Nat.add_comm, List.take_succ_cons] at h
    rcases List.mem_cons.1 h with rfl | h
    ·unfold Asc.isWord; rw [h1]; simp
    ·exact tw_take (fun x => Asc.isWord x.toNat) t c h
  ·intro c h; simp at h
theorem expL_len (l : List (List UInt8 × List UInt8)) (sub : Nat → Res) (b : List Nat) (s : List UInt8) : ∀ (L : List Ref) (at_ : Nat) (out : List UInt8) (t : List UInt8), expL l sub b s L at_ out = .ok t → t.length ≤ 400
 | [], at_, out, t, he => by
  rw [expL] at he
  split at he
  ·cases he
  ·injection he with he
   subst he
   omega
 | r :: L, at_, out, t, he => by
  rw [expL] at he
  repeat' split at he
  all_goals first
   | cases he
   | exact expL_len l sub b s L r.to _ t he
theorem expM_len (l : List (List UInt8 × List UInt8)) (n : Nat) (s : List UInt8) (b : List Nat) (t : List UInt8) (h : expM l n s b = .ok t) : t.length ≤ 400 := by
 cases n with
 | zero => cases h
 | succ n =>
  rw [expM] at h
  split at h
  ·cases h
  ·exact expL_len l _ b s _ 0 [] t h
end Go.Proofs.YtgcpinnnfoanjaaGreatDoor.Lb
namespace Go.Proofs.YtgcpinnnfoanjaaGreatDoor
open Go.RowKit
set_option maxRecDepth 100000 in
set_option maxHeartbeats 2000000 in
theorem lname_any (l : List UInt8) (w : World) (hk : Kinds w) (hml : l.length ≤ 9223372036854775807) :
  Calls Tryz.prog 46 #[.string ⟨l.toArray⟩] w fun e w' => e = .returned (.int .i64 (nlen l)) ∧ w = w' := by
 rcases Nat.eq_zero_or_pos l.length with h0 | hpos
 ·obtain rfl := List.length_eq_zero_iff.1 h0
  clear h0 hml
  go_enter Tryz.func46, Tryz.ntmps46
  go_wp2_with fail
  go_ret
  exact ⟨rfl, rfl⟩
 ·have e2 : (l.isEmpty) = false := by cases l with | nil => simp at hpos | cons a b => rfl
  obtain ⟨c0, ⟨_, hx0⟩, hc0, hb0⟩ := byte_at l 0 hpos
  have HL := Lib.hid (letter_any c0 w hb0 hk)
  have HKW := Lib.hid hk
  obtain ⟨R, hR⟩ : ∃ R, nlen l = R := ⟨_, rfl⟩
  have HR := Lib.hid hR
  rw [hR]
  have HC0 := Lib.hid hc0
  clear hk hR hc0
  cases hl : Asc.isLetter c0
  ·have HZ : Hid ((0 : Nat) = R) := Lib.hid (by rw [← HR.out, nlen_no hpos (by rw [HC0.out]; exact hl)])
   rw [hl] at HL
   clear hl
   go_enter Tryz.func46, Tryz.ntmps46
   go_wp2_with (go_at_call 67; refine HL.out.mono ?_; rintro e w' ⟨rfl, rfl⟩)
   go_ret
   exact ⟨ret_int (by rw [← HZ.out]; rfl), rfl⟩
  ·have HA : Hid (∀ k, 1 ≤ k → k ≤ l.length → (∀ i (h : i < l.length), 1 ≤ i → i < k → Asc.isWord (l[i]).toNat = true) → (∀ h : k < l.length, Asc.isWord (l[k]).toNat = false) → (if 32 < k then 0 else k) = R) :=
    Lib.hid (fun k h1 h2 h3 h4 => by rw [← HR.out, nlen_at h1 h2 (by rw [HC0.out]; exact hl) h3 h4])
   rw [hl] at HL
   clear hl hx0
   obtain ⟨c0', ⟨_, hx0⟩, hc0', _⟩ := byte_at l 0 hpos
   have ec : c0' = c0 := hc0'.symm.trans HC0.out
   rw [ec] at hx0
   clear hc0' ec
   go_enter Tryz.func46, Tryz.ntmps46
   go_wp2_with (go_at_call 67; refine HL.out.mono ?_; rintro e w' ⟨rfl, rfl⟩)
   go_loop [3] (fun i => ∃ k : Nat, 1 ≤ k ∧ k ≤ l.length ∧ i = .int .i64 k ∧ Hid (∀ i (h : i < l.length), 1 ≤ i → i < k → Asc.isWord (l[i]).toNat = true)) (fun i => l.length - (intOf i).toNat)
   case atStart => exact ⟨1, by omega, by omega, rfl, Lib.hid (fun _ _ _ _ => by omega)⟩
   case round =>
    obtain ⟨k, hk1, hkl, rfl, HALL⟩ := hrel
    by_cases hlt : k < l.length
    ·obtain ⟨c, ⟨_, hx⟩, hc, hb⟩ := byte_at l k hlt
     have HC := Lib.hid hc
     have HW := Lib.hid (word_any c w hb HKW.out)
     clear hc hx0
     cases hw : Asc.isWord c
     ·have HZ : Hid ((if 32 < k then 0 else k) = R) := Lib.hid (HA.out k hk1 hkl HALL.out (fun _ => by rw [HC.out]; exact hw))
      rw [hw] at HW
      clear hw
      by_cases h32 : 32 < k
      ·have z1 : decide ((32 : Int) < (k : Int)) = true := decide_eq_true (by omega)
       have HZ2 : Hid ((0 : Nat) = R) := Lib.hid (by rw [← HZ.out, if_pos h32])
       go_wp2_with (go_at_call 68; refine HW.out.mono ?_; rintro e w' ⟨rfl, rfl⟩)
       go_ret
       exact ⟨ret_int (by rw [← HZ2.out]; rfl), rfl⟩
      ·have z1 : decide ((32 : Int) < (k : Int)) = false := decide_eq_false (by omega)
       have HZ2 : Hid (k = R) := Lib.hid (by rw [← HZ.out, if_neg h32])
       go_wp2_with (go_at_call 68; refine HW.out.mono ?_; rintro e w' ⟨rfl, rfl⟩)
       go_ret
       exact ⟨ret_int (by rw [← HZ2.out]), rfl⟩
     ·have HN : Hid (∀ i (h : i < l.length), 1 ≤ i → i < k + 1 → Asc.isWord (l[i]).toNat = true) := Lib.hid (fun i h h1 h2 => by
       by_cases e : i = k
       ·subst e; rw [HC.out]; exact hw
       ·exact HALL.out i h h1 (by omega))
      rw [hw] at HW
      clear hw
      go_wp2_with (go_at_call 68; refine HW.out.mono ?_; rintro e w' ⟨rfl, rfl⟩)
      go_round
      case rel => exact ⟨k + 1, by omega, by omega, by go_num, HN⟩
      case measure => simp [intOf]; omega
    ·obtain rfl : k = l.length := by omega
     have HZ : Hid ((if 32 < l.length then 0 else l.length) = R) := Lib.hid (HA.out _ hk1 hkl HALL.out (fun hh => by omega))
     by_cases h32 : 32 < l.length
     ·have z1 : decide ((32 : Int) < (l.length : Int)) = true := decide_eq_true (by omega)
      have HZ2 : Hid ((0 : Nat) = R) := Lib.hid (by rw [← HZ.out, if_pos h32])
      go_wp2_with fail
      go_ret
      exact ⟨ret_int (by rw [← HZ2.out]; rfl), rfl⟩
     ·have z1 : decide ((32 : Int) < (l.length : Int)) = false := decide_eq_false (by omega)
      have HZ2 : Hid (l.length = R) := Lib.hid (by rw [← HZ.out, if_neg h32])
      go_wp2_with fail
      go_ret
      exact ⟨ret_int (by rw [← HZ2.out]), rfl⟩
set_option maxRecDepth 100000 in
theorem lisname_any (l : List UInt8) (w : World) (hk : Kinds w) (hml : l.length ≤ 9223372036854775807) :
  Calls Tryz.prog 27 #[.string ⟨l.toArray⟩] w fun e w' => e = .returned (.bool (nmB l)) ∧ w = w' := by
 rcases Nat.eq_zero_or_pos l.length with h0 | hpos
 ·obtain rfl := List.length_eq_zero_iff.1 h0
  rw [nmB_no (fun h => by have := h.1; simp at this)]
  clear h0 hml
  go_enter Tryz.func27, Tryz.ntmps27
  go_wp2_with fail
  go_ret
  exact ⟨rfl, rfl⟩
 ·have e2 : (l.isEmpty) = false := by cases l with | nil => simp at hpos | cons a b => rfl
  have HN := Lib.hid (lname_any l w hk hml)
  have hle := nlen_le l
  have HI := Lib.hid (nm_iff hpos)
  obtain ⟨n, hn⟩ : ∃ n, nlen l = n := ⟨_, rfl⟩
  rw [hn] at HN hle HI
  clear hn hk
  by_cases e : n = l.length
  ·rw [nmB_yes (HI.out.2 e)]
   subst e
   clear hle
   go_enter Tryz.func27, Tryz.ntmps27
   go_wp2_with (go_at_call 46; refine HN.out.mono ?_; rintro e w' ⟨rfl, rfl⟩)
   go_ret
   exact ⟨rfl, rfl⟩
  ·rw [nmB_no (fun h => e (HI.out.1 h))]
   have z1 : ((n : Int) == (l.length : Int)) = false := by rw [beq_eq_false_iff_ne]; omega
   clear HI
   go_enter Tryz.func27, Tryz.ntmps27
   go_wp2_with (go_at_call 46; refine HN.out.mono ?_; rintro e w' ⟨rfl, rfl⟩)
   go_ret
   exact ⟨ret_bool (by first | rfl | simpa using e), rfl⟩
end Go.Proofs.YtgcpinnnfoanjaaGreatDoor

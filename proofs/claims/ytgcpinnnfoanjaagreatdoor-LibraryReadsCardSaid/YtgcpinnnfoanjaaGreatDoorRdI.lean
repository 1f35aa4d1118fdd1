/-
 Joined: NumK, NumA.
-/
import Derived.Test.YtgcpinnnfoanjaaGreatDoorRdZa
import Derived.Lib.ItoaNum
import Derived.Test.YtgcpinnnfoanjaaGreatDoorRdAb
import Derived.Outline
namespace Go.Proofs.YtgcpinnnfoanjaaGreatDoor.Asc
def val (l : List UInt8) : Nat := l.foldl (fun n c => n * 10 + (c.toNat - 48)) 0
def allD (l : List UInt8) : Bool := l.all fun c => isDigit c.toNat
def digN (l : List UInt8) (most : Nat) : Nat := if 1 ≤ l.length ∧ l.length ≤ most ∧ allD l = true then val l else 0
def digB (l : List UInt8) (most : Nat) : Bool := decide (1 ≤ l.length ∧ l.length ≤ most ∧ allD l = true)
theorem val_snoc (l : List UInt8) (c : UInt8) : val (l ++ [c]) = val l * 10 + (c.toNat - 48) := by unfold val; simp
theorem allD_snoc (l : List UInt8) (c : UInt8) : allD (l ++ [c]) = (allD l && isDigit c.toNat) := by unfold allD; simp
theorem isDigit_iff (c : Nat) : isDigit c = true ↔ 48 ≤ c ∧ c ≤ 57 := by unfold isDigit; simp
theorem allD_take {l : List UInt8} (h : allD l = true) (k : Nat) : allD (l.take k) = true := by
 unfold allD at h ⊢
 rw [List.all_eq_true] at h ⊢
 exact fun x hx => h x (List.mem_of_mem_take hx)
theorem allD_bad {l : List UInt8} (k : Nat) (h : k < l.length) (hb : isDigit (l[k]).toNat = false) : allD l = false := by
 rw [Bool.eq_false_iff]
 intro e
 unfold allD at e
 rw [List.all_eq_true] at e
 have := e _ (List.getElem_mem h)
 rw [hb] at this
 cases this
theorem val_lt_aux (n : Nat) : ∀ l : List UInt8, l.length = n → allD l = true → val l < 10 ^ n := by
 induction n with
 | zero => intro l h _; obtain rfl := List.length_eq_zero_iff.1 h; simp [val]
 | succ n ih =>
  intro l h ha
  have hl : l = l.take n ++ [l[n]] := by rw [← snoc_take l n (by omega), ← h, List.take_length]
  have hn : (l.take n).length = n := by simp; omega
  have hd : isDigit (l[n]).toNat = true := by rw [hl, allD_snoc] at ha; simp at ha; exact ha.2
  rw [isDigit_iff] at hd
  have hi := ih (l.take n) hn (allD_take ha n)
  rw [hl, val_snoc, Nat.pow_succ]
  omega
theorem val_lt {l : List UInt8} (h : allD l = true) : val l < 10 ^ l.length := val_lt_aux _ l rfl h
theorem val_le18 {l : List UInt8} (h : allD l = true) (hl : l.length ≤ 18) : val l < 1000000000000000000 :=
 Nat.lt_of_lt_of_le (val_lt h) (Nat.pow_le_pow_right (n := 10) (by omega) hl)
theorem dig_yes {l : List UInt8} {most : Nat} (h1 : 1 ≤ l.length) (h2 : l.length ≤ most) (h3 : allD l = true) : digN l most = val l ∧ digB l most = true := by
 unfold digN digB; rw [if_pos ⟨h1, h2, h3⟩]; simp [h1, h2, h3]
theorem dig_no {l : List UInt8} {most : Nat} (h : l.length < 1 ∨ most < l.length ∨ allD l = false) : digN l most = 0 ∧ digB l most = false := by
 have hn : ¬ (1 ≤ l.length ∧ l.length ≤ most ∧ allD l = true) := by
  rintro ⟨a, b, c⟩
  rcases h with h | h | h
  ·omega
  ·omega
  ·rw [c] at h; cases h
 unfold digN digB; rw [if_neg hn]; exact ⟨rfl, decide_eq_false hn⟩
def numN (l : List UInt8) : Int := if l.head? = some 45 then -(digN l.tail 18 : Int) else (digN l 18 : Int)
def numB (l : List UInt8) : Bool := if l.head? = some 45 then digB l.tail 18 else digB l 18
theorem num_neg (d : List UInt8) : numN (45 :: d) = -(digN d 18 : Int) ∧ numB (45 :: d) = digB d 18 := by unfold numN numB; simp
theorem num_pos {l : List UInt8} (h : l.head? ≠ some 45) : numN l = (digN l 18 : Int) ∧ numB l = digB l 18 := by unfold numN numB; simp [h]
end Go.Proofs.YtgcpinnnfoanjaaGreatDoor.Asc
namespace Go.Proofs.YtgcpinnnfoanjaaGreatDoor
open Go.RowKit
theorem val_small {l : List UInt8} {k : Nat} (h : Asc.allD (l.take k) = true) (hk : k ≤ 17) : Asc.val (l.take k) < 100000000000000000 :=
 Nat.lt_of_lt_of_le (Asc.val_lt h) (Nat.le_trans (Nat.pow_le_pow_right (n := 10) (by omega) (show (l.take k).length ≤ 17 by rw [List.length_take]; omega)) (by decide))
theorem ret_nb {a b : Int} {c d : Bool} (h : a = b) (k : c = d) : Ending.returned (.tuple #[.int .i64 a, .bool c]) = .returned (.tuple #[.int .i64 b, .bool d]) := by rw [h, k]
def Asc.sgn (neg : Bool) (n : Nat) : Int := if neg then -(n : Int) else (n : Int)
set_option maxRecDepth 100000 in
set_option maxHeartbeats 1000000 in
theorem number_core (l d : List UInt8) (neg : Bool) (w : World) (hk : Kinds w) (hd : Lib.trimPrefix l [45] = d) (hn : decide (d.length < l.length) = neg) :
  Calls Tryz.prog 150 #[.string ⟨l.toArray⟩] w fun e w' => e = .returned (.tuple #[.int .i64 (Asc.sgn neg (Asc.digN d 18)), .bool (Asc.digB d 18)]) ∧ Below w.heap.size w w' := by
 have HT : Hid (∀ w, Calls Tryz.prog 157 #[.string ⟨l.toArray⟩, .string ⟨#[45]⟩] w fun e w' => e = .returned (.string ⟨d.toArray⟩) ∧ w = w') := by
  show ∀ w, _
  intro w
  rw [← hd]
  exact (Tryz.strings_TrimPrefix ⟨l.toArray⟩ ⟨#[45]⟩ w).mono fun e w' ⟨h1, h2⟩ => ⟨h1, h2.symm⟩
 clear hd
 by_cases h1 : 1 ≤ d.length
 ·have t1 : decide ((d.length : Int) < 1) = false := by simp; omega
  by_cases h2 : d.length ≤ 18
  ·have t2 : decide (18 < (d.length : Int)) = false := by simp; omega
   have HF := Lib.hid (Asc.dig_yes h1 h2)
   have HN := Lib.hid (Asc.dig_no (l := d) (most := 18))
   obtain ⟨cap, w2, nb⟩ := conv_bytes w d
   have hr := nb.run
   have NB := Lib.hid nb
   have HK := Lib.hid (hk.below nb.below)
   clear nb hk
   go_enter Tryz.func150, Tryz.ntmps150
   go_wp2_with (go_at_call 157; refine (HT.out _).mono ?_; rintro e w' ⟨rfl, rfl⟩)
   go_loop [5, 21] (fun t i => ∃ k : Nat, k ≤ d.length ∧ i = .int .i64 k ∧ t = .int .i64 (Asc.val (d.take k) : Nat) ∧ Asc.allD (d.take k) = true) (fun _ i => d.length - (intOf i).toNat)
   case atStart => exact ⟨0, by omega, rfl, rfl, rfl⟩
   case round =>
    obtain ⟨k, hk, rfl, rfl, ha⟩ := hrel
    by_cases hlt : k < d.length
    ·have hcell := NB.out.cells.at k hlt
     rw [Asc.at_of hlt] at hcell
     have hc2 : d[k].toNat < 256 := d[k].toNat_lt
     generalize hc : d[k].toNat = c at *
     have hv := val_small ha (by omega)
     have HA := Lib.hid ha
     have HC := Lib.hid hc
     clear ha hc
     cases hd : Asc.isDigit c
     ·have HB := Lib.hid (Asc.allD_bad k hlt (by rw [HC.out]; exact hd))
      go_wp2_with (go_at_call 149; refine (digit_any c w2 hc2 HK.out).mono ?_; rintro e w' ⟨rfl, rfl⟩)
      go_ret2
      have := HN.out (.inr (.inr HB.out))
      exact ⟨ret_nb (by rw [this.1]; cases neg <;> rfl) this.2.symm, NB.out.below⟩
     ·have hd2 := (Asc.isDigit_iff c).1 hd
      have HV : Hid (Asc.val (d.take (k + 1)) = Asc.val (d.take k) * 10 + (c - 48)) := by
       show Asc.val _ = _
       rw [Asc.snoc_take d k hlt, Asc.val_snoc, HC.out]
      have HB : Hid (Asc.allD (d.take (k + 1)) = true) := by
       show Asc.allD _ = _
       rw [Asc.snoc_take d k hlt, Asc.allD_snoc, HC.out, HA.out, hd]; rfl
      generalize Asc.val (d.take k) = v at *
      go_wp2_with (go_at_call 149; refine (digit_any c w2 hc2 HK.out).mono ?_; rintro e w' ⟨rfl, rfl⟩)
      go_round
      case rel => exact ⟨k + 1, by omega, by go_num, by rw [HV.out]; congr 1; omega, HB.out⟩
      case measure => simp [intOf]; omega
    ·have HA := Lib.hid (show Asc.allD d = true by rw [List.take_of_length_le (by omega)] at ha; exact ha)
     have HV := Lib.hid (show Asc.val (d.take k) = Asc.val d by rw [List.take_of_length_le (by omega)])
     have hv := Asc.val_le18 HA.out h2
     rw [← HV.out] at hv
     clear ha
     generalize Asc.val (d.take k) = v at *
     cases neg
     all_goals
      go_wp2_with fail
      go_ret2
      have := HF.out HA.out
      exact ⟨ret_nb (by rw [this.1, ← HV.out]; rfl) this.2.symm, NB.out.below⟩
  ·have t2 : decide (18 < (d.length : Int)) = true := by simp; omega
   have HN := Lib.hid (Asc.dig_no (l := d) (most := 18) (.inr (.inl (by omega))))
   go_enter Tryz.func150, Tryz.ntmps150
   go_wp2_with (go_at_call 157; refine (HT.out _).mono ?_; rintro e w' ⟨rfl, rfl⟩)
   go_ret2
   exact ⟨ret_nb (by rw [HN.out.1]; cases neg <;> rfl) HN.out.2.symm, Below.refl _ _⟩
 ·have t1 : decide ((d.length : Int) < 1) = true := by simp; omega
  have HN := Lib.hid (Asc.dig_no (l := d) (most := 18) (.inl (by omega)))
  go_enter Tryz.func150, Tryz.ntmps150
  go_wp2_with (go_at_call 157; refine (HT.out _).mono ?_; rintro e w' ⟨rfl, rfl⟩)
  go_ret2
  exact ⟨ret_nb (by rw [HN.out.1]; cases neg <;> rfl) HN.out.2.symm, Below.refl _ _⟩
theorem number_any (l : List UInt8) (w : World) (hk : Kinds w) :
  Calls Tryz.prog 150 #[.string ⟨l.toArray⟩] w fun e w' => e = .returned (.tuple #[.int .i64 (Asc.numN l), .bool (Asc.numB l)]) ∧ Below w.heap.size w w' := by
 by_cases hh : l.head? = some 45
 ·obtain ⟨d, rfl⟩ : ∃ d, l = 45 :: d := by
   cases l with
   | nil => cases hh
   | cons c d => simp at hh; subst hh; exact ⟨d, rfl⟩
  have h := number_core (45 :: d) d true w hk (by simp [Lib.trimPrefix, Lib.hasPrefix]) (by simp)
  rw [(Asc.num_neg d).1, (Asc.num_neg d).2]
  exact h
 ·have h := number_core l l false w hk (by
   cases l with
   | nil => rfl
   | cons c d =>
    have : ¬ c = 45 := fun e => hh (by simp [e])
    simp [Lib.trimPrefix, Lib.hasPrefix]
    intro e; exact absurd e.symm (by simpa using this)) (by simp)
  rw [(Asc.num_pos hh).1, (Asc.num_pos hh).2]
  exact h
end Go.Proofs.YtgcpinnnfoanjaaGreatDoor

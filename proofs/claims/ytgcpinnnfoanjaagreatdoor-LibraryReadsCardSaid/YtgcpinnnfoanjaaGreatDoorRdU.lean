/-
 Joined: LbN, ReA, ReB, ReC, ReD, ReE, ReF, ReG, ReH, ReI, ReJ, ReK, ReL.
-/
import Derived.Test.YtgcpinnnfoanjaaGreatDoorRdA
import Derived.Lib.Split
import Derived.Lib.SlTrimSet
import Derived.Test.YtgcpinnnfoanjaaGreatDoorRdT
import Derived.Test.YtgcpinnnfoanjaaGreatDoorRdAb
import Derived.Test.YtgcpinnnfoanjaaGreatDoorRdB
import Derived.Test.YtgcpinnnfoanjaaGreatDoorRdZa
import Derived.Test.YtgcpinnnfoanjaaGreatDoorRdL
namespace Go.Proofs.YtgcpinnnfoanjaaGreatDoor.Lb
def spL : List UInt8 := [32, 9]
def lineM (s : List UInt8) : Except Nat (Option Def) :=
 if Go.Lib.trimS s spL = [] ∨ (Go.Lib.trimS s spL).head? = some 35 then .ok none
 else if nlen (Go.Lib.trimS s spL) = 0 ∨ (Go.Lib.trimS s spL).length ≤ nlen (Go.Lib.trimS s spL) ∨ ¬ ((Go.Lib.trimS s spL).drop (nlen (Go.Lib.trimS s spL))).head? ∈ ([some 32, some 9] : List (Option UInt8)) then .error 1
 else .ok (some ((Go.Lib.trimS s spL).take (nlen (Go.Lib.trimS s spL)), Go.Lib.trimS ((Go.Lib.trimS s spL).drop (nlen (Go.Lib.trimS s spL))) spL))
def plM : List (List UInt8) → Nat → List Def → Except (Nat × Nat) (List Def)
 | [], _, acc => .ok acc
 | s :: ss, i, acc => match lineM s with
  | .error e => .error (i + 1, e)
  | .ok none => plM ss (i + 1) acc
  | .ok (some d) => if (findM acc d.1).isSome then .error (i + 1, 7) else if acc.length = 40 then .error (i + 1, 4) else plM ss (i + 1) (acc ++ [d])
theorem index_byte (c : UInt8) : ∀ (a r : List UInt8), c ∉ a → Go.Lib.index (a ++ c :: r) [c] = a.length
 | [], r, _ => by
  rw [List.nil_append, Go.Lib.index, if_pos (by simp [List.isPrefixOf])]
  rfl
 | x :: a, r, h => by
  have hx : c ≠ x := fun e => h (by rw [e]; simp)
  have ih := index_byte c a r (fun e => h (List.mem_cons_of_mem _ e))
  rw [List.cons_append, Go.Lib.index, if_neg (by simp [List.isPrefixOf, hx]), ih]
  have : ¬ (((a.length : Int) == -1) = true) := by rw [beq_iff_eq]; omega
  rw [if_neg this, List.length_cons]
  exact (Int.natCast_succ _).symm
theorem split_line (a r : List UInt8) (h : (10 : UInt8) ∉ a) : Go.Lib.split (a ++ 10 :: r) [10] = a :: Go.Lib.split r [10] := by
 have hi := index_byte 10 a r h
 have hd : (a ++ 10 :: r).drop (a.length + 1) = r := by
  rw [List.drop_append, List.drop_eq_nil_of_le (by omega), List.nil_append, show a.length + 1 - a.length = 1 by omega]
  rfl
 have hc : Go.Lib.count (a ++ 10 :: r) [10] = 1 + Go.Lib.count r [10] := by
  rw [Go.Lib.count_hit (i := a.length) (by simp) hi]
  simp only [List.length_cons, List.length_nil, Nat.zero_add]
  rw [hd]
 unfold Go.Lib.split
 rw [hc, Nat.add_comm, Go.Lib.splitK, hi]
 have : ¬ (((a.length : Int) == -1) = true) := by rw [beq_iff_eq]; omega
 rw [if_neg this]
 simp only [Int.toNat_natCast, Nat.add_zero, List.length_cons, List.length_nil, Nat.zero_add]
 rw [hd, List.take_left' rfl]
def firm (c : UInt8) : Prop := c ≠ 32 ∧ c ≠ 9
theorem word_firm {c : UInt8} (h : Asc.isWord c.toNat = true) : firm c ∧ c ≠ 35 ∧ c ≠ 10 := by
 refine ⟨⟨?_, ?_⟩, ?_, ?_⟩
 all_goals
  rintro rfl
  revert h
  decide
end Go.Proofs.YtgcpinnnfoanjaaGreatDoor.Lb
namespace Go.Proofs.YtgcpinnnfoanjaaGreatDoor
open Go.RowKit
def Lb.beg (s : List UInt8) (i : Nat) : Bool := decide (Asc.at_ s i = 37 ∧ Asc.at_ s (i + 1) = 123)
set_option maxHeartbeats 4000000 in
set_option maxRecDepth 1000000 in
theorem rbegins_any (s : List UInt8) (i : Nat) (hi : i ≤ 1000000) (w : World) : Calls Tryz.prog 38 #[.string ⟨s.toArray⟩, .int .i64 (i : Int)] w fun r w' => r = .returned (.bool (Lb.beg s i)) ∧ w = w' := by
 have hw : IntKind.i64.wrap ((i : Int) + 1) = (i : Int) + 1 := IntWalk.i64_in _ (by omega)
 have i2 : (0 : Int) ≤ (i : Int) := by omega
 have i4 : (0 : Int) ≤ (i : Int) + 1 := by omega
 have hto : ((i : Int) + 1).toNat = i + 1 := by omega
 by_cases h : i + 1 < s.length
 ·obtain ⟨c, ⟨_, hx⟩, hc, hb⟩ := byte_at s i (by omega)
  obtain ⟨d, ⟨_, hy⟩, hd, hb2⟩ := byte_at s (i + 1) h
  have hlt : i < s.length := by omega
  have hcA : Asc.at_ s i = c := by unfold Asc.at_; rw [List.getElem?_eq_getElem hlt]; exact hc
  have hdA : Asc.at_ s (i + 1) = d := by unfold Asc.at_; rw [List.getElem?_eq_getElem h]; exact hd
  have z1 : decide ((i : Int) + 1 < (s.length : Int)) = true := decide_eq_true (by omega)
  have y1 : decide (i + 1 < s.length) = true := decide_eq_true h
  have i1 : (i : Int) < (s.length : Int) := by omega
  have i3 : (i : Int) + 1 < (s.length : Int) := by omega
  unfold Lb.beg
  rw [hcA, hdA]
  clear hc hd hcA hdA
  by_cases h37 : c = 37
  ·subst h37
   by_cases h123 : d = 123
   ·subst h123
    go_enter Tryz.func38, Tryz.ntmps38
    go_wp2_with fail
    go_ret
    exact ⟨rfl, rfl⟩
   ·have u : ((d : Int) == 123) = false := by rw [beq_eq_false_iff_ne]; omega
    have hn : decide (37 = 37 ∧ d = 123) = false := decide_eq_false (fun h => h123 h.2)
    rw [hn]
    clear h123 hn
    go_enter Tryz.func38, Tryz.ntmps38
    go_wp2_with fail
    go_ret
    exact ⟨rfl, rfl⟩
  ·have u : ((c : Int) == 37) = false := by rw [beq_eq_false_iff_ne]; omega
   have hn : decide (c = 37 ∧ d = 123) = false := decide_eq_false (fun h => h37 h.1)
   rw [hn]
   clear h37 hn
   go_enter Tryz.func38, Tryz.ntmps38
   go_wp2_with fail
   go_ret
   exact ⟨rfl, rfl⟩
 ·have hn : Lb.beg s i = false := decide_eq_false (fun hx => by
   have := hx.2
   unfold Asc.at_ at this
   rw [List.getElem?_eq_none (by omega)] at this
   cases this)
  have z1 : decide ((i : Int) + 1 < (s.length : Int)) = false := decide_eq_false (by omega)
  have y1 : decide (i + 1 < s.length) = false := decide_eq_false h
  rw [hn]
  clear hn
  go_enter Tryz.func38, Tryz.ntmps38
  go_wp2_with fail
  go_ret
  exact ⟨rfl, rfl⟩
end Go.Proofs.YtgcpinnnfoanjaaGreatDoor
namespace Go.Proofs.YtgcpinnnfoanjaaGreatDoor
open Go.RowKit
namespace Asc
def cutA (l : List UInt8) (c : UInt8) : List UInt8 := l.take (pos l c)
def cutB (l : List UInt8) (c : UInt8) : List UInt8 := l.drop (pos l c + 1)
theorem cutA_none {l : List UInt8} {c : UInt8} (h : ¬ pos l c < l.length) : cutA l c = l ∧ cutB l c = [] := by
 have := pos_le l c
 unfold cutA cutB
 exact ⟨List.take_of_length_le (by omega), List.drop_of_length_le (by omega)⟩
end Asc
set_option maxHeartbeats 4000000 in
set_option maxRecDepth 1000000 in
theorem rcut_any (l : List UInt8) (c : UInt8) (w : World) (hs : l.length ≤ 140737488351232) :
  Calls Tryz.prog 42 #[.string ⟨l.toArray⟩, .int .u8 c.toNat] w fun e w' =>
   e = .returned (.tuple #[.string ⟨(Asc.cutA l c).toArray⟩, .string ⟨(Asc.cutB l c).toArray⟩, .bool (Asc.has l c)]) ∧ Below w.heap.size w w' := by
 go_enter Tryz.func42, Tryz.ntmps42
 go_wp2_with fail
 go_loop [7] (fun i => ∃ k : Nat, k ≤ l.length ∧ i = .int .i64 k ∧ ∀ j (hj : j < l.length), j < k → l[j] ≠ c) (fun i => l.length - (intOf i).toNat)
 case atStart => exact ⟨0, by omega, rfl, fun j _ h => by omega⟩
 case round =>
  obtain ⟨k, hk, rfl, hall⟩ := hrel
  have HA := Lib.hid hall
  clear hall
  by_cases hlt : k < l.length
  ·obtain ⟨d, ⟨_, hx⟩, hd, hd2⟩ := byte_at l k hlt
   have HD := Lib.hid hd
   clear hd
   by_cases he : l[k] = c
   ·have hp := Asc.pos_eq hlt he (fun j hj => HA.out j (by omega) hj)
    have F1 := Lib.hid (show Asc.cutA l c = l.take k by unfold Asc.cutA; rw [hp])
    have F2 := Lib.hid (show Asc.cutB l c = l.drop (k + 1) by unfold Asc.cutB; rw [hp])
    have F3 := Lib.hid (show Asc.has l c = true by unfold Asc.has; rw [hp]; simpa using hlt)
    have hq : ((d : Int) == (c.toNat : Int)) = true := by rw [beq_iff_eq, ← HD.out, he]
    clear hp he
    go_wp2_with fail
    go_quiet (fail)
    go_wp2_with fail
    go_ret3
    refine ⟨?_, below_drewN (Below.refl _ _) nq⟩
    rw [F1.out, F2.out, F3.out, ← ext_take, ← ext_drop]
    rfl
   ·have HE := Lib.hid he
    have hq : ((d : Int) == (c.toNat : Int)) = false := by
     rw [beq_eq_false_iff_ne]
     intro e
     apply he
     apply UInt8.toNat_inj.1
     rw [HD.out]
     exact_mod_cast e
    clear he
    go_wp2_with fail
    go_round
    case rel => exact ⟨k + 1, by omega, by go_num, fun j hj h => by rcases Nat.lt_or_ge j k with c | c; exact HA.out j hj c; (obtain rfl : j = k := by omega); exact HE.out⟩
    case measure => simp [intOf]; omega
  ·have hp := Asc.pos_none (l := l) (c := c) (fun j hj => HA.out j hj (by omega))
   have F := Lib.hid (Asc.cutA_none hp)
   have F3 := Lib.hid (show Asc.has l c = false by unfold Asc.has; simpa using hp)
   clear hp
   go_wp2_with fail
   go_ret3
   refine ⟨?_, Below.refl _ _⟩
   rw [F.out.1, F.out.2, F3.out]
   rfl
namespace Lb
theorem nmB_ok {l : List UInt8} (h : nmB l = true) : NmOk l := by
 unfold nmB at h
 exact @of_decide_eq_true _ (Classical.propDecidable _) h
noncomputable def refB (q : List UInt8) : Option (List UInt8 × List UInt8 × Nat) :=
 if Asc.pos q 125 < q.length then
  (if nmB (Asc.cutA (q.take (Asc.pos q 125)) 58) = true ∧ (Asc.has (q.take (Asc.pos q 125)) 58 = true → nmB (Asc.cutB (q.take (Asc.pos q 125)) 58) = true) then some (Asc.cutA (q.take (Asc.pos q 125)) 58, Asc.cutB (q.take (Asc.pos q 125)) 58, Asc.pos q 125 + 1) else none)
 else none
theorem nlen_stop {n r : List UInt8} {c : UInt8} (h : NmOk n) (hc : Asc.isWord c.toNat = false) : nlen (n ++ c :: r) = n.length := by
 obtain ⟨h0, h1, h2, h3⟩ := h
 have := nlen_at (l := n ++ c :: r) (k := n.length) (by omega) (by simp) (by rw [List.getElem_append_left h0]; exact h2 h0)
  (fun i hi h4 h5 => by rw [List.getElem_append_left h5]; exact h3 i h5)
  (fun hh => by rw [List.getElem_append_right (Nat.le_refl _)]; simp only [Nat.sub_self, List.getElem_cons_zero]; exact hc)
 rw [this, if_neg (by omega)]
theorem nmne {n : List UInt8} (h : NmOk n) {c : UInt8} (hc : Asc.isWord c.toNat = false) : ∀ j (hj : j < n.length), n[j] ≠ c := fun j hj e => by
 have := h.2.2.2 j hj
 rw [e, hc] at this
 cases this
theorem pos_app {p r : List UInt8} {c : UInt8} (h : ∀ j (hj : j < p.length), p[j] ≠ c) : Asc.pos (p ++ c :: r) c = p.length :=
 Asc.pos_eq (by simp) (by rw [List.getElem_append_right (Nat.le_refl _)]; simp) (fun j hj => by rw [List.getElem_append_left hj]; exact h j hj)
theorem nlen_nm {q : List UInt8} (h : 0 < nlen q) : NmOk (q.take (nlen q)) := by
 have hle := nlen_le q
 have hl : (q.take (nlen q)).length = nlen q := by rw [List.length_take]; omega
 refine ⟨by omega, ?_, ?_, fun i hi => nlen_word _ (List.getElem_mem hi)⟩
 ·rw [hl]
  unfold nlen
  split
  ·omega
  ·split
   ·split <;> omega
   ·omega
 ·intro h0
  rw [List.getElem_take]
  cases q with
  | nil => simp [nlen] at h
  | cons c t =>
   unfold nlen at h
   simp only at h
   split at h
   ·assumption
   ·omega
theorem head_split {q : List UInt8} {c : UInt8} (h : q.head? = some c) : q = c :: q.tail := by
 cases q with
 | nil => cases h
 | cons a b => simp only [List.head?_cons, Option.some.injEq] at h; rw [h]; rfl
theorem readM_shape {q nm fd : List UInt8} {k : Nat} (h : readM q = some (nm, fd, k)) : ∃ r, (fd = [] ∧ NmOk nm ∧ q = nm ++ 125 :: r ∧ k = nm.length + 1) ∨ (NmOk nm ∧ NmOk fd ∧ q = nm ++ 58 :: (fd ++ 125 :: r) ∧ k = nm.length + 1 + fd.length + 1) := by
 unfold readM at h
 have hle := nlen_le q
 split at h
 ·cases h
 ·next h0 =>
  have hn := nlen_nm (q := q) (by omega)
  have hql : (q.take (nlen q)).length = nlen q := by rw [List.length_take]; omega
  split at h
  ·next h1 =>
   have e1 := head_split h1
   rw [List.tail_drop] at e1
   split at h
   ·cases h
   ·next h2 =>
    have hn2 := nlen_nm (q := q.drop (nlen q + 1)) (by omega)
    have hle2 := nlen_le (q.drop (nlen q + 1))
    have hql2 : ((q.drop (nlen q + 1)).take (nlen (q.drop (nlen q + 1)))).length = nlen (q.drop (nlen q + 1)) := by rw [List.length_take]; omega
    split at h
    ·next h3 =>
     have e3 := head_split h3
     simp only [Option.some.injEq, Prod.mk.injEq] at h
     obtain ⟨rfl, rfl, rfl⟩ := h
     refine ⟨(q.drop (nlen q + 1 + nlen (q.drop (nlen q + 1)))).tail, .inr ⟨hn, hn2, ?_, by rw [hql, hql2]⟩⟩
     ·have e4 : q.drop (nlen q + 1 + nlen (q.drop (nlen q + 1))) = (q.drop (nlen q + 1)).drop (nlen (q.drop (nlen q + 1))) := by rw [List.drop_drop]
      rw [← e3, e4, List.take_append_drop, ← e1, List.take_append_drop]
    ·cases h
  ·split at h
   ·next h1 =>
    have e1 := head_split h1
    simp only [Option.some.injEq, Prod.mk.injEq] at h
    obtain ⟨rfl, rfl, rfl⟩ := h
    exact ⟨(q.drop (nlen q)).tail, .inl ⟨rfl, hn, by rw [← e1, List.take_append_drop], by rw [hql]⟩⟩
   ·cases h
theorem readM_one {nm r : List UInt8} (h : NmOk nm) : readM (nm ++ 125 :: r) = some (nm, [], nm.length + 1) := by
 have hn := nlen_stop (r := r) (c := 125) h (by decide)
 have h0 := h.1
 unfold readM
 rw [hn, if_neg (by omega), List.drop_left]
 simp
theorem readM_two {nm fd r : List UInt8} (h : NmOk nm) (h2 : NmOk fd) : readM (nm ++ 58 :: (fd ++ 125 :: r)) = some (nm, fd, nm.length + 1 + fd.length + 1) := by
 have hn := nlen_stop (r := fd ++ 125 :: r) (c := 58) h (by decide)
 have hn2 := nlen_stop (r := r) (c := 125) h2 (by decide)
 have h0 := h.1
 have h20 := h2.1
 have hd : (nm ++ 58 :: (fd ++ 125 :: r)).drop (nm.length + 1) = fd ++ 125 :: r := by rw [← List.drop_drop, List.drop_left]; rfl
 have hd2 : (nm ++ 58 :: (fd ++ 125 :: r)).drop (nm.length + 1 + fd.length) = 125 :: r := by rw [← List.drop_drop, hd, List.drop_left]
 unfold readM
 rw [hn, if_neg (by omega), List.drop_left, List.head?_cons, if_pos rfl, hd, hn2, if_neg (by omega), hd2, List.head?_cons, if_pos rfl, List.take_left, List.take_left]
theorem refB_eq (q : List UInt8) : refB q = readM q := by
 cases hr : readM q with
 | some x =>
  obtain ⟨nm, fd, k⟩ := x
  obtain ⟨r, ⟨rfl, hn, rfl, rfl⟩ | ⟨hn, hf, rfl, rfl⟩⟩ := readM_shape hr
  ·have hp := pos_app (r := r) (nmne hn (c := 125) (by decide))
   have ht : (nm ++ 125 :: r).take nm.length = nm := List.take_left
   have h58 := Asc.pos_none (nmne hn (c := 58) (by decide))
   obtain ⟨hA, hB⟩ := Asc.cutA_none h58
   have hh : Asc.has nm 58 = false := by unfold Asc.has; simpa using h58
   unfold refB
   rw [hp, if_pos (by simp), ht, hA, hB, hh, if_pos ⟨nmB_yes hn, fun h => by cases h⟩]
  ·have hne : ∀ j (hj : j < (nm ++ 58 :: fd).length), (nm ++ 58 :: fd)[j] ≠ 125 := by
    intro j hj e
    have hm : (125 : UInt8) ∈ nm ++ 58 :: fd := e ▸ List.getElem_mem hj
    rcases List.mem_append.1 hm with h | h
    ·obtain ⟨j, hj, e⟩ := List.mem_iff_getElem.1 h
     exact nmne hn (c := 125) (by decide) j hj e
    ·rcases List.mem_cons.1 h with h | h
     ·cases h
     ·obtain ⟨j, hj, e⟩ := List.mem_iff_getElem.1 h
      exact nmne hf (c := 125) (by decide) j hj e
   have hp := pos_app (r := r) hne
   rw [List.append_assoc, List.cons_append] at hp
   have hl : (nm ++ 58 :: fd).length = nm.length + 1 + fd.length := by simp; omega
   rw [hl] at hp
   have ht : (nm ++ 58 :: (fd ++ 125 :: r)).take (nm.length + 1 + fd.length) = nm ++ 58 :: fd := by
    rw [← hl, ← List.cons_append, ← List.append_assoc, List.take_left]
   have hp2 := pos_app (r := fd) (nmne hn (c := 58) (by decide))
   have hA : Asc.cutA (nm ++ 58 :: fd) 58 = nm := by unfold Asc.cutA; rw [hp2, List.take_left]
   have hB : Asc.cutB (nm ++ 58 :: fd) 58 = fd := by unfold Asc.cutB; rw [hp2, ← List.drop_drop, List.drop_left]; rfl
   unfold refB
   rw [hp, if_pos (by simp; omega), ht, hA, hB, if_pos ⟨nmB_yes hn, fun _ => nmB_yes hf⟩]
 | none =>
  unfold refB
  split
  ·next h1 =>
   split
   ·next h2 =>
    exfalso
    obtain ⟨h2, h3⟩ := h2
    obtain ⟨B, hB⟩ : ∃ B, q.take (Asc.pos q 125) = B := ⟨_, rfl⟩
    have hq : q = B ++ 125 :: q.drop (Asc.pos q 125 + 1) := by
     rw [← hB]
     conv => lhs; rw [← List.take_append_drop (Asc.pos q 125) q]
     rw [List.drop_eq_getElem_cons h1, Asc.pos_at h1]
    rw [hB] at h2 h3
    by_cases h58 : Asc.pos B 58 < B.length
    ·have hh : Asc.has B 58 = true := by unfold Asc.has; simpa using h58
     have hj : B = Asc.cutA B 58 ++ 58 :: Asc.cutB B 58 := by
      unfold Asc.cutA Asc.cutB
      conv => lhs; rw [← List.take_append_drop (Asc.pos B 58) B]
      rw [List.drop_eq_getElem_cons h58, Asc.pos_at h58]
     rw [hj, List.append_assoc, List.cons_append] at hq
     rw [hq, readM_two (nmB_ok h2) (nmB_ok (h3 hh))] at hr
     cases hr
    ·rw [(Asc.cutA_none h58).1] at h2
     rw [hq, readM_one (nmB_ok h2)] at hr
     cases hr
   ·rfl
  ·rfl
end Lb
end Go.Proofs.YtgcpinnnfoanjaaGreatDoor
namespace Go.Proofs.YtgcpinnnfoanjaaGreatDoor
open Go.RowKit
theorem ret_t4 {fn : Func} {p q r s : Tmp} (h : fn.results = #[.tmp p, .tmp q, .tmp r, .tmp s]) {tmps : Array Value} {W : World} {a b c d : Value} (hp : tmps.getD p undef = a) (hq : tmps.getD q undef = b) (hr : tmps.getD r undef = c) (hs : tmps.getD s undef = d) {post : Ending → World → Prop} (hpost : post (.returned (.tuple #[a, b, c, d])) W) :
  bodyPost Tryz.prog fn post Exit.ret { tmps := tmps, defers := [] } W := by
 refine bodyPost_ret ?_ rfl hpost
 have hp' : tmps[p]?.getD undef = a := by simpa using hp
 have hq' : tmps[q]?.getD undef = b := by simpa using hq
 have hr' : tmps[r]?.getD undef = c := by simpa using hr
 have hs' : tmps[s]?.getD undef = d := by simpa using hs
 simp [results, h, hp', hq', hr', hs']
def RdfP (s : List UInt8) (at_ : Nat) (w : World) (e : Ending) (w' : World) : Prop := Below w.heap.size w w' ∧ match Lb.readM (s.drop (at_ + 2)) with
 | some x => e = .returned (.tuple #[.string ⟨x.1.toArray⟩, .string ⟨x.2.1.toArray⟩, .int .i64 ((at_ + 2 + x.2.2 : Nat) : Int), .bool true])
 | none => e = .returned (.tuple #[.string ⟨#[]⟩, .string ⟨#[]⟩, .int .i64 0, .bool false])
set_option maxHeartbeats 8000000 in
set_option maxRecDepth 1000000 in
theorem rref_any (s : List UInt8) (at_ : Nat) (w : World) (hl : at_ + 2 ≤ s.length) (hs : s.length ≤ 1000000) :
  Calls Tryz.prog 39 #[.string ⟨s.toArray⟩, .int .i64 (at_ : Int)] w (RdfP s at_ w) := by
 obtain ⟨b, hb⟩ : ∃ b, at_ + 2 = b := ⟨_, rfl⟩
 obtain ⟨q, hq⟩ : ∃ q, s.drop b = q := ⟨_, rfl⟩
 have hql : q.length = s.length - b := by rw [← hq, List.length_drop]
 have hw1 : IntKind.i64.wrap ((at_ : Int) + 2) = (b : Int) := by rw [IntWalk.i64_in _ (by omega)]; omega
 have HNO : Hid (∀ w', Below w.heap.size w w' → Lb.refB q = none → RdfP s at_ w (.returned (.tuple #[.string ⟨#[]⟩, .string ⟨#[]⟩, .int .i64 0, .bool false])) w') := Lib.hid (fun w' h1 h2 => ⟨h1, by rw [hb, hq, ← Lb.refB_eq, h2]⟩)
 have HYES : Hid (∀ w' (x : List UInt8 × List UInt8 × Nat), Below w.heap.size w w' → Lb.refB q = some x → RdfP s at_ w (.returned (.tuple #[.string ⟨x.1.toArray⟩, .string ⟨x.2.1.toArray⟩, .int .i64 ((b + x.2.2 : Nat) : Int), .bool true])) w') := Lib.hid (fun w' x h1 h2 => ⟨h1, by rw [hb, hq, ← Lb.refB_eq, h2]⟩)
 have HCU : Hid (∀ (l : List UInt8) (W : World), l.length ≤ 1000000 → Calls Tryz.prog 42 #[.string ⟨l.toArray⟩, .int .u8 58] W fun e w' =>
   e = .returned (.tuple #[.string ⟨(Asc.cutA l 58).toArray⟩, .string ⟨(Asc.cutB l 58).toArray⟩, .bool (Asc.has l 58)]) ∧ Below W.heap.size W w') := Lib.hid (fun l W h => rcut_any l 58 W (by omega))
 have HNM := Lib.hid fun (l : List UInt8) W (h : l.length ≤ 1000000) => rname_any l W (by omega)
 have HQ := Lib.hid hq
 have hbl : b ≤ s.length := by omega
 clear hb hq hl
 go_enter Tryz.func39, Tryz.ntmps39
 go_wp2_with fail
 go_loop [9] (fun i => ∃ k : Nat, b ≤ k ∧ k ≤ s.length ∧ i = .int .i64 k ∧ Hid (∀ j (hj : j < s.length), b ≤ j → j < k → s[j] ≠ 125)) (fun i => s.length - (intOf i).toNat)
 case atStart => exact ⟨b, Nat.le_refl _, hbl, rfl, Lib.hid (fun j _ h1 h2 => by omega)⟩
 case round =>
  obtain ⟨k, hbk, hk, rfl, HA⟩ := hrel
  by_cases hlt : k < s.length
  ·obtain ⟨d, ⟨_, hx⟩, hd, hd2⟩ := byte_at s k hlt
   have HD := Lib.hid hd
   have z1 : decide ((k : Int) < (s.length : Int)) = true := decide_eq_true (by omega)
   have y1 : decide (k < s.length) = true := decide_eq_true hlt
   have z2 : decide ((s.length : Int) ≤ (k : Int)) = false := decide_eq_false (by omega)
   have y2 : decide (s.length ≤ k) = false := decide_eq_false (by omega)
   have i1 : (k : Int) < (s.length : Int) := by omega
   have i2 : (0 : Int) ≤ (k : Int) := by omega
   clear hd
   by_cases he : d = 125
   ·subst he
    obtain ⟨m, hm⟩ : ∃ m, k - b = m := ⟨_, rfl⟩
    have hpos : Asc.pos q 125 = m := by
     subst hm
     refine Asc.pos_eq (by omega) ?_ (fun j hj => ?_)
     ·have : s[k] = 125 := UInt8.toNat_inj.1 HD.out
      simp only [← HQ.out, List.getElem_drop]
      rw [← this]
      congr 1
      omega
     ·simp only [← HQ.out, List.getElem_drop]
      exact HA.out (b + j) (by omega) (by omega) (by omega)
    have hmq : m < q.length := by omega
    obtain ⟨B, hB⟩ : ∃ B, q.take m = B := ⟨_, rfl⟩
    have hBl : B.length ≤ 1000000 := by rw [← hB, List.length_take]; omega
    have x1 : (ByteArray.mk s.toArray).extract b k = ⟨B.toArray⟩ := by rw [Asc.extract_seg]; unfold Asc.seg; rw [HQ.out, hm, hB]
    have j1 : (b : Int) ≤ (k : Int) := by omega
    have j2 : (0 : Int) ≤ (b : Int) := by omega
    have j3 : (k : Int) ≤ (s.length : Int) := by omega
    have HRB : Hid (Lb.refB q = if nmB (Asc.cutA B 58) = true ∧ (Asc.has B 58 = true → nmB (Asc.cutB B 58) = true) then some (Asc.cutA B 58, Asc.cutB B 58, m + 1) else none) := Lib.hid (by unfold Lb.refB; rw [hpos, if_pos hmq, hB])
    have HC := Lib.hid fun W => HCU.out B W hBl
    have hAl : (Asc.cutA B 58).length ≤ 1000000 := by unfold Asc.cutA; rw [List.length_take]; omega
    have hDl : (Asc.cutB B 58).length ≤ 1000000 := by unfold Asc.cutB; rw [List.length_drop]; omega
    have HN1 := Lib.hid fun W => HNM.out (Asc.cutA B 58) W hAl
    have HN2 := Lib.hid fun W => HNM.out (Asc.cutB B 58) W hDl
    have hw2 : IntKind.i64.wrap ((k : Int) + 1) = ((b + (m + 1) : Nat) : Int) := by rw [IntWalk.i64_in _ (by omega)]; omega
    obtain ⟨A, hA⟩ : ∃ A, Asc.cutA B 58 = A := ⟨_, rfl⟩
    obtain ⟨D, hD⟩ : ∃ D, Asc.cutB B 58 = D := ⟨_, rfl⟩
    obtain ⟨f, hf⟩ : ∃ f, Asc.has B 58 = f := ⟨_, rfl⟩
    rw [hA, hD, hf] at HC HRB
    rw [hA] at HN1
    rw [hD] at HN2
    obtain ⟨na, hna⟩ : ∃ x, nmB A = x := ⟨_, rfl⟩
    obtain ⟨nd, hnd⟩ : ∃ x, nmB D = x := ⟨_, rfl⟩
    rw [hna] at HN1 HRB
    rw [hnd] at HN2 HRB
    clear hpos hB hBl hAl hDl hA hD hf hna hnd HA HQ HNM HCU hm hmq hd2 HD
    go_wp2_with fail
    refine (HC.out _).mono ?_
    rintro e w2 ⟨rfl, hb2⟩
    have HB2 := Lib.hid hb2
    clear hb2
    cases na with
    | false =>
     have HR := Lib.hid (HRB.out.trans (if_neg (fun h => by cases h.1)))
     cases f <;> (go_wp2_with fail; refine (HN1.out _).mono ?_; rintro e w3 ⟨rfl, rfl⟩; go_wp2_with fail; exact ret_t4 (p := 4) (q := 5) (r := 6) (s := 7) rfl (by rfl) (by rfl) (by rfl) (by rfl) (HNO.out _ HB2.out HR.out))
    | true =>
     cases f with
     | false =>
      have HR := Lib.hid (HRB.out.trans (if_pos ⟨rfl, fun h => by cases h⟩))
      go_wp2_with fail
      refine (HN1.out _).mono ?_
      rintro e w3 ⟨rfl, rfl⟩
      go_wp2_with fail
      exact ret_t4 (p := 4) (q := 5) (r := 6) (s := 7) rfl (by rfl) (by rfl) (by rfl) (by rfl) (HYES.out _ _ HB2.out HR.out)
     | true =>
      cases nd with
      | false =>
       have HR := Lib.hid (HRB.out.trans (if_neg (fun h => by cases h.2 rfl)))
       go_wp2_with fail
       refine (HN1.out _).mono ?_
       rintro e w3 ⟨rfl, rfl⟩
       go_wp2_with fail
       refine (HN2.out _).mono ?_
       rintro e w3 ⟨rfl, rfl⟩
       go_wp2_with fail
       exact ret_t4 (p := 4) (q := 5) (r := 6) (s := 7) rfl (by rfl) (by rfl) (by rfl) (by rfl) (HNO.out _ HB2.out HR.out)
      | true =>
       have HR := Lib.hid (HRB.out.trans (if_pos ⟨rfl, fun _ => rfl⟩))
       go_wp2_with fail
       refine (HN1.out _).mono ?_
       rintro e w3 ⟨rfl, rfl⟩
       go_wp2_with fail
       refine (HN2.out _).mono ?_
       rintro e w3 ⟨rfl, rfl⟩
       go_wp2_with fail
       exact ret_t4 (p := 4) (q := 5) (r := 6) (s := 7) rfl (by rfl) (by rfl) (by rfl) (by rfl) (HYES.out _ _ HB2.out HR.out)
   ·have hq1 : ((d : Int) == 125) = false := by rw [beq_eq_false_iff_ne]; omega
    have hq2 : ((d : Int) != 125) = true := by simp; omega
    have HE : Hid (s[k] ≠ 125) := Lib.hid (fun h => he (by rw [← HD.out, h]; rfl))
    have hw2 : IntKind.i64.wrap ((k : Int) + 1) = (k : Int) + 1 := IntWalk.i64_in _ (by omega)
    clear he
    go_wp2_with fail
    go_round
    case rel => exact ⟨k + 1, by omega, by omega, by go_num, Lib.hid (fun j hj h1 h => by rcases Nat.lt_or_ge j k with c | c; exact HA.out j hj h1 c; (obtain rfl : j = k := by omega); exact HE.out)⟩
    case measure => simp [intOf]; omega
  ·have z1 : decide ((k : Int) < (s.length : Int)) = false := decide_eq_false (by omega)
   have y1 : decide (k < s.length) = false := decide_eq_false hlt
   have z2 : decide ((s.length : Int) ≤ (k : Int)) = true := decide_eq_true (by omega)
   have y2 : decide (s.length ≤ k) = true := decide_eq_true (by omega)
   have HR : Hid (Lb.refB q = none) := Lib.hid (by
    unfold Lb.refB
    rw [if_neg (Asc.pos_none (fun j hj => ?_))]
    simp only [← HQ.out, List.getElem_drop]
    exact HA.out (b + j) (by omega) (by omega) (by omega))
   clear HQ HA
   go_wp2_with fail
   exact ret_t4 (p := 4) (q := 5) (r := 6) (s := 7) rfl (by rfl) (by rfl) (by rfl) (by rfl) (HNO.out _ (Below.refl _ _) HR.out)
end Go.Proofs.YtgcpinnnfoanjaaGreatDoor
namespace Go.Proofs.YtgcpinnnfoanjaaGreatDoor
open Go.RowKit
def RfindP (l : List Lb.Def) (nm : List UInt8) (w : World) (e : Ending) (w' : World) : Prop := w = w' ∧ match Lb.findM l nm with
 | some i => e = .returned (.tuple #[.string ⟨(Lb.srcOf l i).toArray⟩, .bool true])
 | none => e = .returned (.tuple #[.string ⟨#[]⟩, .bool false])
set_option maxHeartbeats 4000000 in
set_option maxRecDepth 1000000 in
theorem rfind_any (l : List Lb.Def) (nm : List UInt8) (v : Value) (w : World) (h : DfAt w l v) :
  Calls Tryz.prog 29 #[v, .string ⟨nm.toArray⟩] w (RfindP l nm w) := by
 obtain ⟨a, c, rfl, hm, hk⟩ := h
 have HK := Lib.hid hk
 have HYES : Hid (∀ k, Lb.findM l nm = some k → RfindP l nm w (.returned (.tuple #[.string ⟨(Lb.srcOf l k).toArray⟩, .bool true])) w) := Lib.hid (fun k h => ⟨rfl, by rw [h]⟩)
 have HNO : Hid (Lb.findM l nm = none → RfindP l nm w (.returned (.tuple #[.string ⟨#[]⟩, .bool false])) w) := Lib.hid (fun h => ⟨rfl, by rw [h]⟩)
 clear hk
 go_enter Tryz.func29, Tryz.ntmps29
 go_wp2_with fail
 go_loop [6] (fun i => ∃ k : Nat, i = .int .i64 k ∧ k ≤ l.length ∧ Hid (∀ j (h : j < l.length), j < k → l[j].1 ≠ nm)) (fun i => l.length - (intOf i).toNat)
 case atStart => exact ⟨0, rfl, by omega, Lib.hid (fun _ _ h => by omega)⟩
 case round =>
  obtain ⟨k, rfl, hkl, HN⟩ := hrel
  by_cases hlt : k < l.length
  ·obtain ⟨blk, off, rfl, hbl, e0, e1⟩ := HK.out k hlt
   have i1 : (k : Int) < (l.length : Int) := by omega
   have i2 : (0 : Int) ≤ (k : Int) := by omega
   have hw1 : IntKind.i64.wrap ((k : Int) + 1) = (k : Int) + 1 := IntWalk.i64_in _ (by omega)
   have HFK : Hid (l[k].1 = nm → Lb.findM l nm = some k) := Lib.hid (fun h => Lb.findM_at hlt h HN.out)
   have HNK : Hid (l[k].1 ≠ nm → ∀ j (h : j < l.length), j < k + 1 → l[j].1 ≠ nm) := Lib.hid (fun h j hj hjk => by
    by_cases e : j = k
    ·subst e; exact h
    ·exact HN.out j hj (by omega))
   have HSK : Hid (Lb.srcOf l k = l[k].2) := Lib.hid (by unfold Lb.srcOf; rw [List.getElem?_eq_getElem hlt]; rfl)
   obtain ⟨d, hd⟩ : ∃ d, l[k] = d := ⟨_, rfl⟩
   rw [hd] at e0 e1 HFK HNK HSK
   obtain ⟨n1, s1⟩ := d
   simp only at e0 e1
   have z0 : decide ((k : Int) < (l.length : Int)) = true := decide_eq_true (by omega)
   have y0 : decide (k < l.length) = true := decide_eq_true hlt
   clear hd
   by_cases he : n1 = nm
   ·have HF := Lib.hid (HFK.out he)
    subst he
    go_wp2_with fail
    go_ret2
    have := HYES.out _ HF.out
    rw [HSK.out] at this
    exact this
   ·have HN2 := Lib.hid (HNK.out he)
    have z1 : (n1 == nm) = false := beq_eq_false_iff_ne.2 he
    clear he
    go_wp2_with fail
    all_goals try (exfalso; simp_all; done)
    go_round
    case rel => exact ⟨k + 1, by go_num, by omega, HN2⟩
    case measure => simp [intOf]; omega
  ·have z1 : decide ((k : Int) < (l.length : Int)) = false := decide_eq_false (by omega)
   have y1 : decide (k < l.length) = false := decide_eq_false hlt
   have HF := Lib.hid (Lb.findM_no (l := l) (nm := nm) fun j hj => HN.out j hj (by omega))
   go_wp2_with fail
   go_ret2
   exact HNO.out HF.out
def NmAt (w : World) (l : List (List UInt8)) (v : Value) : Prop := ∃ a c, v = .slice a l.length c ∧ l.length ≤ 1000000 ∧
  (∀ i (h : i < l.length), ∃ blk off, a = some ⟨blk, off, none⟩ ∧ blk < w.heap.size ∧ w.cell? ⟨blk, off + i, none⟩ = some (.string ⟨l[i].toArray⟩))
theorem NmAt.later {w w' : World} (hb : Below w.heap.size w w') {l : List (List UInt8)} {v : Value} (h : NmAt w l v) : NmAt w' l v := by
 obtain ⟨a, c, e, hm, hk⟩ := h
 refine ⟨a, c, e, hm, fun i hi => ?_⟩
 obtain ⟨blk, off, e1, hl, c0⟩ := hk i hi
 exact ⟨blk, off, e1, Nat.lt_of_lt_of_le hl hb.size, (hb.cell (p := ⟨blk, off + i, none⟩) hl).trans c0⟩
set_option maxHeartbeats 4000000 in
set_option maxRecDepth 1000000 in
theorem rhas_any (l : List (List UInt8)) (nm : List UInt8) (v : Value) (w : World) (h : NmAt w l v) :
  Calls Tryz.prog 54 #[v, .string ⟨nm.toArray⟩] w fun e w' => e = .returned (.bool (decide (nm ∈ l))) ∧ w = w' := by
 obtain ⟨a, c, rfl, hm, hk⟩ := h
 have HK := Lib.hid hk
 obtain ⟨R, hR⟩ : ∃ R, decide (nm ∈ l) = R := ⟨_, rfl⟩
 have HYES : Hid (nm ∈ l → R = true) := Lib.hid (fun h => by rw [← hR]; exact decide_eq_true h)
 have HNO : Hid (nm ∉ l → R = false) := Lib.hid (fun h => by rw [← hR]; exact decide_eq_false h)
 rw [hR]
 clear hk hR
 go_enter Tryz.func54, Tryz.ntmps54
 go_wp2_with fail
 go_loop [5] (fun i => ∃ k : Nat, i = .int .i64 k ∧ k ≤ l.length ∧ Hid (∀ j (h : j < l.length), j < k → l[j] ≠ nm)) (fun i => l.length - (intOf i).toNat)
 case atStart => exact ⟨0, rfl, by omega, Lib.hid (fun _ _ h => by omega)⟩
 case round =>
  obtain ⟨k, rfl, hkl, HN⟩ := hrel
  by_cases hlt : k < l.length
  ·obtain ⟨blk, off, rfl, hbl, e0⟩ := HK.out k hlt
   have i1 : (k : Int) < (l.length : Int) := by omega
   have i2 : (0 : Int) ≤ (k : Int) := by omega
   have hw1 : IntKind.i64.wrap ((k : Int) + 1) = (k : Int) + 1 := IntWalk.i64_in _ (by omega)
   have HIN : Hid (l[k] ∈ l) := Lib.hid (List.getElem_mem hlt)
   have HNK : Hid (l[k] ≠ nm → ∀ j (h : j < l.length), j < k + 1 → l[j] ≠ nm) := Lib.hid (fun h j hj hjk => by
    by_cases e : j = k
    ·subst e; exact h
    ·exact HN.out j hj (by omega))
   obtain ⟨n1, hd⟩ : ∃ d, l[k] = d := ⟨_, rfl⟩
   rw [hd] at e0 HNK HIN
   have z0 : decide ((k : Int) < (l.length : Int)) = true := decide_eq_true (by omega)
   have y0 : decide (k < l.length) = true := decide_eq_true hlt
   clear hd
   by_cases he : n1 = nm
   ·subst he
    have HF := Lib.hid (HYES.out HIN.out)
    go_wp2_with fail
    go_ret
    rw [HF.out]
    exact ⟨rfl, rfl⟩
   ·have HN2 := Lib.hid (HNK.out he)
    have z1 : (n1 == nm) = false := beq_eq_false_iff_ne.2 he
    clear he
    go_wp2_with fail
    all_goals try (exfalso; simp_all; done)
    go_round
    case rel => exact ⟨k + 1, by go_num, by omega, HN2⟩
    case measure => simp [intOf]; omega
  ·have z1 : decide ((k : Int) < (l.length : Int)) = false := decide_eq_false (by omega)
   have y1 : decide (k < l.length) = false := decide_eq_false hlt
   have HF := Lib.hid (HNO.out (fun h => by
    obtain ⟨j, hj, e⟩ := List.mem_iff_getElem.1 h
    exact HN.out j hj (by omega) e))
   go_wp2_with fail
   go_ret
   rw [HF.out]
   exact ⟨rfl, rfl⟩
end Go.Proofs.YtgcpinnnfoanjaaGreatDoor
namespace Go.Proofs.YtgcpinnnfoanjaaGreatDoor
open Go.RowKit
namespace Lb
def RfAt (s : List UInt8) (i : Nat) (R : Option (List Ref)) : Prop := ∃ n, s.length < i + n ∧ rfs s n i = R
theorem RfAt.start (s : List UInt8) : RfAt s 0 (refsM s) := ⟨s.length + 1, by omega, rfl⟩
theorem beg_iff (s : List UInt8) (i : Nat) : beg s i = true ↔ s[i]? = some 37 ∧ s[i + 1]? = some 123 := by
 have key : ∀ (k : Nat) (c : UInt8), Asc.at_ s k = c.toNat ↔ s[k]? = some c := by
  intro k c
  unfold Asc.at_
  cases hk : s[k]? with
  | none => exact ⟨fun h => absurd h (by have := c.toNat_lt; simp only; omega), fun h => by cases h⟩
  | some x => exact ⟨fun h => by rw [UInt8.toNat_inj.1 h], fun h => by cases h; rfl⟩
 unfold beg
 rw [decide_eq_true_iff]
 exact and_congr (key i 37) (key (i + 1) 123)
theorem cut_no {s : List UInt8} {i : Nat} (hi : i < s.length) (h : beg s i = false) : cutPM (s.drop i) = (cutPM (s.drop (i + 1))).map fun x => (s[i] :: x.1, x.2) := by
 rw [List.drop_eq_getElem_cons hi, cutPM, if_neg]
 rintro ⟨h1, h2⟩
 have : beg s i = true := (beg_iff s i).2 ⟨by rw [List.getElem?_eq_getElem hi, h1], by rw [← h2, List.head?_drop]⟩
 rw [h] at this
 cases this
theorem cut_yes {s : List UInt8} {i : Nat} (h : beg s i = true) : cutPM (s.drop i) = some ([], s.drop (i + 2)) ∧ i + 2 ≤ s.length := by
 obtain ⟨h1, h2⟩ := (beg_iff s i).1 h
 obtain ⟨hi, e1⟩ := List.getElem?_eq_some_iff.1 h1
 obtain ⟨hi2, _⟩ := List.getElem?_eq_some_iff.1 h2
 refine ⟨?_, by omega⟩
 rw [List.drop_eq_getElem_cons hi, cutPM, if_pos ⟨e1, by rw [List.head?_drop]; exact h2⟩, List.tail_drop]
theorem RfAt.no {s : List UInt8} {i : Nat} {R : Option (List Ref)} (h : RfAt s i R) (hi : i < s.length) (hb : beg s i = false) : RfAt s (i + 1) R := by
 obtain ⟨n, hn, hr⟩ := h
 refine ⟨n, by omega, ?_⟩
 rw [← hr]
 cases n with
 | zero => omega
 | succ n =>
  rw [rfs, rfs, cut_no hi hb]
  cases cutPM (s.drop (i + 1)) with
  | none => rfl
  | some x =>
   obtain ⟨p, q⟩ := x
   simp only [Option.map_some, List.length_cons]
   rw [show i + (p.length + 1) = i + 1 + p.length by omega]
theorem RfAt.yes {s : List UInt8} {i : Nat} {R : Option (List Ref)} (h : RfAt s i R) (hb : beg s i = true) : match readM (s.drop (i + 2)) with
  | none => R = none
  | some (nm, fd, k) => i + 2 + k ≤ s.length ∧ ∃ R', RfAt s (i + 2 + k) R' ∧ R = R'.map (⟨i, i + 2 + k, nm, fd⟩ :: ·) := by
 obtain ⟨n, hn, hr⟩ := h
 obtain ⟨hc, hl⟩ := cut_yes hb
 cases n with
 | zero => omega
 | succ n =>
  rw [rfs, hc] at hr
  simp only at hr
  cases hm : readM (s.drop (i + 2)) with
  | none => rw [hm] at hr; exact hr.symm
  | some x =>
   obtain ⟨nm, fd, k⟩ := x
   rw [hm] at hr
   simp only [List.length_nil, Nat.add_zero] at hr
   have hk := readM_le hm
   rw [List.length_drop] at hk
   exact ⟨by omega, _, ⟨n, by omega, rfl⟩, hr.symm⟩
theorem RfAt.fin {s : List UInt8} {i : Nat} {R : Option (List Ref)} (h : RfAt s i R) (hi : s.length ≤ i) (hi2 : i ≤ s.length) : R = some [] := by
 obtain ⟨n, hn, hr⟩ := h
 cases n with
 | zero => omega
 | succ n =>
  rw [rfs, List.drop_eq_nil_of_le hi] at hr
  exact hr.symm
end Lb
end Go.Proofs.YtgcpinnnfoanjaaGreatDoor
namespace Go.Proofs.YtgcpinnnfoanjaaGreatDoor
open Go.RowKit
def SnR (x : List UInt8) (us : List Value) : Prop := us = [.string ⟨x.toArray⟩]
def NmsP (s : List UInt8) (w : World) (e : Ending) (w' : World) : Prop := Below w.heap.size w w' ∧ match Lb.refsM s with
 | none => e = .returned (.tuple #[.slice none 0 0, .int .i64 1])
 | some L => ∃ v, e = .returned (.tuple #[v, .int .i64 0]) ∧ OR w.heap.size 9 1 SnR w' (L.map (·.nm)) v
def NamesP (s : List UInt8) (w : World) (e : Ending) (w' : World) : Prop := Below w.heap.size w w' ∧
 (((Lb.refsM s).isNone = true ∧ e = .returned (.tuple #[.slice none 0 0, .int .i64 1])) ∨ ((Lb.refsM s).isNone = false ∧ ∃ v, e = .returned (.tuple #[v, .int .i64 0])))
theorem NmsP.p {s : List UInt8} {w : World} {e : Ending} {w' : World} (h : NmsP s w e w') : NamesP s w e w' := by
 obtain ⟨hb, h⟩ := h
 refine ⟨hb, ?_⟩
 cases hr : Lb.refsM s with
 | none => rw [hr] at h; exact .inl ⟨rfl, h⟩
 | some L => rw [hr] at h; obtain ⟨v, h, _⟩ := h; exact .inr ⟨rfl, v, h⟩
def NmI (s : List UInt8) (k : Nat) (xs : List (List UInt8)) : Prop := ∃ R pre, Lb.RfAt s k R ∧ pre.map (fun r : Lb.Ref => r.nm) = xs ∧ Lb.refsM s = R.map (pre ++ ·)
theorem NmI.yes {s : List UInt8} {k : Nat} {xs : List (List UInt8)} (h : NmI s k xs) (hb : Lb.beg s k = true) : match Lb.readM (s.drop (k + 2)) with
  | none => Lb.refsM s = none
  | some (nm, _, j) => k + 2 + j ≤ s.length ∧ NmI s (k + 2 + j) (xs ++ [nm]) := by
 obtain ⟨R, pre, h1, h2, h3⟩ := h
 have := h1.yes hb
 cases hm : Lb.readM (s.drop (k + 2)) with
 | none =>
  rw [hm] at this
  simp only at this ⊢
  rw [h3, this]
  rfl
 | some x =>
  obtain ⟨nm, fd, j⟩ := x
  rw [hm] at this
  obtain ⟨h4, R', h5, h6⟩ := this
  refine ⟨h4, R', pre ++ [⟨k, k + 2 + j, nm, fd⟩], h5, by rw [List.map_append, h2]; rfl, ?_⟩
  rw [h3, h6]
  cases R' with
  | none => rfl
  | some L => simp
set_option maxHeartbeats 8000000 in
set_option maxRecDepth 1000000 in
theorem rnames_full (s : List UInt8) (w : World) (hs : s.length ≤ 1000000) : Calls Tryz.prog 19 #[.string ⟨s.toArray⟩] w (NmsP s w) := by
 have HBG := Lib.hid fun (i : Nat) (hi : i ≤ 1000000) W => rbegins_any s i hi W
 have HRF := Lib.hid fun (i : Nat) (hi : i + 2 ≤ s.length) W => rref_any s i W hi hs
 have HI0 : Hid (NmI s 0 []) := Lib.hid ⟨_, [], Lb.RfAt.start s, rfl, by cases Lb.refsM s <;> rfl⟩
 have HBAD : Hid (Lb.refsM s = none → ∀ w', Below w.heap.size w w' → NmsP s w (.returned (.tuple #[.slice none 0 0, .int .i64 1])) w') := Lib.hid (fun h w' hb => ⟨hb, by rw [h]⟩)
 have HOK : Hid (∀ xs v w', NmI s s.length xs → Below w.heap.size w w' → OR w.heap.size 9 1 SnR w' xs v → NmsP s w (.returned (.tuple #[v, .int .i64 0])) w') := Lib.hid (fun xs v w' ⟨R, pre, h1, h2, h3⟩ hb ho => ⟨hb, by
  rw [h3, h1.fin (Nat.le_refl _) (Nat.le_refl _)]
  refine ⟨v, rfl, ?_⟩
  simp only [List.append_nil]
  rw [h2]
  exact ho⟩)
 go_enter Tryz.func19, Tryz.ntmps19
 go_wp2_with fail
 go_loopw [4, 5] (fun v i wr => ∃ (k : Nat) (xs : List (List UInt8)), i = .int .i64 k ∧ k ≤ s.length ∧ Hid (NmI s k xs) ∧ xs.length ≤ k ∧ Hid (OR w.heap.size 9 1 SnR wr xs v) ∧ Hid (Below w.heap.size w wr)) (fun _ i _ => s.length - (intOf i).toNat)
 case atStart => exact ⟨0, [], rfl, by omega, HI0, by simp, Lib.hid OR.nil, Lib.hid (Below.refl _ _)⟩
 case round =>
  obtain ⟨k, xs, rfl, hk, HI, hx, HO, HB⟩ := hrel
  clear HI0
  by_cases hlt : k < s.length
  ·have z1 : decide ((k : Int) < (s.length : Int)) = true := decide_eq_true (by omega)
   have y1 : decide (k < s.length) = true := decide_eq_true hlt
   have HBK := Lib.hid (HBG.out k (by omega))
   obtain ⟨bg, hbg⟩ : ∃ b, Lb.beg s k = b := ⟨_, rfl⟩
   rw [hbg] at HBK
   cases bg with
   | false =>
    have HI2 : Hid (NmI s (k + 1) xs) := Lib.hid (by
     obtain ⟨R, pre, h1, h2, h3⟩ := HI.out
     exact ⟨R, pre, h1.no hlt hbg, h2, h3⟩)
    have hw1 : IntKind.i64.wrap ((k : Int) + 1) = (k : Int) + 1 := IntWalk.i64_in _ (by omega)
    clear hbg
    go_wp2_with fail
    refine (HBK.out _).mono ?_
    rintro e w2 ⟨rfl, rfl⟩
    go_wp2_with fail
    refine ⟨⟨k + 1, xs, by go_num, by omega, HI2, by omega, HO, HB⟩, by simp [intOf]; omega⟩
   | true =>
    have hk2 := (Lb.cut_yes hbg).2
    have HRK := Lib.hid (HRF.out k hk2)
    have HYS := Lib.hid (HI.out.yes hbg)
    clear hbg
    go_wp2_with fail
    refine (HBK.out _).mono ?_
    rintro e w2 ⟨rfl, rfl⟩
    go_wp2_with fail
    refine (HRK.out _).mono ?_
    rintro e w2 ⟨hb, hm⟩
    have HB2 := Lib.hid (HB.out.trans (hb.mono HB.out.size))
    have HO2 := Lib.hid (HO.out.keep (fun j _ hj => hb.block j hj) (fun _ _ h => h))
    cases hr : Lb.readM (s.drop (k + 2)) with
    | none =>
     rw [hr] at hm HYS
     subst hm
     clear hb hr
     go_wp2_with fail
     go_ret2
     exact HBAD.out HYS.out _ HB2.out
    | some x =>
     obtain ⟨nm, fd, j⟩ := x
     rw [hr] at hm HYS
     simp only at hm
     subst hm
     obtain ⟨hj1, hj2⟩ := HYS.out
     have HI2 := Lib.hid hj2
     obtain ⟨cs, hown, hpush⟩ := HO2.out.cells
     have HPU := Lib.hid hpush
     have hsz := HB2.out.size
     obtain ⟨ra, rc, rfl, _⟩ := HO2.out.rw (F := fun _ => True) (fun _ _ => trivial)
     clear hb hr hpush hj2
     go_wp2_with (at_builtin; refine wpList_append_1 rfl _ _ 32 9 (.string ⟨#[]⟩) 16 rfl Tryz.underlying32 infoStr rfl w.heap.size _ _ _ rfl hown (.string ⟨nm.toArray⟩) rfl rfl (by omega) (by omega) hsz ?_; intro v' w3 hown' hgrow; have HB3 := Lib.hid (own_step HB2.out hown hgrow); have HO3 := Lib.hid (HPU.out SnR w3 nm [.string ⟨nm.toArray⟩] v' (fun _ _ h => h) rfl rfl (by omega) hown'); clear hown hown' hgrow)
     refine ⟨⟨k + 2 + j, xs ++ [nm], by go_num, hj1, HI2, by simp; omega, HO3, HB3⟩, by simp [intOf]; omega⟩
  ·have z1 : decide ((k : Int) < (s.length : Int)) = false := decide_eq_false (by omega)
   have y1 : decide (k < s.length) = false := decide_eq_false hlt
   obtain rfl : k = s.length := by omega
   go_wp2_with fail
   go_ret2
   exact HOK.out _ _ _ HI.out HB.out HO.out
theorem rnames_any (s : List UInt8) (w : World) (hs : s.length ≤ 1000000) : Calls Tryz.prog 19 #[.string ⟨s.toArray⟩] w (NamesP s w) := (rnames_full s w hs).mono fun _ _ h => h.p
end Go.Proofs.YtgcpinnnfoanjaaGreatDoor
namespace Go.Proofs.YtgcpinnnfoanjaaGreatDoor
open Go.RowKit
namespace Lb
def NmsOk (l : List Def) (b : List Nat) (ns : List (List UInt8)) : Prop := ∀ nm i, findM l nm = some i → (nm ∈ ns ↔ i ∈ b)
theorem NmsOk.nil (l : List Def) : NmsOk l [] [] := fun _ _ _ => by simp
theorem findM_name {l : List Def} {nm : List UInt8} {i : Nat} (h : findM l nm = some i) : ∃ h : i < l.length, l[i].1 = nm := by
 unfold findM at h
 rw [List.findIdx?_eq_some_iff_getElem] at h
 obtain ⟨h1, h2, _⟩ := h
 exact ⟨h1, by simpa using h2⟩
theorem NmsOk.push {l : List Def} {b : List Nat} {ns : List (List UInt8)} (h : NmsOk l b ns) {nm : List UInt8} {i : Nat} (hi : findM l nm = some i) : NmsOk l (i :: b) (ns ++ [nm]) := by
 intro m j hj
 rw [List.mem_append, List.mem_singleton, List.mem_cons, h m j hj]
 constructor
 ·rintro (h1 | rfl)
  ·exact .inr h1
  ·rw [hi] at hj
   exact .inl (Option.some.inj hj).symm
 ·rintro (rfl | h1)
  ·obtain ⟨_, e1⟩ := findM_name hi
   obtain ⟨_, e2⟩ := findM_name hj
   exact .inr (e2.symm.trans e1)
  ·exact .inl h1
theorem expL_long {l : List Def} {sub : Nat → Res} {b : List Nat} {s : List UInt8} {L : List Ref} {i : Nat} {out : List UInt8} (h : 400 < out.length) : expL l sub b s L i out = .error 3 := by
 cases L with
 | nil => rw [expL, if_pos (by rw [List.length_append]; omega)]
 | cons r L => rw [expL, if_pos (by rw [List.length_append]; omega)]
theorem expL_byte {l : List Def} {sub : Nat → Res} {b : List Nat} {s : List UInt8} {L : List Ref} {i : Nat} {out : List UInt8} (h : RfAt s i (some L)) (hi : i < s.length) (hb : beg s i = false) : expL l sub b s L i out = expL l sub b s L (i + 1) (out ++ [s[i]]) := by
 have hd := List.drop_eq_getElem_cons hi
 cases L with
 | nil =>
  rw [expL, expL, hd, List.append_assoc]
  rfl
 | cons r L =>
  obtain ⟨n, _, hr⟩ := h.no hi hb
  have hp := rfs_pos s n (i + 1) _ hi hr
  have hfr : i + 1 ≤ r.fr := by
   unfold PosOk at hp
   exact hp.1
  have ht : (s.drop i).take (r.fr - i) = s[i] :: (s.drop (i + 1)).take (r.fr - (i + 1)) := by
   rw [hd, show r.fr - i = (r.fr - (i + 1)) + 1 by omega, List.take_succ_cons]
  rw [expL, expL, ht, List.append_assoc, List.singleton_append]
theorem expL_fin {l : List Def} {sub : Nat → Res} {b : List Nat} {s : List UInt8} {i : Nat} {out : List UInt8} (hi : s.length ≤ i) (ho : out.length ≤ 400) : expL l sub b s [] i out = .ok out := by
 rw [expL, List.drop_eq_nil_of_le hi, List.append_nil, if_neg (by omega)]
theorem expL_ref {l : List Def} {sub : Nat → Res} {b : List Nat} {s : List UInt8} {L : List Ref} {r : Ref} {i : Nat} {out : List UInt8} (hi : r.fr = i) (ho : out.length ≤ 400) : expL l sub b s (r :: L) i out = match findM l r.nm with
  | none => .error 6
  | some k => if k ∈ b then .error 8 else match sub k with
   | .error e => .error e
   | .ok t => expL l sub b s L r.to (out ++ 40 :: (fldL r.fd ++ t ++ [41])) := by
 have ht : (s.drop i).take (r.fr - i) = [] := by rw [hi, Nat.sub_self, List.take_zero]
 rw [expL, ht, List.append_nil, if_neg (by omega)]
 rfl
end Lb
end Go.Proofs.YtgcpinnnfoanjaaGreatDoor
namespace Go.Proofs.YtgcpinnnfoanjaaGreatDoor
open Go.RowKit
theorem sn_one : ∀ (x : List UInt8) us, SnR x us → ∀ u ∈ us, u.oneCell' = true := by
 intro x us h u hu
 unfold SnR at h
 subst h
 simp only [List.mem_singleton] at hu
 subst hu
 rfl
theorem NmAt.of_rw {w : World} {ns : List (List UInt8)} {v : Value} (h : RW (fun _ => True) 1 SnR w ns v) (hl : ns.length ≤ 1000000) : NmAt w ns v := by
 obtain ⟨a, c, rfl, _, hk⟩ := h
 refine ⟨a, c, rfl, hl, fun i hi => ?_⟩
 obtain ⟨blk, off, rfl, hbl, _, hel⟩ := hk (by omega)
 obtain ⟨us, hu, hc, hr⟩ := hel i hi
 unfold SnR at hr
 subst hr
 have := hc 0 (by decide)
 simp only [Nat.mul_one, Nat.add_zero] at this
 exact ⟨blk, off, rfl, hbl, this⟩
def RexpAt (l : List Lb.Def) (v : Value) (N : Nat) : Prop := ∀ (s : List UInt8) (b : List Nat) (ns : List (List UInt8)) (vo : Value) (w : World), DfAt w l v → RW (fun _ => True) 1 SnR w ns vo → Lb.NmsOk l b ns → ns.length + N ≤ 1000 → s.length ≤ 900000 → Lb.freeN l.length b < N →
  Calls Tryz.prog 34 #[v, .string ⟨s.toArray⟩, vo] w fun e w' => e = .returned (expV (Lb.expM l N s b)) ∧ Below w.heap.size w w'
theorem RexpAt.zero (l : List Lb.Def) (v : Value) : RexpAt l v 0 := fun _ _ _ _ _ _ _ _ _ _ h => by omega
def ExI (l : List Lb.Def) (N : Nat) (b : List Nat) (s : List UInt8) (R : Lb.Res) (k : Nat) (out : List UInt8) : Prop := ∃ L, Lb.RfAt s k (some L) ∧ Lb.expL l (fun i => Lb.expM l N (Lb.srcOf l i) (i :: b)) b s L k out = R
section
variable {l : List Lb.Def} {N : Nat} {b : List Nat} {s : List UInt8} {R : Lb.Res} {k : Nat} {out : List UInt8}
theorem ExI.long (h : ExI l N b s R k out) (ho : 400 < out.length) : R = .error 3 := by
 obtain ⟨L, _, hr⟩ := h
 rw [← hr]
 exact Lb.expL_long ho
theorem ExI.byte (h : ExI l N b s R k out) (hk : k < s.length) (hb : Lb.beg s k = false) : ExI l N b s R (k + 1) (out ++ [s[k]]) := by
 obtain ⟨L, h1, hr⟩ := h
 exact ⟨L, h1.no hk hb, by rw [← hr]; exact (Lb.expL_byte h1 hk hb).symm⟩
theorem ExI.fin (h : ExI l N b s R k out) (hk : s.length ≤ k) (hk2 : k ≤ s.length) (ho : out.length ≤ 400) : R = .ok out := by
 obtain ⟨L, h1, hr⟩ := h
 have := h1.fin hk hk2
 injection this with this
 subst this
 rw [← hr]
 exact Lb.expL_fin hk ho
theorem ExI.ref (h : ExI l N b s R k out) (hb : Lb.beg s k = true) (ho : out.length ≤ 400) : ∃ nm fd j, Lb.readM (s.drop (k + 2)) = some (nm, fd, j) ∧ k + 2 + j ≤ s.length ∧ (match Lb.findM l nm with
  | none => R = .error 6
  | some i => if i ∈ b then R = .error 8 else match Lb.expM l N (Lb.srcOf l i) (i :: b) with
   | .error e => R = .error e
   | .ok t => ExI l N b s R (k + 2 + j) (out ++ 40 :: (Lb.fldL fd ++ t ++ [41]))) := by
 obtain ⟨L, h1, hr⟩ := h
 have h2 := h1.yes hb
 cases hm : Lb.readM (s.drop (k + 2)) with
 | none => rw [hm] at h2; cases h2
 | some x =>
  obtain ⟨nm, fd, j⟩ := x
  rw [hm] at h2
  obtain ⟨hj, R', h3, h4⟩ := h2
  refine ⟨nm, fd, j, rfl, hj, ?_⟩
  cases R' with
  | none => cases h4
  | some L' =>
   simp only [Option.map_some, Option.some.injEq] at h4
   subst h4
   rw [Lb.expL_ref rfl ho] at hr
   cases hf : Lb.findM l nm with
   | none => rw [hf] at hr; exact hr.symm
   | some i =>
    rw [hf] at hr
    dsimp only at hr ⊢
    by_cases hib : i ∈ b
    ·rw [if_pos hib] at hr ⊢
     exact hr.symm
    ·rw [if_neg hib] at hr ⊢
     cases he : Lb.expM l N (Lb.srcOf l i) (i :: b) with
     | error e => rw [he] at hr; exact hr.symm
     | ok t => rw [he] at hr; exact ⟨L', h3, hr⟩
end
end Go.Proofs.YtgcpinnnfoanjaaGreatDoor
namespace Go.Proofs.YtgcpinnnfoanjaaGreatDoor
open Go.RowKit
set_option maxHeartbeats 16000000 in
set_option maxRecDepth 1000000 in
theorem RexpAt.succ (l : List Lb.Def) (v : Value) (hls : ∀ i (h : i < l.length), l[i].2.length ≤ 900000) (N : Nat) (ih : RexpAt l v N) : RexpAt l v (N + 1) := by
 intro s b ns vo w hdf hns hok hn hs hb
 have HD := Lib.hid hdf
 have HNS := Lib.hid hns
 have HOK := Lib.hid hok
 have HFR := Lib.hid hb
 have HLS := Lib.hid hls
 have HIH := Lib.hid ih
 obtain ⟨R, hR⟩ : ∃ R, Lb.expM l (N + 1) s b = R := ⟨_, rfl⟩
 have HX : Hid (R = match Lb.refsM s with | none => .error 1 | some L => Lb.expL l (fun i => Lb.expM l N (Lb.srcOf l i) (i :: b)) b s L 0 []) := Lib.hid (by rw [← hR, Lb.expM]; cases Lb.refsM s <;> rfl)
 rw [hR]
 obtain ⟨va, vc, rfl, hvl, _⟩ := hdf
 obtain ⟨oa, oc, rfl, _⟩ := hns
 have HNA := Lib.hid (rnames_any s w (by omega))
 have HBG := Lib.hid fun (i : Nat) (hi : i ≤ 1000000) W => rbegins_any s i hi W
 have HRF := Lib.hid fun (i : Nat) (hi : i + 2 ≤ s.length) W => rref_any s i W hi (by omega)
 clear hok hb hls ih hR
 go_enter Tryz.func34, Tryz.ntmps34
 go_wp2_with fail
 refine HNA.out.mono ?_
 rintro e w1 ⟨hb1, hm⟩
 have HB1 := Lib.hid hb1
 clear hb1 HNA
 rcases hm with ⟨hq, rfl⟩ | ⟨hq, x, rfl⟩
 ·have HR : Hid (R = .error 1) := Lib.hid (by
   have := HX.out
   cases hr : Lb.refsM s with
   | none => rw [hr] at this; exact this
   | some L => rw [hr] at hq; cases hq)
  clear hq HX
  go_wp2_with fail
  go_ret2
  exact ⟨by rw [HR.out]; rfl, HB1.out⟩
 ·have HI0 : Hid (ExI l N b s R 0 []) := Lib.hid (by
   have := HX.out
   cases hr : Lb.refsM s with
   | none => rw [hr] at hq; cases hq
   | some L =>
    rw [hr] at this
    exact ⟨L, by rw [← hr]; exact Lb.RfAt.start s, this.symm⟩)
  clear hq HX
  go_wp2_with fail
  go_loopw [10, 11] (fun ov at_ wr => ∃ (k : Nat) (out : List UInt8), ov = .string ⟨out.toArray⟩ ∧ at_ = .int .i64 k ∧ k ≤ s.length ∧ out.length ≤ 400 ∧ Hid (ExI l N b s R k out) ∧ Hid (Below w.heap.size w wr)) (fun _ at_ _ => s.length - (intOf at_).toNat)
  case atStart => exact ⟨0, [], rfl, rfl, by omega, by simp, HI0, HB1⟩
  case round =>
   obtain ⟨k, out, rfl, rfl, hk, ho, HI, HB⟩ := hrel
   clear HI0 HB1
   by_cases hlt : k < s.length
   ·have z1 : decide ((k : Int) < (s.length : Int)) = true := decide_eq_true (by omega)
    have y1 : decide (k < s.length) = true := decide_eq_true hlt
    have HBK := Lib.hid (HBG.out k (by omega))
    obtain ⟨bg, hbg⟩ : ∃ b, Lb.beg s k = b := ⟨_, rfl⟩
    rw [hbg] at HBK
    cases bg with
    | false =>
     have HI2 := Lib.hid (HI.out.byte hlt hbg)
     have hw1 : IntKind.i64.wrap ((k : Int) + 1) = (k : Int) + 1 := IntWalk.i64_in _ (by omega)
     have x1 : (ByteArray.mk s.toArray).extract k (k + 1) = ⟨[s[k]].toArray⟩ := by rw [Asc.extract_seg]; unfold Asc.seg; rw [Nat.add_sub_cancel_left, List.drop_eq_getElem_cons hlt]; rfl
     have x2 := ba_app out [s[k]]
     have hl2 : (out ++ [s[k]]).length = out.length + 1 := by simp
     obtain ⟨o1, ho1⟩ : ∃ o1, [s[k]] = o1 := ⟨_, rfl⟩
     have hl1 : o1.length = 1 := by rw [← ho1]; rfl
     rw [ho1] at HI2 x1 x2 hl2
     obtain ⟨o2, ho2⟩ : ∃ o2, out ++ o1 = o2 := ⟨_, rfl⟩
     rw [ho2] at HI2 x2 hl2
     have j1 : (0 : Int) ≤ (k : Int) := by omega
     have j2 : (k : Int) ≤ (k : Int) + 1 := by omega
     have j3 : (k : Int) + 1 ≤ (s.length : Int) := by omega
     have j4 : ((k : Int) + 1).toNat = k + 1 := by omega
     clear hbg ho1 ho2
     by_cases h4 : 400 < o2.length
     ·have z4 : decide ((400 : Int) < (o2.length : Int)) = true := decide_eq_true (by omega)
      have HR := Lib.hid (HI2.out.long h4)
      go_wp2_with fail
      refine (HBK.out _).mono ?_
      rintro e w2 ⟨rfl, rfl⟩
      go_wp2_with fail
      go_ret2
      exact ⟨by rw [HR.out]; rfl, HB.out⟩
     ·have z4 : decide ((400 : Int) < (o2.length : Int)) = false := decide_eq_false (by omega)
      go_wp2_with fail
      refine (HBK.out _).mono ?_
      rintro e w2 ⟨rfl, rfl⟩
      go_wp2_with fail
      refine ⟨⟨k + 1, o2, rfl, by go_num, by omega, by omega, HI2, HB⟩, by simp [intOf]; omega⟩
    | true =>
     have hk2 := (Lb.cut_yes hbg).2
     obtain ⟨nm, fd, j, hm, hj, hcase⟩ := HI.out.ref hbg ho
     have HRK := Lib.hid (HRF.out k hk2)
     have HCA := Lib.hid hcase
     clear hbg hcase
     go_wp2_with fail
     refine (HBK.out _).mono ?_
     rintro e w2 ⟨rfl, rfl⟩
     go_wp2_with fail
     refine (HRK.out _).mono ?_
     rintro e w2 ⟨hb2, hmm⟩
     rw [hm] at hmm
     simp only at hmm
     subst hmm
     have HB2 := Lib.hid (HB.out.trans (hb2.mono HB.out.size))
     have hfl : fd.length ≤ 32 := by
      obtain ⟨r, ⟨rfl, _⟩ | ⟨_, h, _⟩⟩ := Lb.readM_shape hm
      ·simp
      ·exact h.2.1
     clear hb2 hm HBK HRK
     have HD2 := Lib.hid (HD.out.later HB2.out)
     have HN2 : Hid (RW (fun _ => True) 1 SnR w2 ns (.slice oa ns.length oc)) := Lib.hid (HNS.out.go (F' := fun _ => True) ⟨HB2.out.size, fun m _ hm => ⟨trivial, HB2.out.block m hm⟩⟩ (fun _ _ h => h))
     have HFI := Lib.hid (rfind_any l nm _ w2 HD2.out)
     have HHA := Lib.hid (rhas_any ns nm _ w2 (NmAt.of_rw HN2.out (by omega)))
     go_wp2_with fail
     refine HFI.out.mono ?_
     rintro e w3 ⟨rfl, hff⟩
     cases hf : Lb.findM l nm with
     | none =>
      rw [hf] at hff HCA
      subst hff
      have HR : Hid (R = .error 6) := Lib.hid HCA.out
      clear hf HCA
      go_wp2_with fail
      go_ret2
      exact ⟨by rw [HR.out]; rfl, HB2.out⟩
     | some i =>
      rw [hf] at hff HCA
      subst hff
      have HOI := Lib.hid (HOK.out nm i hf)
      have hil := Lb.findM_lt hf
      have HPS := Lib.hid (HOK.out.push hf)
      clear hf
      by_cases hib : i ∈ b
      ·have hd : decide (nm ∈ ns) = true := decide_eq_true (HOI.out.2 hib)
       rw [hd] at HHA
       have HR : Hid (R = .error 8) := Lib.hid (by have := HCA.out; dsimp only at this; rwa [if_pos hib] at this)
       clear hd hib HCA HOI
       go_wp2_with fail
       refine HHA.out.mono ?_
       rintro e w3 ⟨rfl, rfl⟩
       go_wp2_with fail
       go_ret2
       exact ⟨by rw [HR.out]; rfl, HB2.out⟩
      ·have hd : decide (nm ∈ ns) = false := decide_eq_false (fun h => hib (HOI.out.1 h))
       rw [hd] at HHA
       have HCB : Hid (match Lb.expM l N (Lb.srcOf l i) (i :: b) with
        | .error e => R = .error e
        | .ok t => ExI l N b s R (k + 2 + j) (out ++ 40 :: (Lb.fldL fd ++ t ++ [41]))) := Lib.hid (by have := HCA.out; dsimp only at this; rwa [if_neg hib] at this)
       have hfr := Lb.freeN_cons hil hib
       have hfb := HFR.out
       clear hd hib HCA HOI
       go_wp2_with fail
       refine HHA.out.mono ?_
       rintro e w3 ⟨rfl, rfl⟩
       go_wp2_with (first
        | (at_builtin; refine wpList_append_row rfl _ _ 32 9 (.string ⟨#[]⟩) 1 16 rfl Tryz.underlying32 infoStr rfl (by decide) w2.heap.size rfl rfl HN2.out sn_one (by decide) (Nat.le_refl _) ?_; intro v3 w3 hor3 hgr3; have HO3 := Lib.hid hor3; have HB3 := Lib.hid ((Below.refl w2.heap.size w2).grown hgr3 (Nat.le_refl _) (fun k hk => by cases hk)); clear hor3 hgr3; obtain ⟨cs, hown, hpush⟩ := HO3.out.cells; have HPU := Lib.hid hpush; have hsz := HB3.out.size; clear hpush)
        | (at_builtin; refine wpList_append_1 rfl _ _ 32 9 (.string ⟨#[]⟩) 16 rfl Tryz.underlying32 infoStr rfl w2.heap.size _ _ _ rfl hown (.string ⟨nm.toArray⟩) rfl rfl (by omega) (by omega) hsz ?_; intro v4 w4 hown' hgrow; have HB4 := Lib.hid (own_step HB3.out hown hgrow); have HO4 := Lib.hid (HPU.out SnR w4 nm [.string ⟨nm.toArray⟩] v4 (fun _ _ h => h) rfl rfl (by omega) hown'); clear hown hown' hgrow))
       have HD4 := Lib.hid (HD2.out.later HB4.out)
       have HR4 := Lib.hid (HO4.out.rw (F := fun _ => True) (fun _ _ => trivial))
       have hsl : (Lb.srcOf l i).length ≤ 900000 := by
        unfold Lb.srcOf
        rw [List.getElem?_eq_getElem hil]
        exact HLS.out i hil
       have HCL := Lib.hid (HIH.out (Lb.srcOf l i) (i :: b) (ns ++ [nm]) v4 w4 HD4.out HR4.out HPS.out (by simp; omega) hsl (by omega))
       have hen := Lb.expM_err l N (Lb.srcOf l i) (i :: b) (by omega)
       obtain ⟨S, hS⟩ : ∃ S, Lb.expM l N (Lb.srcOf l i) (i :: b) = S := ⟨_, rfl⟩
       have HTL : Hid (∀ t, S = .ok t → t.length ≤ 400) := Lib.hid (fun t h => Lb.expM_len l N _ _ t (hS.trans h))
       rw [hS] at HCL HCB hen
       have HB5 := Lib.hid (HB2.out.trans (HB4.out.mono HB2.out.size))
       clear hS HD4 HR4 HO4 HB4 HO3 HB3 HPU hsz hsl hfb hfr hil
       refine HCL.out.mono ?_
       rintro e w5 ⟨rfl, hb5⟩
       have HB6 := Lib.hid (HB5.out.trans (hb5.mono HB5.out.size))
       clear hb5 HCL HB5
       cases S with
       | error e =>
        have HR : Hid (R = .error e) := HCB
        have he0 : e ≠ 0 := fun h => hen (by rw [h])
        have z5 : ((e : Int) == 0) = false := by rw [beq_eq_false_iff_ne]; omega
        have z6 : ((e : Int) != 0) = true := by simp; omega
        clear hen he0 HCB
        unfold expV
        go_wp2_with fail
        go_ret2
        exact ⟨by rw [HR.out]; rfl, HB6.out⟩
       | ok t =>
        unfold expV
        have htl : t.length ≤ 400 := HTL.out t rfl
        have HI2 : Hid (ExI l N b s R (k + 2 + j) (out ++ 40 :: (Lb.fldL fd ++ t ++ [41]))) := HCB
        obtain ⟨u, hu⟩ : ∃ u, Lb.fldL fd ++ t = u := ⟨_, rfl⟩
        have hul : u.length ≤ 433 := by rw [← hu]; unfold Lb.fldL; split <;> simp <;> omega
        have y0 := ba_app [40] u
        have y1 := ba_app (40 :: u) [41]
        have y2 := ba_app out (40 :: (u ++ [41]))
        obtain ⟨o2, ho2⟩ : ∃ o2, out ++ 40 :: (u ++ [41]) = o2 := ⟨_, rfl⟩
        have hl2 : o2.length = out.length + u.length + 2 := by rw [← ho2]; simp; omega
        rw [hu, show out ++ 40 :: (u ++ [41]) = o2 from ho2] at HI2
        rw [ho2] at y2
        clear ho2
        by_cases hfd : fd = []
        ·subst hfd
         obtain rfl : t = u := hu
         by_cases h4 : 400 < o2.length
         ·have z4 : decide ((400 : Int) < (o2.length : Int)) = true := decide_eq_true (by omega)
          have HR := Lib.hid (HI2.out.long h4)
          go_wp2_with fail
          go_ret2
          exact ⟨by rw [HR.out]; rfl, HB6.out⟩
         ·have z4 : decide ((400 : Int) < (o2.length : Int)) = false := decide_eq_false (by omega)
          go_wp2_with fail
          refine ⟨⟨k + 2 + j, o2, by first | rfl | (rw [y2]), by go_num, hj, by omega, HI2, HB6⟩, by simp [intOf]; omega⟩
        ·have z7 : (fd == []) = false := beq_eq_false_iff_ne.2 hfd
         have z8 : (fd != []) = true := bne_iff_ne.2 hfd
         have y3 := ba_app fd [58]
         have y4 := ba_app (fd ++ [58]) t
         have hu2 : fd ++ [58] ++ t = u := by rw [← hu]; unfold Lb.fldL; rw [if_neg hfd]
         rw [hu2] at y4
         clear hu hu2 hfd
         by_cases h4 : 400 < o2.length
         ·have z4 : decide ((400 : Int) < (o2.length : Int)) = true := decide_eq_true (by omega)
          have HR := Lib.hid (HI2.out.long h4)
          go_wp2_with fail
          go_ret2
          exact ⟨by rw [HR.out]; rfl, HB6.out⟩
         ·have z4 : decide ((400 : Int) < (o2.length : Int)) = false := decide_eq_false (by omega)
          go_wp2_with fail
          refine ⟨⟨k + 2 + j, o2, by first | rfl | (rw [y2]), by go_num, hj, by omega, HI2, HB6⟩, by simp [intOf]; omega⟩
   ·have z1 : decide ((k : Int) < (s.length : Int)) = false := decide_eq_false (by omega)
    have y1 : decide (k < s.length) = false := decide_eq_false hlt
    have HR := Lib.hid (HI.out.fin (by omega) hk ho)
    go_wp2_with fail
    go_ret2
    exact ⟨by rw [HR.out]; rfl, HB.out⟩
end Go.Proofs.YtgcpinnnfoanjaaGreatDoor
namespace Go.Proofs.YtgcpinnnfoanjaaGreatDoor
open Go.RowKit
theorem rexpand_any (l : List Lb.Def) (v : Value) (hls : ∀ i (h : i < l.length), l[i].2.length ≤ 900000) : ∀ N, RexpAt l v N
 | 0 => RexpAt.zero l v
 | N + 1 => RexpAt.succ l v hls N (rexpand_any l v hls N)
set_option maxHeartbeats 4000000 in
set_option maxRecDepth 1000000 in
theorem rexp_any (l : List Lb.Def) (v : Value) (hf : Fit l) (s : List UInt8) (w : World) (hd : DfAt w l v) (hs : s.length ≤ 900000) :
  Calls Tryz.prog 15 #[v, .string ⟨s.toArray⟩] w fun e w' => e = .returned (expV (Lb.runM l s)) ∧ Below w.heap.size w w' := by
 have h40 := hf.1
 have HE := Lib.hid (rexpand_any l v hf.2 (l.length + 1) s [] [] (.slice none 0 0) w hd RW.nil (Lb.NmsOk.nil l) (by simp; omega) hs (Nat.lt_succ_of_le (Lb.freeN_le _ _)))
 obtain ⟨a, c, rfl, _⟩ := hd
 obtain ⟨R, hR⟩ : ∃ R, Lb.expM l (l.length + 1) s [] = R := ⟨_, rfl⟩
 have HR : Hid (Lb.runM l s = R) := Lib.hid hR
 rw [hR] at HE
 clear hR hf
 cases R with
 | ok t =>
  dsimp only [expV] at HE
  go_enter Tryz.func15, Tryz.ntmps15
  go_wp2_with fail
  refine HE.out.mono ?_
  rintro e w1 ⟨rfl, hb⟩
  have HB := Lib.hid hb
  clear hb
  go_wp2_with fail
  go_ret2
  exact ⟨by rw [HR.out]; rfl, HB.out⟩
 | error k =>
  dsimp only [expV] at HE
  go_enter Tryz.func15, Tryz.ntmps15
  go_wp2_with fail
  refine HE.out.mono ?_
  rintro e w1 ⟨rfl, hb⟩
  have HB := Lib.hid hb
  clear hb
  go_wp2_with fail
  go_ret2
  exact ⟨by rw [HR.out]; rfl, HB.out⟩
end Go.Proofs.YtgcpinnnfoanjaaGreatDoor
namespace Go.Proofs.YtgcpinnnfoanjaaGreatDoor
open Go.RowKit
end Go.Proofs.YtgcpinnnfoanjaaGreatDoor
namespace Go.Proofs.YtgcpinnnfoanjaaGreatDoor
open Go.RowKit
set_option maxHeartbeats 8000000 in
set_option maxRecDepth 1000000 in
theorem rcomp_full (l : List Lb.Def) (v : Value) (hf : Fit l) (s : List UInt8) (w : World) (hd : DfAt w l v) (hs : s.length ≤ 900000) :
  Calls Tryz.prog 17 #[v, .string ⟨s.toArray⟩] w (CompY (Lb.compM l s) (Lb.compT l s) w) := by
 have hal := al_below w (.cells #[.int .i64 0, .slice none 0 0, .string ⟨#[]⟩, .slice none 0 0, .int .i64 0, .int .i64 0] 38)
 have HK0 := Lib.hid (nE_new w 0 none 0 0 [] none 0 0 0 0)
 have HB0 := Lib.hid hal
 have HE := Lib.hid (rexp_any l v hf s _ (hd.later hal) hs)
 have HLT : Hid (w.heap.size < (w.alloc (.cells #[.int .i64 0, .slice none 0 0, .string ⟨#[]⟩, .slice none 0 0, .int .i64 0, .int .i64 0] 38)).heap.size) := Lib.hid (by simp)
 have HNZ := Lib.hid (Lb.runM_err l s)
 have HLE := Lib.hid (fun t (h : Lb.runM l s = .ok t) => Lb.expM_len l _ s [] t h)
 obtain ⟨a, c, rfl, _⟩ := hd
 obtain ⟨R, hR⟩ : ∃ R, Lb.runM l s = R := ⟨_, rfl⟩
 have HR := Lib.hid hR
 rw [hR] at HE HNZ HLE
 obtain ⟨KK, hKK⟩ : ∃ K, Lb.compM l s = K := ⟨_, rfl⟩
 have HKK := Lib.hid hKK
 unfold Lb.compM at HKK
 rw [hR] at HKK
 obtain ⟨TT, hTT⟩ : ∃ T, Lb.compT l s = T := ⟨_, rfl⟩
 have HTT := Lib.hid hTT
 unfold Lb.compT at HTT
 rw [hR] at HTT
 rw [hKK, hTT]
 clear hf hR hal hKK hTT
 go_enter Tryz.func17, Tryz.ntmps17
 go_wp2_with fail
 refine HE.out.mono ?_
 rintro e w1 ⟨rfl, hb⟩
 have HB1 := Lib.hid (HB0.out.trans (hb.mono HB0.out.size))
 have HK1 := Lib.hid (HK0.out.on hb HLT.out)
 have HS1 := Lib.hid (Nat.lt_of_lt_of_le HLT.out hb.size)
 clear hb HE HB0 HK0 HLT
 cases R with
 | error k =>
  have z1 : ((k : Int) == 0) = false := by rw [beq_eq_false_iff_ne]; intro h; exact HNZ.out (by congr 1; omega)
  obtain ⟨k0, k1, k2, k3, k4, k5, f0, f1, f2, f3, f4, f5⟩ := bk6 HK1.out
  obtain rfl : k = KK := HKK.out
  obtain rfl : zeroT = TT := HTT.out
  dsimp only [expV]
  go_wp2_with fail
  rw [nest6 w1]
  exact comp_ret (P := 4) rfl HK1.out (by rfl) (by rfl) zero_ng HB1.out
 | ok t =>
  dsimp only [expV]
  have HP := Lib.hid (rparse_full t w1)
  go_wp2_with fail
  refine HP.out.mono ?_
  rintro e w2 ⟨v, T, rfl, hng, hb, hpa, hpz⟩
  have HB2 := Lib.hid (HB1.out.trans (hb.mono HB1.out.size))
  have HK2 := Lib.hid (HK1.out.on hb HS1.out)
  have HN2 : Hid (NG (fun k => w.heap.size < k) w2 T v) := Lib.hid (NG.go ⟨Nat.le_refl _, fun j hj _ => ⟨Nat.lt_of_lt_of_le HS1.out hj, rfl⟩⟩ _ _ hng)
  obtain ⟨op, rs, nm, kk, mn, mx, ra, rc, ca, cc, _, rfl, _⟩ := hng.open
  have HS2 := Lib.hid (Nat.lt_of_lt_of_le HS1.out hb.size)
  have HPA := Lib.hid hpa
  obtain ⟨E2, hE2⟩ : ∃ E2, (parM t).2.2 = E2 := ⟨_, rfl⟩
  obtain ⟨A2, hA2⟩ : ∃ A2, (parM t).2.1 = A2 := ⟨_, rfl⟩
  have hKE : E2 = KK := by rw [← hE2]; exact HKK.out
  have HTE : Hid (T = TT) := Lib.hid (by
   have : (if (parM t).2.2 = 0 then (parM t).1.getD zeroT else zeroT) = TT := HTT.out
   by_cases h0 : (parM t).2.2 = 0
   ·rw [if_pos h0, hpa h0] at this
    exact this
   ·rw [if_neg h0] at this
    rw [hpz h0]
    exact this)
  rw [hE2, hA2]
  subst hKE
  clear hb hng hpa hpz HPA HK1 HB1 hE2 hA2 HTT
  have hal2 := al_below w2 (.cells #[.int .i64 op, .slice ra rs.length rc, .string ⟨nm.toArray⟩, .slice ca kk.length cc, .int .i64 mn, .int .i64 mx] 38)
  have HK3 := Lib.hid (HK2.out.on hal2 HS2.out)
  have HB3 := Lib.hid (HB2.out.trans (hal2.mono HB2.out.size))
  have HT3 := Lib.hid (HN2.out.low hal2)
  have HN3 := Lib.hid (nE_new w2 op ra rs.length rc nm ca kk.length cc mn mx)
  clear hal2 HK2 HB2 HN2
  obtain ⟨k0, k1, k2, k3, k4, k5, f0, f1, f2, f3, f4, f5⟩ := bk6 HK3.out
  obtain ⟨n0, n1, n2, n3, n4, n5⟩ := bk6v HN3.out
  obtain rfl : T = TT := HTE.out
  go_wp2_with fail
  rw [nest6]
  exact comp_ret (P := 4) rfl HK3.out (by rfl) (by rfl) HT3.out HB3.out
theorem rcomp_any (l : List Lb.Def) (v : Value) (hf : Fit l) (s : List UInt8) (w : World) (hd : DfAt w l v) (hs : s.length ≤ 900000) :
  Calls Tryz.prog 17 #[v, .string ⟨s.toArray⟩] w (CompP (Lb.compM l s) w) := (rcomp_full l v hf s w hd hs).mono fun _ _ h => h.p
end Go.Proofs.YtgcpinnnfoanjaaGreatDoor

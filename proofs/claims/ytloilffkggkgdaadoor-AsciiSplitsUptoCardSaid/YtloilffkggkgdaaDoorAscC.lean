/-
  Repair of package ascii: a range over a function that keeps its place in a captured variable.
-/
import Derived.Test.YtloilffkggkgdaaDoorAscB
import Derived.RangeFuncNested
import Derived.RangeFuncBound
import Derived.RangeFuncCalls
import Derived.RangeFuncLeaves
import Derived.RangeFuncBox
import Derived.Deep.RegionHeld
import Derived.Shelf.Abstract
import Derived.Shelf.RegionOpen
import Derived.OwnWalkIn
import Derived.TacticsInMore
import Derived.LoopNIn
import Derived.LoopIn
namespace Go.Proofs.YtloilffkggkgdaaDoor
open Go.RowKit Go.Shelf
attribute [local go_sem] Oper.semAt_some

theorem seq_in (a : Option Addr) (len cap : Nat) (w : World) :
    Calls Tryd.prog 33 #[.slice a len cap] w fun e w' => e = .returned (.func (.func 45) #[] #[.pointer (some ⟨w.heap.size, 0, none⟩)]) ∧ w.alloc (.cells #[.slice a len cap] 22) = w' := by
  go_enter Tryd.func33, Tryd.ntmps33
  go_wp2
  go_ret
  exact ⟨rfl, rfl⟩

/-- How many bytes the next piece has. -/
def stepN (bs : List UInt8) (k : Nat) : Nat := max (Asc.vlen (bs.drop k)) 1
theorem stepN_le (bs : List UInt8) (k : Nat) (h : k < bs.length) : 1 ≤ stepN bs k ∧ k + stepN bs k ≤ bs.length := by
  have := Asc.vlen_le (bs.drop k)
  rw [List.length_drop] at this
  unfold stepN; omega

/-- The slice that the iterator's variable holds when k bytes have come. -/
def SeqBox (W : World) (Bs blk off cap len k : Nat) : Prop :=
  ∃ a, Boxed W Bs 22 (.slice a (len - k) (cap - k)) ∧ (k < len → a = some ⟨blk, off + k, none⟩)

/-- How many bytes are left, read off the world. -/
def leftN (Bs : Nat) (W : World) : Nat := match W.cell? ⟨Bs, 0, none⟩ with | some (.slice _ n _) => n | _ => 0
theorem leftN_eq {W : World} {Bs : Nat} {a : Option Addr} {n c : Nat} (h : Boxed W Bs 22 (.slice a n c)) : leftN Bs W = n := by
  unfold leftN; rw [h.cell]

theorem seq_next {W : World} {Bs blk off cap len k st : Nat} {v : Value} {a' : Option Addr} {n' c' : Nat} (hb : Boxed W Bs 22 v) (e1 : n' = len - (k + st)) (e2 : c' = cap - (k + st)) (ha : k + st < len → a' = some ⟨blk, off + (k + st), none⟩) :
    SeqBox (W.setCell ⟨Bs, 0, none⟩ (.slice a' n' c')) Bs blk off cap len (k + st) := ⟨a', by rw [← e1, ← e2]; exact hb.set _, ha⟩
theorem left_next {W : World} {Bs : Nat} {v : Value} {a' : Option Addr} {n' c' : Nat} (hb : Boxed W Bs 22 v) : leftN Bs (W.setCell ⟨Bs, 0, none⟩ (.slice a' n' c')) = n' := leftN_eq (hb.set _)
theorem BA.set {W : World} {Bs n0 blk off : Nat} {bs : List UInt8} (h : BA W blk off bs) (h1 : blk < n0) (h2 : n0 ≤ Bs) (v : Value) : BA (W.setCell ⟨Bs, 0, none⟩ v) blk off bs :=
  h.below (fun i _ => World.cell?_setCell_far _ _ _ _ (show Bs ≠ blk by omega))

set_option maxRecDepth 100000 in
set_option maxHeartbeats 4000000 in
theorem iter_in (m l Bs n0 blk off cap : Nat) (bs : List UInt8) (R : Nat → World → Prop) (hblk : blk < n0) (hcap : bs.length ≤ cap) (hlen : bs.length ≤ 140737488355328)
    (hset : ∀ k W v, R k W → R k (W.setCell ⟨Bs, 0, none⟩ v)) (hBs : n0 ≤ Bs)
    (hY : ∀ k W, R k W → k < bs.length → YieldAt Fence.wide m Tryd.prog l #[.slice (some ⟨blk, off + k, none⟩) (stepN bs k) (cap - k), .bool (decide (0 < Asc.vlen (bs.drop k)))] W fun e W' =>
      e = .returned (.bool true) ∧ R (k + stepN bs k) W' ∧ (∀ v, Boxed W Bs 22 v → Boxed W' Bs 22 v) ∧ Below n0 W W')
    (W : World) (hbox : SeqBox W Bs blk off cap bs.length 0) (hc : BA W blk off bs) (h0 : R 0 W) :
    CallsIn Fence.wide (m + 1) Tryd.prog 45 #[.func (.yield l) #[] #[], .pointer (some ⟨Bs, 0, none⟩)] W fun e W' => (∃ v, e = .returned v) ∧ R bs.length W' := by
  refine callsIn_of_wp Tryd.func45 rfl trivial ?_ rfl
  simp only [Tryd.ntmps45, List.size_toArray, List.length_cons, List.length_nil, Nat.reduceAdd, Nat.reduceSub, Array.replicate_succ, Array.replicate_zero, List.push_toArray, List.append_toArray, List.nil_append, List.cons_append]
  gi_wp2
  gi_loopw [] (fun wr => ∃ k : Nat, k ≤ bs.length ∧ SeqBox wr Bs blk off cap bs.length k ∧ BA wr blk off bs ∧ R k wr) (fun wr => leftN Bs wr)
  case atStart => exact ⟨0, by omega, hbox, hc, h0⟩
  case round =>
    obtain ⟨k, hk, ⟨a, hb, ha⟩, hcs, hr⟩ := hrel
    have hl := Lib.hid (leftN_eq hb)
    by_cases hlt : k < bs.length
    · obtain rfl := ha hlt
      have hcell := hb.cell
      have hs := stepN_le bs k hlt
      have hv := valid_any blk (off + k) (cap - k) (bs.drop k) wr (fun e => by have := congrArg List.length e; simp at this; omega) (hcs.drop k)
      rw [List.length_drop] at hv
      have HV := Lib.hid hv
      obtain ⟨fn, tmps, assign, body, hy, hR⟩ := hY k wr hr hlt
      have hvle := Asc.vlen_le (bs.drop k)
      rw [List.length_drop] at hvle
      have hst : stepN bs k = max (Asc.vlen (bs.drop k)) 1 := rfl
      have HST := Lib.hid hst
      rw [hst] at hy
      generalize Asc.vlen (bs.drop k) = v at *
      clear hv hst hY
      by_cases hz : v = 0
      · subst hz
        have hy' : (Instr.yield l #[.slice (some ⟨blk, off + k, none⟩) 1 (cap - k), .bool false]).run Tryd.prog wr = .ok (.round l fn tmps assign body) wr := hy
        have mx : max (0 : Int) 1 = 1 := by decide
        have hs1 : stepN bs k = 1 := HST.out
        have HST := Lib.hid hs1
        clear hy hs1 hs
        gi_wp2_with (refine ⟨trivial, ?_⟩; gi_at_call 46; refine (callsIn_wide.2 HV.out).mono ?_; rintro e w' ⟨rfl, rfl⟩)
        refine hR.mono ?_
        rintro e W3 ⟨rfl, hR3, hbx, hbl⟩
        rw [HST.out] at hR3
        have hb3 := hbx _ hb
        have hcell3 := hb3.cell
        have hfz3 := hb3.frozen
        have hcs3 : BA W3 blk off bs := hcs.below (fun i _ => hbl.cell (p := ⟨blk, off + i, none⟩) hblk)
        have HB3 := Lib.hid hb3
        by_cases hcc : cap - k = 1
        · gi_wp2
          go_roundw
          case rel => exact ⟨k + 1, by omega, seq_next HB3.out (by omega) (by omega) (fun h => by omega), hcs3.set hblk hBs _, hset _ _ _ hR3⟩
          case measure => rw [left_next HB3.out, hl.out]; omega
        · gi_wp2
          go_roundw
          case rel => exact ⟨k + 1, by omega, seq_next HB3.out (by omega) (by omega) (fun h => by rw [Nat.add_assoc]), hcs3.set hblk hBs _, hset _ _ _ hR3⟩
          case measure => rw [left_next HB3.out, hl.out]; omega
      · have hv1 : 1 ≤ v := by omega
        have hy' : (Instr.yield l #[.slice (some ⟨blk, off + k, none⟩) v (cap - k), .bool true]).run Tryd.prog wr = .ok (.round l fn tmps assign body) wr := by
          have e1 : max v 1 = v := by omega
          have e2 : decide (0 < v) = true := by simp; omega
          rw [e1, e2] at hy; exact hy
        have mx : max (v : Int) 1 = (v : Int) := by omega
        have hs1 : stepN bs k = v := by rw [HST.out]; omega
        have HST := Lib.hid hs1
        have gt : decide (0 < v) = true := by simp; omega
        clear hy hs1 hs hz
        gi_wp2_with (refine ⟨trivial, ?_⟩; gi_at_call 46; refine (callsIn_wide.2 HV.out).mono ?_; rintro e w' ⟨rfl, rfl⟩)
        refine hR.mono ?_
        rintro e W3 ⟨rfl, hR3, hbx, hbl⟩
        rw [HST.out] at hR3
        have hb3 := hbx _ hb
        have hcell3 := hb3.cell
        have hfz3 := hb3.frozen
        have hcs3 : BA W3 blk off bs := hcs.below (fun i _ => hbl.cell (p := ⟨blk, off + i, none⟩) hblk)
        have HB3 := Lib.hid hb3
        by_cases hcc : cap - k = v
        · gi_wp2
          go_roundw
          case rel => exact ⟨k + v, by omega, seq_next HB3.out (by omega) (by omega) (fun h => by omega), hcs3.set hblk hBs _, hset _ _ _ hR3⟩
          case measure => rw [left_next HB3.out, hl.out]; omega
        · gi_wp2
          go_roundw
          case rel => exact ⟨k + v, by omega, seq_next HB3.out (by omega) (by omega) (fun h => by rw [Nat.add_assoc]), hcs3.set hblk hBs _, hset _ _ _ hR3⟩
          case measure => rw [left_next HB3.out, hl.out]; omega
    · obtain rfl : k = bs.length := by omega
      have hcell := hb.cell
      have hz : bs.length - bs.length = 0 := by omega
      rw [hz] at hcell
      gi_wp2
      go_end0
      exact ⟨⟨_, rfl⟩, hr⟩

end Go.Proofs.YtloilffkggkgdaaDoor

/-
  FIELDS IN MEMORY: a slice of fields; Get of package parse and of its reference.
-/
import Derived.Test.YtmcnhphmglmmeabDoorMem
import Derived.Test.YtmcnhphmglmmeabDoorOwnK
import Derived.Outline
import Derived.IntWalk
import Derived.BigRegion
import Derived.RegionTactic
import Derived.Lib.Hide
namespace Go.Proofs.YtmcnhphmglmmeabDoor
open Go.RowKit

def encF (x : List UInt8 × List UInt8) : List Value := [.string ⟨x.1.toArray⟩, .string ⟨x.2.toArray⟩]
abbrev Fd := List UInt8 × List UInt8
theorem infoF : (Tryd.prog.info? 57).map (fun i => (i.zero, i.size, i.bytes)) = some (some (.agg #[.string ⟨#[]⟩, .string ⟨#[]⟩]), 2, 32) := by kernel_rfl
def cellsF (d : List Fd) : List Value := d.flatMap encF
theorem cellsF_length (d : List Fd) : (cellsF d).length = d.length * 2 := by
  unfold cellsF
  induction d with
  | nil => rfl
  | cons x d ih => simp [encF] at ih ⊢; omega
theorem cellsF_at (d : List Fd) : ∀ (i c : Nat) (hi : i < d.length) (_ : c < 2), (cellsF d)[i * 2 + c]? = (encF d[i])[c]? := by
  induction d with
  | nil => intro i c hi; simp at hi
  | cons x d ih =>
    intro i c hi hc
    cases i with
    | zero =>
      unfold cellsF
      rw [List.flatMap_cons, List.getElem?_append_left (by simp [encF]; omega), Nat.zero_mul, Nat.zero_add]
      rfl
    | succ i =>
      have := ih i c (by simpa using hi) hc
      unfold cellsF at this ⊢
      rw [List.flatMap_cons, List.getElem?_append_right (by simp [encF]; omega)]
      rw [show (i + 1) * 2 + c - (encF x).length = i * 2 + c by simp [encF]; omega, this]
      rfl
theorem one_encF (d : List Fd) : ∀ u ∈ cellsF d, u.oneCell' = true := by
  intro u hu
  unfold cellsF at hu
  obtain ⟨x, _, hx⟩ := List.mem_flatMap.1 hu
  simp [encF] at hx
  rcases hx with rfl | rfl <;> rfl

/-- A row of fields of the call's own: its cells. -/
theorem cells_ownF {w : World} {B g cap : Nat} {d : List Fd} (h : w.ownsRow B 57 2 (.slice (some ⟨g, 0, none⟩) d.length cap) d.length (cellsF d)) : g < w.heap.size ∧ B ≤ g ∧ (∀ j u, (cellsF d)[j]? = some u → w.cell? ⟨g, j, none⟩ = some u) ∧ ∀ i, w.frozen? ⟨g, i, none⟩ = false := by
  obtain ⟨hl, ⟨hv, _⟩ | ⟨g', cap', cur, hv, hB, hg, hn, _, hsz, htk⟩⟩ := h
  · cases hv
  · cases hv
    refine ⟨?_, hB, fun j u hj => ?_, fun i => Lib.frozen_of_heap hg i⟩
    · rcases Nat.lt_or_ge g w.heap.size with c | c
      · exact c
      · rw [Array.getElem?_eq_none c] at hg; cases hg
    · rw [Lib.cell_of_heap hg]
      have hj2 : j < d.length * 2 := by rw [← cellsF_length]; exact (List.getElem?_eq_some_iff.1 hj).1
      have e : (cur.toList.take (d.length * 2))[j]? = (cellsF d)[j]? := by rw [htk]
      rw [List.getElem?_take_of_lt hj2] at e
      simp only [Array.getElem?_toList] at e
      rw [e]
      exact hj
def FAt (w : World) (g off : Nat) (d : List Fd) : Prop := ∀ i (h : i < d.length), w.cell? ⟨g, off + i * 2, none⟩ = some (.string ⟨(d[i]).1.toArray⟩) ∧ w.cell? ⟨g, off + i * 2 + 1, none⟩ = some (.string ⟨(d[i]).2.toArray⟩)
def FI (w : World) (v : Value) (d : List Fd) : Prop :=
  ∃ a cap, v = .slice a d.length cap ∧ (0 < d.length → ∃ g off, a = some ⟨g, off, none⟩ ∧ g < w.heap.size ∧ FAt w g off d)
theorem FI.later {w w' : World} {v : Value} {d : List Fd} (h : FI w v d) (hb : Below w.heap.size w w') : FI w' v d := by
  obtain ⟨a, cap, rfl, hc⟩ := h
  refine ⟨a, cap, rfl, fun h0 => ?_⟩
  obtain ⟨g, off, e, hg, hf⟩ := hc h0
  exact ⟨g, off, e, Nat.lt_of_lt_of_le hg hb.size, fun i hi => ⟨(hb.cell (p := ⟨g, off + i * 2, none⟩) hg).trans (hf i hi).1, (hb.cell (p := ⟨g, off + i * 2 + 1, none⟩) hg).trans (hf i hi).2⟩⟩
theorem FI.nil (w : World) : FI w (.slice none 0 0) [] := ⟨none, 0, rfl, fun h => by simp at h⟩

def gv (d : List Fd) (nm : List UInt8) : Option (List UInt8) := match d with | [] => none | x :: d => if x.1 = nm then some x.2 else gv d nm
theorem gv_step {d : List Fd} {k : Nat} (h : k < d.length) (nm : List UInt8) : gv (d.drop k) nm = if (d[k]).1 = nm then some (d[k]).2 else gv (d.drop (k + 1)) nm := by
  rw [List.drop_eq_getElem_cons h, gv]
theorem gv_end (d : List Fd) (nm : List UInt8) : gv (d.drop d.length) nm = none := by rw [List.drop_length, gv]
def GetPost (w : World) (R : Option (List UInt8)) (e : Ending) (w' : World) : Prop := e = .returned (.tuple #[.string ⟨(R.getD []).toArray⟩, .bool R.isSome]) ∧ Below w.heap.size w w'

set_option maxHeartbeats 1000000 in
theorem pGet_any (v : Value) (d : List Fd) (nm : List UInt8) (w : World) (hv : FI w v d) (hl : d.length ≤ 1000) :
    Calls Tryd.prog 35 #[v, .string ⟨nm.toArray⟩] w (GetPost w (gv d nm)) := by
  obtain ⟨a, cap, rfl, hc⟩ := hv
  have HC := Lib.hid hc
  obtain ⟨R, hR⟩ : ∃ R, gv d nm = R := ⟨_, rfl⟩
  rw [hR]
  have HR := Lib.hid hR
  clear hc hR
  go_enter Tryd.func35, Tryd.ntmps35
  go_wp2_with fail
  go_loopw [10] (fun i wr => ∃ k : Nat, k ≤ d.length ∧ i = .int .i64 k ∧ Below w.heap.size w wr ∧ gv (d.drop k) nm = R) (fun i _ => d.length - (intOf i).toNat)
  case atStart => exact ⟨0, by omega, rfl, Below.refl _ _, HR.out⟩
  case round =>
    obtain ⟨k, hk, rfl, hb, hg⟩ := hrel
    have HG := Lib.hid hg
    clear hg HR
    by_cases hlt : k < d.length
    · obtain ⟨g, off, rfl, hgl, hf⟩ := HC.out (by omega)
      have c0 := (hb.cell (p := ⟨g, off + k * 2, none⟩) hgl).trans (hf k hlt).1
      have c1 := (hb.cell (p := ⟨g, off + k * 2 + 1, none⟩) hgl).trans (hf k hlt).2
      have HST := Lib.hid (gv_step hlt nm)
      have hsz := hb.size
      have hbn : ∀ o, Below w.heap.size w (wr.alloc o) := fun o => hb.alloc hsz o
      have HBN := Lib.hid hbn
      have i1 : (k : Int) < (d.length : Int) := by omega
      have i2 : (0 : Int) ≤ (k : Int) := by omega
      clear hf hbn
      generalize d[k] = x at *
      obtain ⟨xn, xv⟩ := x
      by_cases he : xn = nm
      · subst he
        have HZ := Lib.hid (show R = some xv by rw [← HG.out, HST.out, if_pos rfl])
        go_wp2_with fail
        go_ret2
        rw [HZ.out]
        exact ⟨rfl, HBN.out _⟩
      · have b1 : (xn == nm) = false := beq_eq_false_iff_ne.2 he
        have HZ := Lib.hid (show gv (d.drop (k + 1)) nm = R by rw [← HG.out, HST.out, if_neg he])
        clear he
        go_wp2_with fail
        go_roundw
        case rel => exact ⟨k + 1, by omega, by go_num, HBN.out _, HZ.out⟩
        case measure => simp [intOf]; omega
    · obtain rfl : k = d.length := by omega
      have HZ := Lib.hid (show R = none by rw [← HG.out, gv_end])
      go_wp2_with fail
      go_ret2
      rw [HZ.out]
      exact ⟨rfl, hb⟩
set_option maxHeartbeats 1000000 in
theorem rGet_any (v : Value) (d : List Fd) (nm : List UInt8) (w : World) (hv : FI w v d) (hl : d.length ≤ 1000) :
    Calls Tryd.prog 23 #[v, .string ⟨nm.toArray⟩] w (GetPost w (gv d nm)) := by
  obtain ⟨a, cap, rfl, hc⟩ := hv
  have HC := Lib.hid hc
  obtain ⟨R, hR⟩ : ∃ R, gv d nm = R := ⟨_, rfl⟩
  rw [hR]
  have HR := Lib.hid hR
  clear hc hR
  go_enter Tryd.func23, Tryd.ntmps23
  go_wp2_with fail
  go_loop [6] (fun i => ∃ k : Nat, k ≤ d.length ∧ i = .int .i64 k ∧ gv (d.drop k) nm = R) (fun i => d.length - (intOf i).toNat)
  case atStart => exact ⟨0, by omega, rfl, HR.out⟩
  case round =>
    obtain ⟨k, hk, rfl, hg⟩ := hrel
    have HG := Lib.hid hg
    clear hg HR
    by_cases hlt : k < d.length
    · obtain ⟨g, off, rfl, hgl, hf⟩ := HC.out (by omega)
      obtain ⟨c0, c1⟩ := hf k hlt
      have HST := Lib.hid (gv_step hlt nm)
      have i1 : (k : Int) < (d.length : Int) := by omega
      have i2 : (0 : Int) ≤ (k : Int) := by omega
      clear hf
      generalize d[k] = x at *
      obtain ⟨xn, xv⟩ := x
      by_cases he : xn = nm
      · subst he
        have HZ := Lib.hid (show R = some xv by rw [← HG.out, HST.out, if_pos rfl])
        go_wp2_with fail
        go_ret2
        rw [HZ.out]
        exact ⟨rfl, Below.refl _ _⟩
      · have b1 : (xn == nm) = false := beq_eq_false_iff_ne.2 he
        have HZ := Lib.hid (show gv (d.drop (k + 1)) nm = R by rw [← HG.out, HST.out, if_neg he])
        clear he
        go_wp2_with fail
        go_round
        case rel => exact ⟨k + 1, by omega, by go_num, HZ.out⟩
        case measure => simp [intOf]; omega
    · obtain rfl : k = d.length := by omega
      have HZ := Lib.hid (show R = none by rw [← HG.out, gv_end])
      go_wp2_with fail
      go_ret2
      rw [HZ.out]
      exact ⟨rfl, Below.refl _ _⟩

end Go.Proofs.YtmcnhphmglmmeabDoor

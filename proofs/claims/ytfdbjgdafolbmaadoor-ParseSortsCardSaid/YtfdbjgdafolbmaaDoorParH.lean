/-
  Sort of package parse, at fewer than 20 fields whose names are right and differ.
-/
import Derived.Test.YtfdbjgdafolbmaaDoorParG
import Derived.Lib.OwnBridge
import Derived.Lib.QuietBelow
namespace Go.Proofs.YtfdbjgdafolbmaaDoor
open Go.RowKit Go.Sort Go.Shelf

theorem holdsK_of {w : World} {g : Nat} {d : List Fd} (hc : ∀ j u, (cellsF d)[j]? = some u → w.cell? ⟨g, j, none⟩ = some u) (hf : ∀ i, w.frozen? ⟨g, i, none⟩ = false) : HoldsK encF 2 w g 0 d.toArray := by
  intro t ht
  rw [size_flatK] at ht
  rw [Nat.zero_add, get_flatK encF 2 d.toArray t ht]
  refine ⟨?_, hf t⟩
  have hd : t / 2 < d.length := by simp at ht; omega
  have h := cellsF_at d (t / 2) (t % 2) hd (by omega)
  rw [show t / 2 * 2 + t % 2 = t by omega] at h
  have e1 : d.toArray[t / 2]! = d[t / 2] := by rw [getElem!_pos _ _ (by simpa using hd)]; simp
  have e2 : (encF d[t / 2])[t % 2]? = some (encF d[t / 2])[t % 2]! := by
    rw [List.getElem!_eq_getElem?_getD]
    have : t % 2 = 0 ∨ t % 2 = 1 := by omega
    rcases this with e | e <;> rw [e] <;> rfl
  rw [e1]
  exact hc t _ (h.trans e2)

/-- What a world of the sort's holds. -/
theorem sortW_cells {w : World} {g : Nat} {d : List Fd} {r : Array Fd} {n : Nat} {os : Array Obj} (hH : HoldsK encF 2 w g 0 d.toArray) (hblk : g < w.heap.size) (hs : r.size = d.length) :
    (∀ i (_ : i < r.size), (sortWorldK encF 2 w g 0 n r os).cell? ⟨g, i * 2, none⟩ = some (.string ⟨(r[i]!).1.toArray⟩) ∧ (sortWorldK encF 2 w g 0 n r os).cell? ⟨g, i * 2 + 1, none⟩ = some (.string ⟨(r[i]!).2.toArray⟩)) := by
  have h := holdsK_sortWorldK_c encF 2 w g 0 d.toArray r n os hH hblk (by simpa using hs)
  intro i hi
  have a := (HoldsK.cell h hi (c := 0) (by omega)).1
  have b := (HoldsK.cell h hi (c := 1) (by omega)).1
  rw [Nat.zero_add] at a b
  exact ⟨a, b⟩

theorem below_growN {B : Nat} {a b : World} (h : Below B a b) (hB : B ≤ b.heap.size) (os : Array Obj) : Below B a (grow b os) :=
  ⟨h.os, h.tape, h.output, Nat.le_trans h.size (by rw [size_grow]; exact Nat.le_add_right _ _), fun k hk => (Sort.heap_grow_old b os (Nat.lt_of_lt_of_le hk hB)).trans (h.block k hk)⟩
theorem below_sortW {B : Nat} {w0 w : World} {g n : Nat} {r : Array Fd} {os : Array Obj} (h : Below B w0 w) (hg : B ≤ g) (hB : B ≤ w.heap.size) : Below B w0 (sortWorldK encF 2 w g 0 n r os) := by
  unfold sortWorldK
  exact below_growN (Lib.below_putRow (enc := id) h hg) (by show B ≤ (putRowK encF 2 (Sort.ahead w n) g 0 r).heap.size; rw [size_putRowK]; exact hB) os

set_option maxRecDepth 100000 in
set_option maxHeartbeats 1000000 in
theorem sort_right (g cap : Nat) (d : List Fd) (w : World) (hk : Kinds w) (hg : g < w.heap.size) (hc : ∀ j u, (cellsF d)[j]? = some u → w.cell? ⟨g, j, none⟩ = some u) (h1 : 0 < d.length) (h19 : d.length ≤ 19) (hn : ∀ i (h : i < d.length), NameOk (d[i]).1)
    (hdist : ∀ i, 1 ≤ i → i < d.length → ((sortF d.toArray)[i]!).1 ≠ ((sortF d.toArray)[i - 1]!).1) (hsz : (sortF d.toArray).size = d.length) :
    Calls Tryd.prog 15 #[.slice (some ⟨g, 0, none⟩) d.length cap] w fun e w' => ∃ g' c', e = .returned (.tuple #[.slice (some ⟨g', 0, none⟩) d.length c', .int .i64 0]) ∧ w.heap.size ≤ g' ∧
      (∀ i (_ : i < d.length), w'.cell? ⟨g', i * 2, none⟩ = some (.string ⟨((sortF d.toArray)[i]!).1.toArray⟩) ∧ w'.cell? ⟨g', i * 2 + 1, none⟩ = some (.string ⟨((sortF d.toArray)[i]!).2.toArray⟩)) ∧ Below w.heap.size w w' := by
  have HC := Lib.hid hc
  have HN := Lib.hid hn
  have HK := Lib.hid hk
  have HD := Lib.hid hdist
  have HZ := Lib.hid hsz
  clear hc hn hk hdist hsz
  have t1 : decide (32 < (d.length : Int)) = false := by simp; omega
  go_enter Tryd.func15, Tryd.ntmps15
  go_wp2_with fail
  go_loopw [12] (fun i wr => ∃ k : Nat, k ≤ d.length ∧ i = .int .i64 k ∧ Below w.heap.size w wr) (fun i _ => d.length - (intOf i).toNat)
  case atStart => exact ⟨0, by omega, rfl, Below.refl _ _⟩
  case round =>
    obtain ⟨k, hkl, rfl, hb⟩ := hrel
    by_cases hlt : k < d.length
    · have c0 : wr.cell? ⟨g, k * 2, none⟩ = some (.string ⟨(d[k]).1.toArray⟩) := (hb.cell (p := ⟨g, k * 2, none⟩) hg).trans (HC.out (k * 2) _ ((cellsF_at d k 0 hlt (by omega)).trans rfl))
      have c1 : wr.cell? ⟨g, k * 2 + 1, none⟩ = some (.string ⟨(d[k]).2.toArray⟩) := (hb.cell (p := ⟨g, k * 2 + 1, none⟩) hg).trans (HC.out (k * 2 + 1) _ ((cellsF_at d k 1 hlt (by omega)).trans rfl))
      have HY := Lib.hid fun W (h : Below w.heap.size w W) => name_yes (d[k]).1 W (HK.out.below h) (HN.out k hlt)
      have hsz := hb.size
      generalize d[k] = x at *
      obtain ⟨nm, vl⟩ := x
      go_wp2_with fail
      refine (HY.out _ (hb.alloc hsz _)).mono ?_
      rintro e w1 ⟨rfl, hb1⟩
      have hb2 : Below w.heap.size w w1 := (hb.alloc hsz _).trans (hb1.mono (by simp; omega))
      go_wp2_with fail
      go_roundw
      case rel => exact ⟨k + 1, by omega, by go_num, hb2⟩
      case measure => simp [intOf]; omega
    · go_wp2_with fail
      refine (clone_any g 0 cap d wr h1 (by omega) (fun j u hj => by rw [Nat.zero_add]; exact (hb.cell (p := ⟨g, j, none⟩) hg).trans (HC.out j u hj))).mono ?_
      rintro e w1 ⟨g', c', rfl, hown, hb1⟩
      obtain ⟨hg1, hgB, hcl, hfr⟩ := cells_ownF hown
      have hH := holdsK_of hcl hfr
      have HS := Lib.hid (sort_any g' 0 c' d.toArray w1 hH hg1 (by simpa using h19))
      rw [show d.toArray.size = d.length by simp] at HS
      have HH := Lib.hid hH
      clear hcl hfr hown hH
      go_wp2_with fail
      refine HS.out.mono ?_
      rintro e w2 ⟨rfl, m, os, rfl⟩
      have HW := Lib.hid (sortW_cells (n := m) (os := os) HH.out hg1 HZ.out)
      have hb3 : Below w.heap.size w (sortWorldK encF 2 w1 g' 0 m (sortF d.toArray) os) := below_sortW (hb.trans (hb1.mono hb.size)) (Nat.le_trans hb.size hgB) (Nat.le_trans hb.size hb1.size)
      have hgw := Nat.le_trans hb.size hgB
      generalize sortWorldK encF 2 w1 g' 0 m (sortF d.toArray) os = w2 at *
      clear HS HH
      go_wp2_with fail
      go_loopw [6] (fun i wr2 => ∃ k2 q : Nat, 1 ≤ k2 ∧ k2 ≤ d.length ∧ i = .int .i64 k2 ∧ wr2 = w2.drewN q) (fun i _ => d.length - (intOf i).toNat)
      case atStart => exact ⟨1, 0, by omega, by omega, rfl, rfl⟩
      case round =>
        obtain ⟨k2, q, hk1, hk2, rfl, rfl⟩ := hrel
        by_cases hlt2 : k2 < d.length
        · obtain ⟨k3, rfl⟩ : ∃ k3, k2 = k3 + 1 := ⟨k2 - 1, by omega⟩
          have a1 : (w2.drewN q).cell? ⟨g', (k3 + 1) * 2, none⟩ = some (.string ⟨((sortF d.toArray)[k3 + 1]!).1.toArray⟩) := (HW.out (k3 + 1) (by rw [HZ.out]; omega)).1
          have a2 : (w2.drewN q).cell? ⟨g', k3 * 2, none⟩ = some (.string ⟨((sortF d.toArray)[k3]!).1.toArray⟩) := (HW.out k3 (by rw [HZ.out]; omega)).1
          have hne : (((sortF d.toArray)[k3 + 1]!).1 == ((sortF d.toArray)[k3]!).1) = false := beq_eq_false_iff_ne.2 (HD.out (k3 + 1) (by omega) hlt2)
          generalize ((sortF d.toArray)[k3 + 1]!).1 = n1 at *
          generalize ((sortF d.toArray)[k3]!).1 = n2 at *
          generalize hWq : w2.drewN q = W at *
          go_wp2_with fail
          go_quiet (fail)
          go_wp2_with fail
          go_roundw
          case rel => exact ⟨k3 + 2, _, by omega, by omega, by go_num, by rw [← hWq, World.drewN_drewN]⟩
          case measure => simp [intOf]; omega
        · go_wp2_with fail
          go_ret2
          refine ⟨g', c', rfl, hgw, fun i hi => ?_, below_drewN hb3 q⟩
          exact HW.out i (by rw [HZ.out]; exact hi)

end Go.Proofs.YtfdbjgdafolbmaaDoor

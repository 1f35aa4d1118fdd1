/-
  SortStableFunc at up to 32 fields; Sort of package parse for every list.
-/
import Derived.Test.YtfdbjgdafolbmaaDoorSoD
namespace Go.Proofs.YtfdbjgdafolbmaaDoor
open Go.RowKit Go.Sort Go.Shelf

theorem RW.holds {w0 W : World} {blk : Nat} {d : Array Fd} (h : RW w0 blk d W) : HoldsK encF 2 W blk 0 d := by
  have hd := holdsK_of (w := W) (g := blk) (d := d.toList) (fun j u hj => ?_) h.fz
  · simpa using hd
  · have hj2 : j < d.toList.length * 2 := by rw [← cellsF_length]; exact (List.getElem?_eq_some_iff.1 hj).1
    have hi : j / 2 < d.size := by simp at hj2; omega
    obtain ⟨a, b⟩ := h.cell (j / 2) hi
    have e1 : d[j / 2]! = d.toList[j / 2]'(by simpa using hi) := by rw [getElem!_pos d _ hi, Array.getElem_toList]
    rw [e1] at a b
    have hm : j % 2 = 0 ∨ j % 2 = 1 := by omega
    have hc := cellsF_at d.toList (j / 2) (j % 2) (by simpa using hi) (by omega)
    rw [show j / 2 * 2 + j % 2 = j by omega, hj] at hc
    rcases hm with e | e
    · rw [e] at hc
      injection hc with hc
      rw [show j = j / 2 * 2 by omega, a, hc]
    · rw [e] at hc
      injection hc with hc
      rw [show j = j / 2 * 2 + 1 by omega, b, hc]
theorem RW.of_sortW {w0 W : World} {blk n : Nat} {d r : Array Fd} {os : Array Obj} (h : RW w0 blk d W) (hs : r.size = d.size) : RW w0 blk r (sortWorldK encF 2 W blk 0 n r os) := by
  have hH := holdsK_sortWorldK_c encF 2 W blk 0 d r n os h.holds h.hi hs
  refine ⟨fun i hi => ?_, fun i => ?_, h.lo, Nat.lt_of_lt_of_le h.hi (size_sortWorldK_c encF 2 W blk 0 n r os), below_sortW h.below h.lo h.below.size⟩
  · have a := (HoldsK.cell hH hi (c := 0) (by omega)).1
    have b := (HoldsK.cell hH hi (c := 1) (by omega)).1
    rw [Nat.zero_add] at a b
    exact ⟨a, b⟩
  · unfold sortWorldK
    rw [frozen?_grow _ _ _ (by show blk < (putRowK encF 2 (Sort.ahead W n) blk 0 r).heap.size; rw [size_putRowK]; exact h.hi)]
    unfold putRowK
    rw [frozen?_putRow, frozen?_ahead]
    exact h.fz i

theorem insR {w0 W : World} {blk : Nat} {d : Array Fd} (cap a b : Nat) (h : RW w0 blk d W) (hab : a ≤ b) (hb : b ≤ d.size) (hd : d.size ≤ 1000) :
    Calls Tryd.prog 62 #[.slice (some ⟨blk, 0, none⟩) d.size cap, .int .i64 a, .int .i64 b, cmpV] W fun e w' => e = .returned (.tuple #[]) ∧ ∃ d', Mg d a b d' ∧ RW w0 blk d' w' := by
  have hi := AnyQ.insertionSortCmpFunc Tryd.insField 2 Tryd.isAgg30 Tryd.sizeOf30 encF (fun _ => rfl) (fun x v hv => by simp [encF] at hv; rcases hv with rfl | rfl <;> rfl) cmpF 29 #[] blk 0 cap a b d W
    (enters_of Tryd.func29 (by kernel_rfl) rfl) (cmp_lays blk 0 d.size W) h.holds h.hi hab hb (by omega)
  obtain ⟨hp, hs⟩ := insertionSort_holds (lt := ltF) swoF d a b hab hb
  exact hi.mono fun e w' ⟨h1, n, os, h2⟩ => ⟨h1, _, ⟨hp, hs⟩, by rw [h2]; exact h.of_sortW hp.1⟩

set_option maxRecDepth 100000 in
set_option maxHeartbeats 2000000 in
theorem stableR {w0 W : World} {blk : Nat} {d : Array Fd} (cap : Nat) (h : RW w0 blk d W) (hd : d.size ≤ 32) :
    Calls Tryd.prog 46 #[.slice (some ⟨blk, 0, none⟩) d.size cap, .int .i64 d.size, cmpV] W fun e w' => e = .returned (.tuple #[]) ∧ ∃ d', Mg d 0 d.size d' ∧ RW w0 blk d' w' := by
  obtain ⟨n, hn⟩ : ∃ n, d.size = n := ⟨_, rfl⟩
  have HN := Lib.hid hn
  by_cases h20 : n < 20
  · have HI := Lib.hid (insR cap 0 d.size h (by omega) (Nat.le_refl _) (by omega))
    rw [hn] at HI hd ⊢
    clear h hn
    have t1 : decide ((20 : Int) ≤ (n : Int)) = false := by simp; omega
    have t2 : decide ((20 : Int) < (n : Int)) = false := by simp; omega
    go_enter Tryd.func46, Tryd.ntmps46
    go_wp2_with fail
    refine wp_loop_rounds 1 ?_
    rw [rounds_succ]
    go_wp2_with fail
    refine HI.out.mono ?_
    rintro e w1 ⟨rfl, d1, hg1, h1⟩
    have HF := Lib.hid (show Mg d 0 n d1 ∧ RW w0 blk d1 w1 from ⟨hg1, h1⟩)
    clear hg1 h1
    go_wp2_with fail
    refine wp_loop_rounds 1 ?_
    rw [rounds_succ]
    go_wp2_with fail
    go_end0
    exact ⟨rfl, d1, HF.out.1, HF.out.2⟩
  · have HI := Lib.hid (insR cap 0 20 h (by omega) (by omega) (by omega))
    rw [hn] at HI hd ⊢
    have HIR := Lib.hid fun (D : Array Fd) (W' : World) (hD : D.size = n) hR => insR (w0 := w0) (W := W') (blk := blk) (d := D) cap 20 n hR (by omega) (by omega) (by omega)
    have HSM := Lib.hid fun (D : Array Fd) (W' : World) (hD : D.size = n) (h3 : 20 < n) s1 s2 hR => symMerge_any (w0 := w0) (blk := blk) cap n 0 20 n D W' (by omega) (by omega) h3 (by omega) (by omega) s1 s2 hR
    clear h hn
    have t1 : decide ((20 : Int) ≤ (n : Int)) = true := by simp; omega
    have t3 : decide ((40 : Int) ≤ (n : Int)) = false := by simp; omega
    go_enter Tryd.func46, Tryd.ntmps46
    go_wp2_with fail
    refine wp_loop_rounds 2 ?_
    rw [rounds_succ]
    go_wp2_with fail
    refine HI.out.mono ?_
    rintro e w1 ⟨rfl, d1, hg1, h1⟩
    have z1 : d1.size = n := hg1.perm.1.trans HN.out
    have HG1 := Lib.hid hg1
    have H1 := Lib.hid h1
    have HZ1 := Lib.hid z1
    clear hg1 h1 z1 HI
    go_wp2_with fail
    rw [rounds_succ]
    go_wp2_with fail
    have HC2 := Lib.hid (HIR.out d1 w1 HZ1.out H1.out)
    rw [HZ1.out] at HC2
    refine HC2.out.mono ?_
    rintro e w2 ⟨rfl, d2, hg2, h2⟩
    have z2 : d2.size = n := hg2.perm.1.trans HZ1.out
    have HG2 := Lib.hid hg2
    have H2 := Lib.hid h2
    have HZ2 := Lib.hid z2
    clear hg2 h2 z2 HC2
    by_cases h3 : 20 < n
    · have t2 : decide ((20 : Int) < (n : Int)) = true := by simp; omega
      have HC3 := Lib.hid (HSM.out d2 w2 HZ2.out h3 (fun i j a1 a2 a3 => by rw [HG2.out.perm.2.1 i (by omega), HG2.out.perm.2.1 j (by omega)]; exact HG1.out.sorted i j a1 a2 a3) HG2.out.sorted H2.out)
      unfold SymC at HC3
      rw [HZ2.out] at HC3
      go_wp2_with fail
      refine wp_loop_rounds 2 ?_
      rw [rounds_succ]
      go_wp2_with fail
      refine wp_loop_rounds 1 ?_
      rw [rounds_succ]
      go_wp2_with fail
      refine HC3.out.mono ?_
      rintro e w3 ⟨rfl, d3, hg3, h4⟩
      have HF := Lib.hid (show Mg d 0 n d3 ∧ RW w0 blk d3 w3 from ⟨⟨permIn_trans _ _ _ _ _ (permIn_mono _ _ _ _ _ _ (Nat.le_refl _) (by omega) (by rw [HN.out]; exact Nat.le_refl _) HG1.out.perm) (permIn_trans _ _ _ _ _ (permIn_mono _ _ _ _ _ _ (by omega) (Nat.le_refl _) (by rw [HZ1.out]; exact Nat.le_refl _) HG2.out.perm) hg3.perm), hg3.sorted⟩, h4⟩)
      clear hg3 h4
      go_wp2_with fail
      rw [rounds_succ]
      go_wp2_with fail
      go_end0
      exact ⟨rfl, d3, HF.out.1, HF.out.2⟩
    · obtain rfl : n = 20 := by omega
      have HF := Lib.hid (show Mg d 0 20 d2 ∧ RW w0 blk d2 w2 from ⟨⟨permIn_trans _ _ _ _ _ HG1.out.perm (permIn_mono _ _ _ _ _ _ (by omega) (Nat.le_refl _) (by rw [HZ1.out]; exact Nat.le_refl _) HG2.out.perm), fun i j a1 a2 a3 => by rw [HG2.out.perm.2.1 i (by omega), HG2.out.perm.2.1 j (by omega)]; exact HG1.out.sorted i j a1 a2 a3⟩, H2.out⟩)
      go_wp2_with fail
      refine wp_loop_rounds 1 ?_
      rw [rounds_succ]
      go_wp2_with fail
      go_end0
      exact ⟨rfl, d2, HF.out.1, HF.out.2⟩

end Go.Proofs.YtfdbjgdafolbmaaDoor

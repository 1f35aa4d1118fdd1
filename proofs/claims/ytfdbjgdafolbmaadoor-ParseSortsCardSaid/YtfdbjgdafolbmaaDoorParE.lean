/-
  slices.SortStableFunc at fields, fewer than 20 of them: the insertion sort by names.
-/
import Derived.Test.YtfdbjgdafolbmaaDoorParD
import Derived.Test.YtfdbjgdafolbmaaDoorShelfB
namespace Go.Proofs.YtfdbjgdafolbmaaDoor
open Go.RowKit Go.Sort Go.Shelf

/-- A field's two cells. -/
def encF (x : List UInt8 × List UInt8) : List Value := [.string ⟨x.1.toArray⟩, .string ⟨x.2.toArray⟩]
def cmpF (x y : List UInt8 × List UInt8) : Int := Lib.compareBytes x.1 y.1

theorem closure_any (x y : List UInt8 × List UInt8) (W : World) : Calls Tryd.prog 29 #[.agg #[.string ⟨x.1.toArray⟩, .string ⟨x.2.toArray⟩], .agg #[.string ⟨y.1.toArray⟩, .string ⟨y.2.toArray⟩]] W fun e w' =>
    e = .returned (.int .i64 (cmpF x y)) ∧ ∃ q os', w' = grow (W.drewN q) os' := by
  have hcon := Lib.hid fun W' => Tryd.strings_Compare ⟨x.1.toArray⟩ ⟨y.1.toArray⟩ W'
  go_enter Tryd.func29, Tryd.ntmps29
  go_wp2_with (go_at_call 30; refine (hcon.out _).mono ?_; rintro e w' ⟨rfl, rfl⟩)
  go_ret
  exact ⟨rfl, 0, _, by rw [alloc_eq_grow, alloc_eq_grow, grow_grow]; rfl⟩
theorem cmp_lays (blk off size : Nat) (w : World) : CmpLays Tryd.prog 29 #[] encF 2 cmpF blk off size w :=
  fun _ _ _ _ x y => closure_any x y _
def sortF (d : Array (List UInt8 × List UInt8)) : Array (List UInt8 × List UInt8) := Sort.insertionSort (ltOf cmpF) d 0 d.size
theorem ins_any (blk off cap : Nat) (d : Array (List UInt8 × List UInt8)) (w : World) (hH : HoldsK encF 2 w blk off d) (hblk : blk < w.heap.size) (h : d.size ≤ 19) :
    Calls Tryd.prog 62 #[.slice (some ⟨blk, off, none⟩) d.size cap, .int .i64 0, .int .i64 d.size, .func (.func 29) #[] #[]] w fun e w' =>
      e = .returned (.tuple #[]) ∧ ∃ n os, w' = sortWorldK encF 2 w blk off n (sortF d) os :=
  AnyQ.insertionSortCmpFunc Tryd.insField 2 Tryd.isAgg30 Tryd.sizeOf30 encF (fun _ => rfl) (fun x v hv => by simp [encF] at hv; rcases hv with rfl | rfl <;> rfl) cmpF 29 #[] blk off cap 0 d.size d w
    (enters_of Tryd.func29 (by kernel_rfl) rfl) (cmp_lays blk off d.size w) hH hblk (Nat.zero_le _) (Nat.le_refl _) (by omega)

theorem stable_any (blk off cap : Nat) (d : Array (List UInt8 × List UInt8)) (w : World) (hH : HoldsK encF 2 w blk off d) (hblk : blk < w.heap.size) (h : d.size ≤ 19) :
    Calls Tryd.prog 46 #[.slice (some ⟨blk, off, none⟩) d.size cap, .int .i64 d.size, .func (.func 29) #[] #[]] w fun e w' =>
      e = .returned (.tuple #[]) ∧ ∃ n os, w' = sortWorldK encF 2 w blk off n (sortF d) os := by
  have HI := Lib.hid (ins_any blk off cap d w hH hblk h)
  clear hH
  generalize sortF d = r at *
  generalize d.size = n at *
  have t1 : decide ((20 : Int) ≤ (n : Int)) = false := by simp; omega
  have t2 : decide ((20 : Int) < (n : Int)) = false := by simp; omega
  go_enter Tryd.func46, Tryd.ntmps46
  go_wp2_with fail
  refine wp_loop_rounds 1 ?_
  rw [rounds_succ]
  go_wp2_with (go_at_call 62; refine HI.out.mono ?_; rintro e w' ⟨rfl, m, os, rfl⟩)
  refine wp_loop_rounds 1 ?_
  rw [rounds_succ]
  go_wp2_with fail
  go_end0
  exact ⟨rfl, m, os, rfl⟩

theorem sort_any (blk off cap : Nat) (d : Array (List UInt8 × List UInt8)) (w : World) (hH : HoldsK encF 2 w blk off d) (hblk : blk < w.heap.size) (h : d.size ≤ 19) :
    Calls Tryd.prog 28 #[.slice (some ⟨blk, off, none⟩) d.size cap, .func (.func 29) #[] #[]] w fun e w' =>
      e = .returned (.tuple #[]) ∧ ∃ n os, w' = sortWorldK encF 2 w blk off n (sortF d) os := by
  have HI := Lib.hid (stable_any blk off cap d w hH hblk h)
  clear hH
  generalize sortF d = r at *
  generalize d.size = n at *
  go_enter Tryd.func28, Tryd.ntmps28
  go_wp2_with (go_at_call 46; refine HI.out.mono ?_; rintro e w' ⟨rfl, m, os, rfl⟩)
  go_end0
  exact ⟨rfl, m, os, rfl⟩

end Go.Proofs.YtfdbjgdafolbmaaDoor

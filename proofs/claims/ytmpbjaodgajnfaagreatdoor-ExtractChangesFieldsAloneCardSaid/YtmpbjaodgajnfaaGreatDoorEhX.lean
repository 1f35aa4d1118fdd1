/-
 Joined: EwD, EwE.
-/
import Derived.Test.YtmpbjaodgajnfaaGreatDoorEhM
import Derived.Test.YtmpbjaodgajnfaaGreatDoorEhL
import Derived.BigRegion
namespace Go.Proofs.YtmpbjaodgajnfaaGreatDoor
open Go.RowKit
set_option maxHeartbeats 16000000 in
set_option maxRecDepth 1000000 in
theorem same12_yes {F : Nat → Prop} (x0 x1 x2 x3 x5 x6 : Int) (x7 x8 : List UInt8) (ls : List Ln) (fs : List Fd) (lv lv' fv fv' : Value) (w : World) (h1 : RW F 3 LnR w ls lv) (h2 : RW F 3 LnR w ls lv') (h3 : RW F 2 FdR w fs fv) (h4 : RW F 2 FdR w fs fv') :
  Calls Tryz.prog 28 #[.agg #[.string ⟨#[]⟩, .int .i64 x0, .int .i64 x1, .int .i64 x2, .int .i64 x3, lv, .int .i64 x5, .int .i64 x6, .string ⟨x7.toArray⟩, .string ⟨x8.toArray⟩, fv], .agg #[.string ⟨#[]⟩, .int .i64 x0, .int .i64 x1, .int .i64 x2, .int .i64 x3, lv', .int .i64 x5, .int .i64 x6, .string ⟨x7.toArray⟩, .string ⟨x8.toArray⟩, fv']] w fun en w' => en = .returned (.bool true) ∧ Below w.heap.size w w' := by
 obtain ⟨la, lc, hlv, _⟩ := id h1
 obtain ⟨la', lc', hlv', _⟩ := id h2
 obtain ⟨fa, fc, hfv, _⟩ := id h3
 obtain ⟨fa', fc', hfv', _⟩ := id h4
 obtain ⟨n, hn⟩ : ∃ n, ls.length = n := ⟨_, rfl⟩
 obtain ⟨m, hm⟩ : ∃ m, fs.length = m := ⟨_, rfl⟩
 rw [hn] at hlv hlv'
 rw [hm] at hfv hfv'
 subst hlv hlv' hfv hfv'
 have HL := Lib.hid (fun (W : World) (hb : Below w.heap.size w W) => samelines_yes ls _ _ W (h1.go (F' := fun _ => True) ⟨hb.size, fun k _ hk => ⟨trivial, hb.block k hk⟩⟩ (fun _ _ h => h)) (h2.go (F' := fun _ => True) ⟨hb.size, fun k _ hk => ⟨trivial, hb.block k hk⟩⟩ (fun _ _ h => h)))
 have HF := Lib.hid (fun (W : World) (hb : Below w.heap.size w W) => same11_yes fs _ _ W (h3.go (F' := fun _ => True) ⟨hb.size, fun k _ hk => ⟨trivial, hb.block k hk⟩⟩ (fun _ _ h => h)) (h4.go (F' := fun _ => True) ⟨hb.size, fun k _ hk => ⟨trivial, hb.block k hk⟩⟩ (fun _ _ h => h)))
 clear h1 h2 h3 h4 hn hm
 go_enter Tryz.func28, Tryz.ntmps28
 go_wp2_with fail
 go_region
 ·obtain ⟨W, hW⟩ : ∃ W, ((((w.alloc (.cells #[.string ⟨#[]⟩, .int .i64 x0, .int .i64 x1, .int .i64 x2, .int .i64 x3, .slice la n lc, .int .i64 x5, .int .i64 x6, .string ⟨x7.toArray⟩, .string ⟨x8.toArray⟩, .slice fa m fc] 66)).alloc (.cells #[.string ⟨#[]⟩, .int .i64 x0, .int .i64 x1, .int .i64 x2, .int .i64 x3, .slice la' n lc', .int .i64 x5, .int .i64 x6, .string ⟨x7.toArray⟩, .string ⟨x8.toArray⟩, .slice fa' m fc'] 66)).alloc (.cells #[.int .i64 x0, .int .i64 x1, .int .i64 x2, .int .i64 x3, .slice la n lc, .int .i64 x5, .int .i64 x6, .string ⟨x7.toArray⟩, .string ⟨x8.toArray⟩, .slice fa m fc] 44)).alloc (.cells #[.int .i64 x0, .int .i64 x1, .int .i64 x2, .int .i64 x3, .slice la' n lc', .int .i64 x5, .int .i64 x6, .string ⟨x7.toArray⟩, .string ⟨x8.toArray⟩, .slice fa' m fc'] 44)).drew = W := ⟨_, rfl⟩
  rw [hW]
  have hb : Below w.heap.size w W := by rw [← hW]; exact (((((Below.refl _ _).alloc (Nat.le_refl _) _).alloc (by rw [Deep.nblk_alloc]; omega) _).alloc (by rw [Deep.nblk_alloc, Deep.nblk_alloc]; omega) _).alloc (by rw [Deep.nblk_alloc, Deep.nblk_alloc, Deep.nblk_alloc]; omega) _).drew
  have hz : W.heap.size = w.heap.size + 4 := by rw [← hW]; show (World.heap (World.alloc _ _)).size = _; rw [Deep.nblk_alloc, Deep.nblk_alloc, Deep.nblk_alloc, Deep.nblk_alloc]
  have hx : W.heap[w.heap.size + 2]? = some (.cells #[.int .i64 x0, .int .i64 x1, .int .i64 x2, .int .i64 x3, .slice la n lc, .int .i64 x5, .int .i64 x6, .string ⟨x7.toArray⟩, .string ⟨x8.toArray⟩, .slice fa m fc] 44 (0, 0)) := by
   rw [← hW]
   refine (Deep.blk_alloc_lt _ _ _ (by rw [Deep.nblk_alloc, Deep.nblk_alloc, Deep.nblk_alloc]; omega)).trans ?_
   have := Deep.blk_alloc_new ((w.alloc (.cells #[.string ⟨#[]⟩, .int .i64 x0, .int .i64 x1, .int .i64 x2, .int .i64 x3, .slice la n lc, .int .i64 x5, .int .i64 x6, .string ⟨x7.toArray⟩, .string ⟨x8.toArray⟩, .slice fa m fc] 66)).alloc (.cells #[.string ⟨#[]⟩, .int .i64 x0, .int .i64 x1, .int .i64 x2, .int .i64 x3, .slice la' n lc', .int .i64 x5, .int .i64 x6, .string ⟨x7.toArray⟩, .string ⟨x8.toArray⟩, .slice fa' m fc'] 66)) (.cells #[.int .i64 x0, .int .i64 x1, .int .i64 x2, .int .i64 x3, .slice la n lc, .int .i64 x5, .int .i64 x6, .string ⟨x7.toArray⟩, .string ⟨x8.toArray⟩, .slice fa m fc] 44)
   rwa [Deep.nblk_alloc, Deep.nblk_alloc] at this
  have hy : W.heap[w.heap.size + 3]? = some (.cells #[.int .i64 x0, .int .i64 x1, .int .i64 x2, .int .i64 x3, .slice la' n lc', .int .i64 x5, .int .i64 x6, .string ⟨x7.toArray⟩, .string ⟨x8.toArray⟩, .slice fa' m fc'] 44 (0, 0)) := by
   rw [← hW]
   have := Deep.blk_alloc_new (((w.alloc (.cells #[.string ⟨#[]⟩, .int .i64 x0, .int .i64 x1, .int .i64 x2, .int .i64 x3, .slice la n lc, .int .i64 x5, .int .i64 x6, .string ⟨x7.toArray⟩, .string ⟨x8.toArray⟩, .slice fa m fc] 66)).alloc (.cells #[.string ⟨#[]⟩, .int .i64 x0, .int .i64 x1, .int .i64 x2, .int .i64 x3, .slice la' n lc', .int .i64 x5, .int .i64 x6, .string ⟨x7.toArray⟩, .string ⟨x8.toArray⟩, .slice fa' m fc'] 66)).alloc (.cells #[.int .i64 x0, .int .i64 x1, .int .i64 x2, .int .i64 x3, .slice la n lc, .int .i64 x5, .int .i64 x6, .string ⟨x7.toArray⟩, .string ⟨x8.toArray⟩, .slice fa m fc] 44)) (.cells #[.int .i64 x0, .int .i64 x1, .int .i64 x2, .int .i64 x3, .slice la' n lc', .int .i64 x5, .int .i64 x6, .string ⟨x7.toArray⟩, .string ⟨x8.toArray⟩, .slice fa' m fc'] 44)
   rwa [Deep.nblk_alloc, Deep.nblk_alloc, Deep.nblk_alloc] at this
  have hi : W.heap[w.heap.size]? = some (.cells #[.string ⟨#[]⟩, .int .i64 x0, .int .i64 x1, .int .i64 x2, .int .i64 x3, .slice la n lc, .int .i64 x5, .int .i64 x6, .string ⟨x7.toArray⟩, .string ⟨x8.toArray⟩, .slice fa m fc] 66 (0, 0)) := by
   rw [← hW]
   refine (Deep.blk_alloc_lt _ _ _ (by rw [Deep.nblk_alloc, Deep.nblk_alloc, Deep.nblk_alloc]; omega)).trans ((Deep.blk_alloc_lt _ _ _ (by rw [Deep.nblk_alloc, Deep.nblk_alloc]; omega)).trans ((Deep.blk_alloc_lt _ _ _ (by rw [Deep.nblk_alloc]; omega)).trans (Deep.blk_alloc_new _ _)))
  have hj : W.heap[w.heap.size + 1]? = some (.cells #[.string ⟨#[]⟩, .int .i64 x0, .int .i64 x1, .int .i64 x2, .int .i64 x3, .slice la' n lc', .int .i64 x5, .int .i64 x6, .string ⟨x7.toArray⟩, .string ⟨x8.toArray⟩, .slice fa' m fc'] 66 (0, 0)) := by
   rw [← hW]
   refine (Deep.blk_alloc_lt _ _ _ (by rw [Deep.nblk_alloc, Deep.nblk_alloc, Deep.nblk_alloc]; omega)).trans ((Deep.blk_alloc_lt _ _ _ (by rw [Deep.nblk_alloc, Deep.nblk_alloc]; omega)).trans ?_)
   have := Deep.blk_alloc_new (w.alloc (.cells #[.string ⟨#[]⟩, .int .i64 x0, .int .i64 x1, .int .i64 x2, .int .i64 x3, .slice la n lc, .int .i64 x5, .int .i64 x6, .string ⟨x7.toArray⟩, .string ⟨x8.toArray⟩, .slice fa m fc] 66)) (.cells #[.string ⟨#[]⟩, .int .i64 x0, .int .i64 x1, .int .i64 x2, .int .i64 x3, .slice la' n lc', .int .i64 x5, .int .i64 x6, .string ⟨x7.toArray⟩, .string ⟨x8.toArray⟩, .slice fa' m fc'] 66)
   rwa [Deep.nblk_alloc] at this
  have p0 : W.cell? ⟨w.heap.size + 2, 0, none⟩ = some (.int .i64 x0) := by rw [Lib.cell_of_heap hx]; rfl
  have p1 : W.cell? ⟨w.heap.size + 2, 1, none⟩ = some (.int .i64 x1) := by rw [Lib.cell_of_heap hx]; rfl
  have p2 : W.cell? ⟨w.heap.size + 2, 2, none⟩ = some (.int .i64 x2) := by rw [Lib.cell_of_heap hx]; rfl
  have p3 : W.cell? ⟨w.heap.size + 2, 3, none⟩ = some (.int .i64 x3) := by rw [Lib.cell_of_heap hx]; rfl
  have p4 : W.cell? ⟨w.heap.size + 2, 4, none⟩ = some (.slice la n lc) := by rw [Lib.cell_of_heap hx]; rfl
  have p5 : W.cell? ⟨w.heap.size + 2, 5, none⟩ = some (.int .i64 x5) := by rw [Lib.cell_of_heap hx]; rfl
  have p6 : W.cell? ⟨w.heap.size + 2, 6, none⟩ = some (.int .i64 x6) := by rw [Lib.cell_of_heap hx]; rfl
  have p7 : W.cell? ⟨w.heap.size + 2, 7, none⟩ = some (.string ⟨x7.toArray⟩) := by rw [Lib.cell_of_heap hx]; rfl
  have p8 : W.cell? ⟨w.heap.size + 2, 8, none⟩ = some (.string ⟨x8.toArray⟩) := by rw [Lib.cell_of_heap hx]; rfl
  have p9 : W.cell? ⟨w.heap.size + 2, 9, none⟩ = some (.slice fa m fc) := by rw [Lib.cell_of_heap hx]; rfl
  have q0 : W.cell? ⟨w.heap.size + 3, 0, none⟩ = some (.int .i64 x0) := by rw [Lib.cell_of_heap hy]; rfl
  have q1 : W.cell? ⟨w.heap.size + 3, 1, none⟩ = some (.int .i64 x1) := by rw [Lib.cell_of_heap hy]; rfl
  have q2 : W.cell? ⟨w.heap.size + 3, 2, none⟩ = some (.int .i64 x2) := by rw [Lib.cell_of_heap hy]; rfl
  have q3 : W.cell? ⟨w.heap.size + 3, 3, none⟩ = some (.int .i64 x3) := by rw [Lib.cell_of_heap hy]; rfl
  have q4 : W.cell? ⟨w.heap.size + 3, 4, none⟩ = some (.slice la' n lc') := by rw [Lib.cell_of_heap hy]; rfl
  have q5 : W.cell? ⟨w.heap.size + 3, 5, none⟩ = some (.int .i64 x5) := by rw [Lib.cell_of_heap hy]; rfl
  have q6 : W.cell? ⟨w.heap.size + 3, 6, none⟩ = some (.int .i64 x6) := by rw [Lib.cell_of_heap hy]; rfl
  have q7 : W.cell? ⟨w.heap.size + 3, 7, none⟩ = some (.string ⟨x7.toArray⟩) := by rw [Lib.cell_of_heap hy]; rfl
  have q8 : W.cell? ⟨w.heap.size + 3, 8, none⟩ = some (.string ⟨x8.toArray⟩) := by rw [Lib.cell_of_heap hy]; rfl
  have q9 : W.cell? ⟨w.heap.size + 3, 9, none⟩ = some (.slice fa' m fc') := by rw [Lib.cell_of_heap hy]; rfl
  have r0 : W.cell? ⟨w.heap.size, 0, none⟩ = some (.string ⟨#[]⟩) := by rw [Lib.cell_of_heap hi]; rfl
  have r1 : W.cell? ⟨w.heap.size + 1, 0, none⟩ = some (.string ⟨#[]⟩) := by rw [Lib.cell_of_heap hj]; rfl
  have HB := Lib.hid hb
  have HZ := Lib.hid hz
  clear hW hb hz hx hy hi hj
  go_wp2_with fail
  refine (HL.out W HB.out).mono ?_
  rintro en w2 ⟨rfl, hb2⟩
  have p9' := (hb2.cell (p := ⟨w.heap.size + 2, 9, none⟩) (by show w.heap.size + 2 < W.heap.size; have := HZ.out; omega)).trans p9
  have q9' := (hb2.cell (p := ⟨w.heap.size + 3, 9, none⟩) (by show w.heap.size + 3 < W.heap.size; have := HZ.out; omega)).trans q9
  have HB2 := Lib.hid (HB.out.trans (hb2.mono HB.out.size))
  clear hb2 p0 p1 p2 p3 p4 p5 p6 p7 p8 p9 q0 q1 q2 q3 q4 q5 q6 q7 q8 q9 r0 r1
  go_wp2_with fail
  refine (HF.out w2 HB2.out).mono ?_
  rintro en w3 ⟨rfl, hb3⟩
  have HB3 := Lib.hid (HB2.out.trans (hb3.mono HB2.out.size))
  clear hb3 p9' q9'
  go_wp2_with fail
  go_ret
  exact ⟨rfl, HB3.out⟩
 ·obtain ⟨W, hW⟩ : ∃ W, ((((w.alloc (.cells #[.string ⟨#[]⟩, .int .i64 x0, .int .i64 x1, .int .i64 x2, .int .i64 x3, .slice la n lc, .int .i64 x5, .int .i64 x6, .string ⟨x7.toArray⟩, .string ⟨x8.toArray⟩, .slice fa m fc] 66)).alloc (.cells #[.string ⟨#[]⟩, .int .i64 x0, .int .i64 x1, .int .i64 x2, .int .i64 x3, .slice la' n lc', .int .i64 x5, .int .i64 x6, .string ⟨x7.toArray⟩, .string ⟨x8.toArray⟩, .slice fa' m fc'] 66)).alloc (.cells #[.int .i64 x0, .int .i64 x1, .int .i64 x2, .int .i64 x3, .slice la' n lc', .int .i64 x5, .int .i64 x6, .string ⟨x7.toArray⟩, .string ⟨x8.toArray⟩, .slice fa' m fc'] 44)).alloc (.cells #[.int .i64 x0, .int .i64 x1, .int .i64 x2, .int .i64 x3, .slice la n lc, .int .i64 x5, .int .i64 x6, .string ⟨x7.toArray⟩, .string ⟨x8.toArray⟩, .slice fa m fc] 44)).drew = W := ⟨_, rfl⟩
  rw [hW]
  have hb : Below w.heap.size w W := by rw [← hW]; exact (((((Below.refl _ _).alloc (Nat.le_refl _) _).alloc (by rw [Deep.nblk_alloc]; omega) _).alloc (by rw [Deep.nblk_alloc, Deep.nblk_alloc]; omega) _).alloc (by rw [Deep.nblk_alloc, Deep.nblk_alloc, Deep.nblk_alloc]; omega) _).drew
  have hz : W.heap.size = w.heap.size + 4 := by rw [← hW]; show (World.heap (World.alloc _ _)).size = _; rw [Deep.nblk_alloc, Deep.nblk_alloc, Deep.nblk_alloc, Deep.nblk_alloc]
  have hx : W.heap[w.heap.size + 2]? = some (.cells #[.int .i64 x0, .int .i64 x1, .int .i64 x2, .int .i64 x3, .slice la' n lc', .int .i64 x5, .int .i64 x6, .string ⟨x7.toArray⟩, .string ⟨x8.toArray⟩, .slice fa' m fc'] 44 (0, 0)) := by
   rw [← hW]
   refine (Deep.blk_alloc_lt _ _ _ (by rw [Deep.nblk_alloc, Deep.nblk_alloc, Deep.nblk_alloc]; omega)).trans ?_
   have := Deep.blk_alloc_new ((w.alloc (.cells #[.string ⟨#[]⟩, .int .i64 x0, .int .i64 x1, .int .i64 x2, .int .i64 x3, .slice la n lc, .int .i64 x5, .int .i64 x6, .string ⟨x7.toArray⟩, .string ⟨x8.toArray⟩, .slice fa m fc] 66)).alloc (.cells #[.string ⟨#[]⟩, .int .i64 x0, .int .i64 x1, .int .i64 x2, .int .i64 x3, .slice la' n lc', .int .i64 x5, .int .i64 x6, .string ⟨x7.toArray⟩, .string ⟨x8.toArray⟩, .slice fa' m fc'] 66)) (.cells #[.int .i64 x0, .int .i64 x1, .int .i64 x2, .int .i64 x3, .slice la' n lc', .int .i64 x5, .int .i64 x6, .string ⟨x7.toArray⟩, .string ⟨x8.toArray⟩, .slice fa' m fc'] 44)
   rwa [Deep.nblk_alloc, Deep.nblk_alloc] at this
  have hy : W.heap[w.heap.size + 3]? = some (.cells #[.int .i64 x0, .int .i64 x1, .int .i64 x2, .int .i64 x3, .slice la n lc, .int .i64 x5, .int .i64 x6, .string ⟨x7.toArray⟩, .string ⟨x8.toArray⟩, .slice fa m fc] 44 (0, 0)) := by
   rw [← hW]
   have := Deep.blk_alloc_new (((w.alloc (.cells #[.string ⟨#[]⟩, .int .i64 x0, .int .i64 x1, .int .i64 x2, .int .i64 x3, .slice la n lc, .int .i64 x5, .int .i64 x6, .string ⟨x7.toArray⟩, .string ⟨x8.toArray⟩, .slice fa m fc] 66)).alloc (.cells #[.string ⟨#[]⟩, .int .i64 x0, .int .i64 x1, .int .i64 x2, .int .i64 x3, .slice la' n lc', .int .i64 x5, .int .i64 x6, .string ⟨x7.toArray⟩, .string ⟨x8.toArray⟩, .slice fa' m fc'] 66)).alloc (.cells #[.int .i64 x0, .int .i64 x1, .int .i64 x2, .int .i64 x3, .slice la' n lc', .int .i64 x5, .int .i64 x6, .string ⟨x7.toArray⟩, .string ⟨x8.toArray⟩, .slice fa' m fc'] 44)) (.cells #[.int .i64 x0, .int .i64 x1, .int .i64 x2, .int .i64 x3, .slice la n lc, .int .i64 x5, .int .i64 x6, .string ⟨x7.toArray⟩, .string ⟨x8.toArray⟩, .slice fa m fc] 44)
   rwa [Deep.nblk_alloc, Deep.nblk_alloc, Deep.nblk_alloc] at this
  have hi : W.heap[w.heap.size]? = some (.cells #[.string ⟨#[]⟩, .int .i64 x0, .int .i64 x1, .int .i64 x2, .int .i64 x3, .slice la n lc, .int .i64 x5, .int .i64 x6, .string ⟨x7.toArray⟩, .string ⟨x8.toArray⟩, .slice fa m fc] 66 (0, 0)) := by
   rw [← hW]
   refine (Deep.blk_alloc_lt _ _ _ (by rw [Deep.nblk_alloc, Deep.nblk_alloc, Deep.nblk_alloc]; omega)).trans ((Deep.blk_alloc_lt _ _ _ (by rw [Deep.nblk_alloc, Deep.nblk_alloc]; omega)).trans ((Deep.blk_alloc_lt _ _ _ (by rw [Deep.nblk_alloc]; omega)).trans (Deep.blk_alloc_new _ _)))
  have hj : W.heap[w.heap.size + 1]? = some (.cells #[.string ⟨#[]⟩, .int .i64 x0, .int .i64 x1, .int .i64 x2, .int .i64 x3, .slice la' n lc', .int .i64 x5, .int .i64 x6, .string ⟨x7.toArray⟩, .string ⟨x8.toArray⟩, .slice fa' m fc'] 66 (0, 0)) := by
   rw [← hW]
   refine (Deep.blk_alloc_lt _ _ _ (by rw [Deep.nblk_alloc, Deep.nblk_alloc, Deep.nblk_alloc]; omega)).trans ((Deep.blk_alloc_lt _ _ _ (by rw [Deep.nblk_alloc, Deep.nblk_alloc]; omega)).trans ?_)
   have := Deep.blk_alloc_new (w.alloc (.cells #[.string ⟨#[]⟩, .int .i64 x0, .int .i64 x1, .int .i64 x2, .int .i64 x3, .slice la n lc, .int .i64 x5, .int .i64 x6, .string ⟨x7.toArray⟩, .string ⟨x8.toArray⟩, .slice fa m fc] 66)) (.cells #[.string ⟨#[]⟩, .int .i64 x0, .int .i64 x1, .int .i64 x2, .int .i64 x3, .slice la' n lc', .int .i64 x5, .int .i64 x6, .string ⟨x7.toArray⟩, .string ⟨x8.toArray⟩, .slice fa' m fc'] 66)
   rwa [Deep.nblk_alloc] at this
  have p0 : W.cell? ⟨w.heap.size + 2, 0, none⟩ = some (.int .i64 x0) := by rw [Lib.cell_of_heap hx]; rfl
  have p1 : W.cell? ⟨w.heap.size + 2, 1, none⟩ = some (.int .i64 x1) := by rw [Lib.cell_of_heap hx]; rfl
  have p2 : W.cell? ⟨w.heap.size + 2, 2, none⟩ = some (.int .i64 x2) := by rw [Lib.cell_of_heap hx]; rfl
  have p3 : W.cell? ⟨w.heap.size + 2, 3, none⟩ = some (.int .i64 x3) := by rw [Lib.cell_of_heap hx]; rfl
  have p4 : W.cell? ⟨w.heap.size + 2, 4, none⟩ = some (.slice la' n lc') := by rw [Lib.cell_of_heap hx]; rfl
  have p5 : W.cell? ⟨w.heap.size + 2, 5, none⟩ = some (.int .i64 x5) := by rw [Lib.cell_of_heap hx]; rfl
  have p6 : W.cell? ⟨w.heap.size + 2, 6, none⟩ = some (.int .i64 x6) := by rw [Lib.cell_of_heap hx]; rfl
  have p7 : W.cell? ⟨w.heap.size + 2, 7, none⟩ = some (.string ⟨x7.toArray⟩) := by rw [Lib.cell_of_heap hx]; rfl
  have p8 : W.cell? ⟨w.heap.size + 2, 8, none⟩ = some (.string ⟨x8.toArray⟩) := by rw [Lib.cell_of_heap hx]; rfl
  have p9 : W.cell? ⟨w.heap.size + 2, 9, none⟩ = some (.slice fa' m fc') := by rw [Lib.cell_of_heap hx]; rfl
  have q0 : W.cell? ⟨w.heap.size + 3, 0, none⟩ = some (.int .i64 x0) := by rw [Lib.cell_of_heap hy]; rfl
  have q1 : W.cell? ⟨w.heap.size + 3, 1, none⟩ = some (.int .i64 x1) := by rw [Lib.cell_of_heap hy]; rfl
  have q2 : W.cell? ⟨w.heap.size + 3, 2, none⟩ = some (.int .i64 x2) := by rw [Lib.cell_of_heap hy]; rfl
  have q3 : W.cell? ⟨w.heap.size + 3, 3, none⟩ = some (.int .i64 x3) := by rw [Lib.cell_of_heap hy]; rfl
  have q4 : W.cell? ⟨w.heap.size + 3, 4, none⟩ = some (.slice la n lc) := by rw [Lib.cell_of_heap hy]; rfl
  have q5 : W.cell? ⟨w.heap.size + 3, 5, none⟩ = some (.int .i64 x5) := by rw [Lib.cell_of_heap hy]; rfl
  have q6 : W.cell? ⟨w.heap.size + 3, 6, none⟩ = some (.int .i64 x6) := by rw [Lib.cell_of_heap hy]; rfl
  have q7 : W.cell? ⟨w.heap.size + 3, 7, none⟩ = some (.string ⟨x7.toArray⟩) := by rw [Lib.cell_of_heap hy]; rfl
  have q8 : W.cell? ⟨w.heap.size + 3, 8, none⟩ = some (.string ⟨x8.toArray⟩) := by rw [Lib.cell_of_heap hy]; rfl
  have q9 : W.cell? ⟨w.heap.size + 3, 9, none⟩ = some (.slice fa m fc) := by rw [Lib.cell_of_heap hy]; rfl
  have r0 : W.cell? ⟨w.heap.size, 0, none⟩ = some (.string ⟨#[]⟩) := by rw [Lib.cell_of_heap hi]; rfl
  have r1 : W.cell? ⟨w.heap.size + 1, 0, none⟩ = some (.string ⟨#[]⟩) := by rw [Lib.cell_of_heap hj]; rfl
  have HB := Lib.hid hb
  have HZ := Lib.hid hz
  clear hW hb hz hx hy hi hj
  go_wp2_with fail
  refine (HL.out W HB.out).mono ?_
  rintro en w2 ⟨rfl, hb2⟩
  have p9' := (hb2.cell (p := ⟨w.heap.size + 2, 9, none⟩) (by show w.heap.size + 2 < W.heap.size; have := HZ.out; omega)).trans p9
  have q9' := (hb2.cell (p := ⟨w.heap.size + 3, 9, none⟩) (by show w.heap.size + 3 < W.heap.size; have := HZ.out; omega)).trans q9
  have HB2 := Lib.hid (HB.out.trans (hb2.mono HB.out.size))
  clear hb2 p0 p1 p2 p3 p4 p5 p6 p7 p8 p9 q0 q1 q2 q3 q4 q5 q6 q7 q8 q9 r0 r1
  go_wp2_with fail
  refine (HF.out w2 HB2.out).mono ?_
  rintro en w3 ⟨rfl, hb3⟩
  have HB3 := Lib.hid (HB2.out.trans (hb3.mono HB2.out.size))
  clear hb3 p9' q9'
  go_wp2_with fail
  go_ret
  exact ⟨rfl, HB3.out⟩
end Go.Proofs.YtmpbjaodgajnfaaGreatDoor
namespace Go.Proofs.YtmpbjaodgajnfaaGreatDoor
open Go.RowKit
def EvSame {F : Nat → Prop} (w : World) (a b : Ev) (ls : List Ln) (fs : List Fd) : Prop := a.host = b.host ∧ a.file = b.file ∧ a.lo = b.lo ∧ a.hi = b.hi ∧ a.time = b.time ∧ a.weight = b.weight ∧ a.trace = b.trace ∧ a.stream = b.stream ∧
 RW F 3 LnR w ls a.lv ∧ RW F 3 LnR w ls b.lv ∧ RW F 2 FdR w fs a.fv ∧ RW F 2 FdR w fs b.fv
theorem EvSame.go {F F' : Nat → Prop} {w w' : World} {a b : Ev} {ls : List Ln} {fs : List Fd} (h : EvSame (F := F) w a b ls fs) (hs : Stay F F' w w') : EvSame (F := F') w' a b ls fs := by
 obtain ⟨h1, h2, h3, h4, h5, h6, h7, h8, h9, h10, h11, h12⟩ := h
 exact ⟨h1, h2, h3, h4, h5, h6, h7, h8, h9.go hs (fun _ _ h => h), h10.go hs (fun _ _ h => h), h11.go hs (fun _ _ h => h), h12.go hs (fun _ _ h => h)⟩
set_option maxHeartbeats 4000000 in
set_option maxRecDepth 1000000 in
theorem sameev_yes {F : Nat → Prop} (a b : Ev) (ls : List Ln) (fs : List Fd) (w : World) (h : EvSame (F := F) w a b ls fs) :
  Calls Tryz.prog 14 #[.agg (evC a), .agg (evC b)] w fun en w' => en = .returned (.bool true) ∧ Below w.heap.size w w' := by
 obtain ⟨x0, x1, x2, x3, lv, x5, x6, x7, x8, fv⟩ := a
 obtain ⟨y0, y1, y2, y3, lv', y5, y6, y7, y8, fv'⟩ := b
 obtain ⟨h1, h2, h3, h4, h5, h6, h7, h8, h9, h10, h11, h12⟩ := h
 simp only at h1 h2 h3 h4 h5 h6 h7 h8 h9 h10 h11 h12
 subst h1 h2 h3 h4 h5 h6 h7 h8
 obtain ⟨la, lc, hlv, _⟩ := id h9
 obtain ⟨la', lc', hlv', _⟩ := id h10
 obtain ⟨fa, fc, hfv, _⟩ := id h11
 obtain ⟨fa', fc', hfv', _⟩ := id h12
 obtain ⟨n, hn⟩ : ∃ n, ls.length = n := ⟨_, rfl⟩
 obtain ⟨m, hm⟩ : ∃ m, fs.length = m := ⟨_, rfl⟩
 rw [hn] at hlv hlv'
 rw [hm] at hfv hfv'
 subst hlv hlv' hfv hfv'
 have HS := Lib.hid (fun (W : World) (hb : Below w.heap.size w W) => same12_yes (F := fun _ => True) x0 x1 x2 x3 x5 x6 x7 x8 ls fs _ _ _ _ W (h9.go ⟨hb.size, fun k _ hk => ⟨trivial, hb.block k hk⟩⟩ (fun _ _ h => h)) (h10.go ⟨hb.size, fun k _ hk => ⟨trivial, hb.block k hk⟩⟩ (fun _ _ h => h)) (h11.go ⟨hb.size, fun k _ hk => ⟨trivial, hb.block k hk⟩⟩ (fun _ _ h => h)) (h12.go ⟨hb.size, fun k _ hk => ⟨trivial, hb.block k hk⟩⟩ (fun _ _ h => h)))
 clear h9 h10 h11 h12 hn hm
 unfold evC
 simp only
 obtain ⟨W, hW⟩ : ∃ W, (w.alloc (.cells #[.int .i64 x0, .int .i64 x1, .int .i64 x2, .int .i64 x3, .slice la n lc, .int .i64 x5, .int .i64 x6, .string ⟨x7.toArray⟩, .string ⟨x8.toArray⟩, .slice fa m fc] 44)).alloc (.cells #[.int .i64 x0, .int .i64 x1, .int .i64 x2, .int .i64 x3, .slice la' n lc', .int .i64 x5, .int .i64 x6, .string ⟨x7.toArray⟩, .string ⟨x8.toArray⟩, .slice fa' m fc'] 44) = W := ⟨_, rfl⟩
 have hb : Below w.heap.size w W := by rw [← hW]; exact ((Below.refl _ _).alloc (Nat.le_refl _) _).alloc (by rw [Deep.nblk_alloc]; omega) _
 have HSW := Lib.hid (HS.out W hb)
 have HB := Lib.hid hb
 have HWW := Lib.hid hW
 clear hb HS hW
 go_enter Tryz.func14, Tryz.ntmps14
 go_wp2_with fail
 rw [HWW.out]
 refine HSW.out.mono ?_
 rintro en w2 ⟨rfl, hb2⟩
 have HB2 := Lib.hid (HB.out.trans (hb2.mono HB.out.size))
 clear hb2
 go_wp2_with fail
 go_ret
 exact ⟨rfl, HB2.out⟩
set_option maxHeartbeats 8000000 in
set_option maxRecDepth 1000000 in
theorem sameevs_yes {F : Nat → Prop} (xs ys : List Ev) (ds : List (List Ln × List Fd)) (u v : Value) (w : World) (hx : RW F 10 EvR w xs u) (hy : RW F 10 EvR w ys v) (hn : xs.length = ds.length) (hm : ys.length = ds.length)
  (h : ∀ i (h1 : i < xs.length) (h2 : i < ys.length) (h3 : i < ds.length), EvSame (F := F) w xs[i] ys[i] ds[i].1 ds[i].2) :
  Calls Tryz.prog 13 #[u, v] w fun en w' => en = .returned (.bool true) ∧ Below w.heap.size w w' := by
 obtain ⟨a, c, rfl, hmx, hcx⟩ := hx
 obtain ⟨a', c', rfl, _, hcy⟩ := hy
 have hl := hmx.1
 obtain ⟨n, hnn⟩ : ∃ n, ds.length = n := ⟨_, rfl⟩
 have HX := Lib.hid hcx
 have HY := Lib.hid hcy
 have HNX := Lib.hid hn
 have HNY := Lib.hid hm
 have HH := Lib.hid h
 have HNN := Lib.hid hnn
 rw [hn, hnn] at hl ⊢
 rw [hm, hnn]
 clear hcx hcy hmx hn hm h hnn
 go_enter Tryz.func13, Tryz.ntmps13
 go_wp2_with fail
 go_loopw [5] (fun i wr => ∃ k : Nat, k ≤ n ∧ i = .int .i64 k ∧ Hid (Below w.heap.size w wr)) (fun i _ => n - (intOf i).toNat)
 case atStart => exact ⟨0, by omega, rfl, Lib.hid (Below.refl _ _)⟩
 case round =>
  obtain ⟨k, hk, rfl, HW⟩ := hrel
  by_cases hlt : k < n
  ·have k1 : k < xs.length := by rw [HNX.out, HNN.out]; exact hlt
   have k2 : k < ys.length := by rw [HNY.out, HNN.out]; exact hlt
   have k3 : k < ds.length := by rw [HNN.out]; exact hlt
   obtain ⟨g, o, ha, hg, _, hce⟩ := HX.out (by omega)
   obtain ⟨g', o', hb', hg', _, hce'⟩ := HY.out (by omega)
   subst ha hb'
   obtain ⟨us, hu, hcu, hru⟩ := hce k k1
   obtain ⟨us', hu', hcu', hru'⟩ := hce' k k2
   unfold EvR at hru hru'
   subst hru hru'
   have hs := (HH.out k k1 k2 k3).go (F' := fun _ => True) ⟨HW.out.size, fun b _ hb => ⟨trivial, HW.out.block b hb⟩⟩
   obtain ⟨p, hp⟩ : ∃ p, xs[k] = p := ⟨_, rfl⟩
   obtain ⟨q, hq⟩ : ∃ q, ys[k] = q := ⟨_, rfl⟩
   obtain ⟨⟨ls, fs⟩, hd⟩ : ∃ d, ds[k] = d := ⟨_, rfl⟩
   rw [hp, hq, hd] at hs
   rw [hp] at hcu
   rw [hq] at hcu'
   have HSE := Lib.hid (fun (W : World) (hb : Below wr.heap.size wr W) => sameev_yes p q ls fs W (hs.go (F' := fun _ => True) ⟨hb.size, fun b _ hl => ⟨trivial, hb.block b hl⟩⟩))
   have hlv := hs.2.2.2.2.2.2.2.2.1
   have hlv' := hs.2.2.2.2.2.2.2.2.2.1
   have hfv := hs.2.2.2.2.2.2.2.2.2.2.1
   have hfv' := hs.2.2.2.2.2.2.2.2.2.2.2
   obtain ⟨x0, x1, x2, x3, lv, x5, x6, x7, x8, fv⟩ := p
   obtain ⟨y0, y1, y2, y3, lv', y5, y6, y7, y8, fv'⟩ := q
   obtain ⟨la, lc, e1, _⟩ := hlv
   obtain ⟨la', lc', e2, _⟩ := hlv'
   obtain ⟨fa, fc, e3, _⟩ := hfv
   obtain ⟨fa', fc', e4, _⟩ := hfv'
   simp only at e1 e2 e3 e4
   subst e1 e2 e3 e4
   obtain ⟨nl, hnl⟩ : ∃ n, ls.length = n := ⟨_, rfl⟩
   obtain ⟨nf, hnf⟩ : ∃ n, fs.length = n := ⟨_, rfl⟩
   simp only [hnl, hnf] at hcu hcu' HSE
   have c0 := (HW.out.cell (p := ⟨g, o + k * 10 + 0, none⟩) hg).trans (hcu 0 (by decide))
   have c1 := (HW.out.cell (p := ⟨g, o + k * 10 + 1, none⟩) hg).trans (hcu 1 (by decide))
   have c2 := (HW.out.cell (p := ⟨g, o + k * 10 + 2, none⟩) hg).trans (hcu 2 (by decide))
   have c3 := (HW.out.cell (p := ⟨g, o + k * 10 + 3, none⟩) hg).trans (hcu 3 (by decide))
   have c4 := (HW.out.cell (p := ⟨g, o + k * 10 + 4, none⟩) hg).trans (hcu 4 (by decide))
   have c5 := (HW.out.cell (p := ⟨g, o + k * 10 + 5, none⟩) hg).trans (hcu 5 (by decide))
   have c6 := (HW.out.cell (p := ⟨g, o + k * 10 + 6, none⟩) hg).trans (hcu 6 (by decide))
   have c7 := (HW.out.cell (p := ⟨g, o + k * 10 + 7, none⟩) hg).trans (hcu 7 (by decide))
   have c8 := (HW.out.cell (p := ⟨g, o + k * 10 + 8, none⟩) hg).trans (hcu 8 (by decide))
   have c9 := (HW.out.cell (p := ⟨g, o + k * 10 + 9, none⟩) hg).trans (hcu 9 (by decide))
   have d0 := (HW.out.cell (p := ⟨g', o' + k * 10 + 0, none⟩) hg').trans (hcu' 0 (by decide))
   have d1 := (HW.out.cell (p := ⟨g', o' + k * 10 + 1, none⟩) hg').trans (hcu' 1 (by decide))
   have d2 := (HW.out.cell (p := ⟨g', o' + k * 10 + 2, none⟩) hg').trans (hcu' 2 (by decide))
   have d3 := (HW.out.cell (p := ⟨g', o' + k * 10 + 3, none⟩) hg').trans (hcu' 3 (by decide))
   have d4 := (HW.out.cell (p := ⟨g', o' + k * 10 + 4, none⟩) hg').trans (hcu' 4 (by decide))
   have d5 := (HW.out.cell (p := ⟨g', o' + k * 10 + 5, none⟩) hg').trans (hcu' 5 (by decide))
   have d6 := (HW.out.cell (p := ⟨g', o' + k * 10 + 6, none⟩) hg').trans (hcu' 6 (by decide))
   have d7 := (HW.out.cell (p := ⟨g', o' + k * 10 + 7, none⟩) hg').trans (hcu' 7 (by decide))
   have d8 := (HW.out.cell (p := ⟨g', o' + k * 10 + 8, none⟩) hg').trans (hcu' 8 (by decide))
   have d9 := (HW.out.cell (p := ⟨g', o' + k * 10 + 9, none⟩) hg').trans (hcu' 9 (by decide))
   simp only [evC, Nat.add_zero, List.getElem?_cons_zero, List.getElem?_cons_succ] at c0 c1 c2 c3 c4 c5 c6 c7 c8 c9 d0 d1 d2 d3 d4 d5 d6 d7 d8 d9
   have i1 : (k : Int) < (n : Int) := by omega
   have i2 : (0 : Int) ≤ (k : Int) := by omega
   clear hcu hcu' hs hp hq hd hnl hnf hce hce' k1 k2 k3 hu hu'
   go_wp2_with fail
   go_region_with (go_at_call 14; refine (HSE.out _ (by first | exact Below.refl _ _ | exact (Below.refl _ _).drew)).mono ?_; rintro en w2 ⟨rfl, hb2⟩)
   all_goals
    go_wp2_with fail
    go_roundw
    case rel => exact ⟨k + 1, by omega, by go_num, Lib.hid (by first | exact HW.out.trans (hb2.mono HW.out.size) | exact HW.out.drew.trans (hb2.mono HW.out.size))⟩
    case measure => simp [intOf]; omega
  ·go_wp2_with fail
   go_ret
   exact ⟨rfl, HW.out⟩
end Go.Proofs.YtmpbjaodgajnfaaGreatDoor

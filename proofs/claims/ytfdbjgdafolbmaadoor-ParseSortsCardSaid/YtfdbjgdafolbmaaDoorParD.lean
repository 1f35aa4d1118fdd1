/-
  pair of package parse, where it is right.
-/
import Derived.Test.YtfdbjgdafolbmaaDoorParC
import Derived.RegionTactic
import Derived.ChangeAlike
namespace Go.Proofs.YtfdbjgdafolbmaaDoor
open Go.RowKit

/-- Where the first of some bytes stands, in a string of ASCII or a long one. -/
theorem indexAny_at (l cs : List UInt8) (i : Nat) (w : World) (hi : Lib.indexAny l cs = (i : Int)) (hl : l.length ≤ 1000000) (hc : cs.length ≤ 1000000) (ha : ∀ (j : Nat) b, cs[j]? = some b → b.toNat < 128) (has : ∀ (j : Nat) b, l[j]? = some b → b.toNat < 128) :
    Calls Tryd.prog 41 #[.string ⟨l.toArray⟩, .string ⟨cs.toArray⟩] w fun e w' => e = .returned (.int .i64 (i : Int)) ∧ Below w.heap.size w w' := by
  have h := Tryd.strings_IndexAny_laid ⟨l.toArray⟩ ⟨cs.toArray⟩ w (by rw [ba_size]; omega) (by rw [ba_size]; omega) (by simpa using has) (by simpa using ha)
  rw [← hi]
  exact h

abbrev fieldV (n v : List UInt8) : Value := .agg #[.string ⟨n.toArray⟩, .string ⟨v.toArray⟩]

set_option maxRecDepth 100000 in
set_option maxHeartbeats 4000000 in
theorem pair_quoted (nm q v r : List UInt8) (w : World) (hl : nm.length + q.length ≤ 100000)
    (hi : ∀ w, Calls Tryd.prog 41 #[.string ⟨(nm ++ 61 :: 34 :: q).toArray⟩, .string ⟨#[61, 32]⟩] w fun e w' => e = .returned (.int .i64 (nm.length : Int)) ∧ Below w.heap.size w w')
    (hq : Asc.qd q [] = some (v, r)) (hr : r = [] ∨ r.head? = some 32) :
    Calls Tryd.prog 24 #[.string ⟨(nm ++ 61 :: 34 :: q).toArray⟩] w fun e w' => e = .returned (.tuple #[fieldV nm v, .string ⟨r.toArray⟩, .bool true]) ∧ Below w.heap.size w w' := by
  have HI := Lib.hid hi
  have HQ : Hid (∀ w, Calls Tryd.prog 43 #[.string ⟨(34 :: q).toArray⟩] w fun e w' => e = .returned (.tuple #[.string ⟨v.toArray⟩, .string ⟨r.toArray⟩, .bool true]) ∧ Below w.heap.size w w') := by
    show ∀ w, _
    intro w
    have h := quoted_any (34 :: q) w (by simp; omega) (by simp)
    rw [show (34 :: q).drop 1 = q from rfl, hq] at h
    exact h
  have HP := Lib.hid fun w => prefix_q (34 :: q) true (by simp) w
  have hlen : (nm ++ 61 :: 34 :: q).length = nm.length + q.length + 2 := by simp; omega
  have x1 : (ByteArray.mk (nm ++ 61 :: 34 :: q).toArray).extract 0 nm.length = ⟨nm.toArray⟩ := by rw [ext_take, List.take_left]
  have x2 : (ByteArray.mk (nm ++ 61 :: 34 :: q).toArray).extract (nm.length + 1) (nm.length + q.length + 2) = ⟨(34 :: q).toArray⟩ := by
    rw [← hlen, ext_drop, show nm ++ 61 :: 34 :: q = (nm ++ [61]) ++ 34 :: q by simp, List.drop_left' (by simp)]
  have hn0 : decide ((nm.length : Int) < 0) = false := by simp
  obtain ⟨c, ⟨_, hx⟩, hc, _⟩ := byte_at (nm ++ 61 :: 34 :: q) nm.length (by rw [hlen]; omega)
  have hc61 : c = 61 := by rw [← hc]; simp
  subst hc61
  clear hi hq hc
  generalize nm ++ 61 :: 34 :: q = s at *
  go_enter Tryd.func24, Tryd.ntmps24
  go_wp2_with (first | (go_at_call 41; refine (HI.out _).mono ?_; rintro e w1 ⟨rfl, hb1⟩; obtain ⟨hcb, hfb⟩ := bcell hb1) | (go_at_call 42; refine (HP.out _).mono ?_; rintro e w' ⟨rfl, rfl⟩))
  have z1 : w.heap.size < w1.heap.size := by have := hb1.size; simp at this; omega
  have k0 : w1.cell? ⟨w.heap.size, 0, none⟩ = some (.string ⟨#[]⟩) := by rw [hcb _ _ (by simp)]; simp [go_sem]
  have k1 : w1.cell? ⟨w.heap.size, 1, none⟩ = some (.string ⟨#[]⟩) := by rw [hcb _ _ (by simp)]; simp [go_sem]
  have f0 : ∀ i, w1.frozen? ⟨w.heap.size, i, none⟩ = false := fun i => by rw [hfb _ _ (by simp)]; simp [go_sem]
  have m0 : (w1.setCell ⟨w.heap.size, 0, none⟩ (.string ⟨nm.toArray⟩)).cell? ⟨w.heap.size, 0, none⟩ = some (.string ⟨nm.toArray⟩) := World.cell?_setCell_same _ _ _ k0
  have m1 : (w1.setCell ⟨w.heap.size, 0, none⟩ (.string ⟨nm.toArray⟩)).cell? ⟨w.heap.size, 1, none⟩ = some (.string ⟨#[]⟩) := by
    rw [World.cell?_setCell_other _ _ _ _ (by intro h; simp only [Addr.mk.injEq] at h; omega)]; exact k1
  have g0 : ∀ i, (w1.setCell ⟨w.heap.size, 0, none⟩ (.string ⟨nm.toArray⟩)).frozen? ⟨w.heap.size, i, none⟩ = false := fun i => by rw [World.frozen?_setCell]; exact f0 i
  have zz : w.heap.size < (w1.setCell ⟨w.heap.size, 0, none⟩ (.string ⟨nm.toArray⟩)).heap.size := by simpa using z1
  have hb4 : Below w.heap.size w (w1.setCell ⟨w.heap.size, 0, none⟩ (.string ⟨nm.toArray⟩)) := (((Below.refl _ w).alloc (Nat.le_refl _) _).trans (hb1.mono (by simp))).setCell (p := ⟨w.heap.size, 0, none⟩) (Nat.le_refl _) _
  refine (HQ.out _).mono ?_
  rintro e w2 ⟨rfl, hb2⟩
  have n0 : w2.cell? ⟨w.heap.size, 0, none⟩ = some (.string ⟨nm.toArray⟩) := (hb2.cell (p := ⟨w.heap.size, 0, none⟩) zz).trans m0
  have n1 : w2.cell? ⟨w.heap.size, 1, none⟩ = some (.string ⟨#[]⟩) := (hb2.cell (p := ⟨w.heap.size, 1, none⟩) zz).trans m1
  have g1 := (hb2.frozen (p := ⟨w.heap.size, 1, none⟩) zz).trans (g0 1)
  have g2 := (hb2.frozen (p := ⟨w.heap.size, 0, none⟩) zz).trans (g0 0)
  have hb5 : Below w.heap.size w w2 := hb4.trans (hb2.mono (by omega))
  clear hcb hfb k0 k1 f0 m0 m1 g0 zz hb4 hb2 hb1 z1 x1 x2 hx
  have o0 : (w2.setCell ⟨w.heap.size, 1, none⟩ (.string ⟨v.toArray⟩)).cell? ⟨w.heap.size, 1, none⟩ = some (.string ⟨v.toArray⟩) := World.cell?_setCell_same _ _ _ n1
  have o1 : (w2.setCell ⟨w.heap.size, 1, none⟩ (.string ⟨v.toArray⟩)).cell? ⟨w.heap.size, 0, none⟩ = some (.string ⟨nm.toArray⟩) := by
    rw [World.cell?_setCell_other _ _ _ _ (by intro h; simp only [Addr.mk.injEq] at h; omega)]; exact n0
  have o2 : (w2.setCell ⟨w.heap.size, 1, none⟩ (.string ⟨v.toArray⟩)).frozen? ⟨w.heap.size, 1, none⟩ = false := by rw [World.frozen?_setCell]; exact g1
  have o3 : (w2.setCell ⟨w.heap.size, 1, none⟩ (.string ⟨v.toArray⟩)).frozen? ⟨w.heap.size, 0, none⟩ = false := by rw [World.frozen?_setCell]; exact g2
  have hb6 : Below w.heap.size w (w2.setCell ⟨w.heap.size, 1, none⟩ (.string ⟨v.toArray⟩)) := hb5.setCell (p := ⟨w.heap.size, 1, none⟩) (Nat.le_refl _) _
  rcases hr with rfl | hr
  · go_wp2_with fail
    generalize w2.setCell ⟨w.heap.size, 1, none⟩ (.string ⟨v.toArray⟩) = w3 at *
    clear n0 n1 g1 g2 hb5
    go_region
    have p0 : (w3.setCell ⟨w.heap.size, 0, none⟩ (.string ⟨nm.toArray⟩)).cell? ⟨w.heap.size, 0, none⟩ = some (.string ⟨nm.toArray⟩) := World.cell?_setCell_same _ _ _ o1
    have p1 : (w3.setCell ⟨w.heap.size, 0, none⟩ (.string ⟨nm.toArray⟩)).cell? ⟨w.heap.size, 1, none⟩ = some (.string ⟨v.toArray⟩) := by
      rw [World.cell?_setCell_other _ _ _ _ (by intro h; simp only [Addr.mk.injEq] at h; omega)]; exact o0
    have p2 : ((w3.setCell ⟨w.heap.size, 0, none⟩ (.string ⟨nm.toArray⟩)).setCell ⟨w.heap.size, 1, none⟩ (.string ⟨v.toArray⟩)).cell? ⟨w.heap.size, 1, none⟩ = some (.string ⟨v.toArray⟩) := World.cell?_setCell_same _ _ _ p1
    have p3 : ((w3.setCell ⟨w.heap.size, 0, none⟩ (.string ⟨nm.toArray⟩)).setCell ⟨w.heap.size, 1, none⟩ (.string ⟨v.toArray⟩)).cell? ⟨w.heap.size, 0, none⟩ = some (.string ⟨nm.toArray⟩) := by
      rw [World.cell?_setCell_other _ _ _ _ (by intro h; simp only [Addr.mk.injEq] at h; omega)]; exact p0
    have hb7 : Below w.heap.size w ((w3.setCell ⟨w.heap.size, 0, none⟩ (.string ⟨nm.toArray⟩)).setCell ⟨w.heap.size, 1, none⟩ (.string ⟨v.toArray⟩)).drew := ((hb6.setCell (p := ⟨w.heap.size, 0, none⟩) (Nat.le_refl _) _).setCell (p := ⟨w.heap.size, 1, none⟩) (Nat.le_refl _) _).drew
    generalize (w3.setCell ⟨w.heap.size, 0, none⟩ (.string ⟨nm.toArray⟩)).setCell ⟨w.heap.size, 1, none⟩ (.string ⟨v.toArray⟩) = w4 at *
    clear p0 p1 o0 o1 o2 o3
    go_wp2_with fail
    exact bodyPost_ret (v := .tuple #[fieldV nm v, .string ⟨([] : List UInt8).toArray⟩, .bool true]) (by simp [results, Tryd.results24, go_sem, p2, p3]) rfl ⟨rfl, hb7⟩
  · obtain ⟨t, rfl⟩ : ∃ t, r = 32 :: t := by
      cases r with
      | nil => cases hr
      | cons d t => simp at hr; subst hr; exact ⟨t, rfl⟩
    have x0 : ∀ (h : 0 < (ByteArray.mk (32 :: t).toArray).size), ((ByteArray.mk (32 :: t).toArray)[0]'h).toNat = 32 := fun _ => rfl
    clear hr
    go_wp2_with fail
    generalize w2.setCell ⟨w.heap.size, 1, none⟩ (.string ⟨v.toArray⟩) = w3 at *
    clear n0 n1 g1 g2 hb5
    go_region
    have p0 : (w3.setCell ⟨w.heap.size, 0, none⟩ (.string ⟨nm.toArray⟩)).cell? ⟨w.heap.size, 0, none⟩ = some (.string ⟨nm.toArray⟩) := World.cell?_setCell_same _ _ _ o1
    have p1 : (w3.setCell ⟨w.heap.size, 0, none⟩ (.string ⟨nm.toArray⟩)).cell? ⟨w.heap.size, 1, none⟩ = some (.string ⟨v.toArray⟩) := by
      rw [World.cell?_setCell_other _ _ _ _ (by intro h; simp only [Addr.mk.injEq] at h; omega)]; exact o0
    have p2 : ((w3.setCell ⟨w.heap.size, 0, none⟩ (.string ⟨nm.toArray⟩)).setCell ⟨w.heap.size, 1, none⟩ (.string ⟨v.toArray⟩)).cell? ⟨w.heap.size, 1, none⟩ = some (.string ⟨v.toArray⟩) := World.cell?_setCell_same _ _ _ p1
    have p3 : ((w3.setCell ⟨w.heap.size, 0, none⟩ (.string ⟨nm.toArray⟩)).setCell ⟨w.heap.size, 1, none⟩ (.string ⟨v.toArray⟩)).cell? ⟨w.heap.size, 0, none⟩ = some (.string ⟨nm.toArray⟩) := by
      rw [World.cell?_setCell_other _ _ _ _ (by intro h; simp only [Addr.mk.injEq] at h; omega)]; exact p0
    have hb7 : Below w.heap.size w ((w3.setCell ⟨w.heap.size, 0, none⟩ (.string ⟨nm.toArray⟩)).setCell ⟨w.heap.size, 1, none⟩ (.string ⟨v.toArray⟩)).drew := ((hb6.setCell (p := ⟨w.heap.size, 0, none⟩) (Nat.le_refl _) _).setCell (p := ⟨w.heap.size, 1, none⟩) (Nat.le_refl _) _).drew
    generalize (w3.setCell ⟨w.heap.size, 0, none⟩ (.string ⟨nm.toArray⟩)).setCell ⟨w.heap.size, 1, none⟩ (.string ⟨v.toArray⟩) = w4 at *
    clear p0 p1 o0 o1 o2 o3
    go_wp2_with fail
    exact bodyPost_ret (v := .tuple #[fieldV nm v, .string ⟨(32 :: t).toArray⟩, .bool true]) (by simp [results, Tryd.results24, go_sem, p2, p3]) rfl ⟨rfl, hb7⟩

set_option maxRecDepth 100000 in
set_option maxHeartbeats 1000000 in
theorem pair_plain (nm v t : List UInt8) (w : World) (hl : nm.length + (v ++ 32 :: t).length ≤ 100000)
    (hi : ∀ w, Calls Tryd.prog 41 #[.string ⟨(nm ++ 61 :: (v ++ 32 :: t)).toArray⟩, .string ⟨#[61, 32]⟩] w fun e w' => e = .returned (.int .i64 (nm.length : Int)) ∧ Below w.heap.size w w')
    (hi2 : ∀ w, Calls Tryd.prog 41 #[.string ⟨(v ++ 32 :: t).toArray⟩, .string ⟨#[34, 32]⟩] w fun e w' => e = .returned (.int .i64 (v.length : Int)) ∧ Below w.heap.size w w')
    (hq : (v ++ 32 :: t).head? ≠ some 34) :
    Calls Tryd.prog 24 #[.string ⟨(nm ++ 61 :: (v ++ 32 :: t)).toArray⟩] w fun e w' => e = .returned (.tuple #[fieldV nm v, .string ⟨(32 :: t).toArray⟩, .bool true]) ∧ Below w.heap.size w w' := by
  have HI := Lib.hid hi
  have HJ := Lib.hid hi2
  have HP := Lib.hid fun w => prefix_q (v ++ 32 :: t) false (by simpa using hq) w
  have hlen : (nm ++ 61 :: (v ++ 32 :: t)).length = nm.length + (v ++ 32 :: t).length + 1 := by simp; omega
  have x1 : (ByteArray.mk (nm ++ 61 :: (v ++ 32 :: t)).toArray).extract 0 nm.length = ⟨nm.toArray⟩ := by rw [ext_take, List.take_left]
  have x2 : (ByteArray.mk (nm ++ 61 :: (v ++ 32 :: t)).toArray).extract (nm.length + 1) (nm.length + (v ++ 32 :: t).length + 1) = ⟨(v ++ 32 :: t).toArray⟩ := by
    rw [← hlen, ext_drop, show nm ++ 61 :: (v ++ 32 :: t) = (nm ++ [61]) ++ (v ++ 32 :: t) by simp, List.drop_left' (by simp)]
  have y1 : (ByteArray.mk (v ++ 32 :: t).toArray).extract 0 v.length = ⟨v.toArray⟩ := by rw [ext_take, List.take_left]
  have y2 : (ByteArray.mk (v ++ 32 :: t).toArray).extract v.length (v ++ 32 :: t).length = ⟨(32 :: t).toArray⟩ := by rw [ext_drop, List.drop_left]
  have hvl : v.length ≤ (v ++ 32 :: t).length := by simp
  have hn0 : decide ((nm.length : Int) < 0) = false := by simp
  obtain ⟨c, ⟨_, hx⟩, hc, _⟩ := byte_at (nm ++ 61 :: (v ++ 32 :: t)) nm.length (by rw [hlen]; omega)
  have hc61 : c = 61 := by rw [← hc]; simp
  subst hc61
  clear hi hi2 hq hc
  generalize nm ++ 61 :: (v ++ 32 :: t) = s at *
  generalize v ++ 32 :: t = u at *
  go_enter Tryd.func24, Tryd.ntmps24
  go_wp2_with (go_at_call 41; refine (HI.out _).mono ?_; rintro e w1 ⟨rfl, hb1⟩; obtain ⟨hcb, hfb⟩ := bcell hb1)
  refine (HP.out _).mono ?_
  rintro e w' ⟨rfl, rfl⟩
  go_wp2_with fail
  have z1 : w.heap.size < w1.heap.size := by have := hb1.size; simp at this; omega
  have k0 : w1.cell? ⟨w.heap.size, 0, none⟩ = some (.string ⟨#[]⟩) := by rw [hcb _ _ (by simp)]; simp [go_sem]
  have k1 : w1.cell? ⟨w.heap.size, 1, none⟩ = some (.string ⟨#[]⟩) := by rw [hcb _ _ (by simp)]; simp [go_sem]
  have f0 : ∀ i, w1.frozen? ⟨w.heap.size, i, none⟩ = false := fun i => by rw [hfb _ _ (by simp)]; simp [go_sem]
  have m0 : (w1.setCell ⟨w.heap.size, 0, none⟩ (.string ⟨nm.toArray⟩)).cell? ⟨w.heap.size, 0, none⟩ = some (.string ⟨nm.toArray⟩) := World.cell?_setCell_same _ _ _ k0
  have m1 : (w1.setCell ⟨w.heap.size, 0, none⟩ (.string ⟨nm.toArray⟩)).cell? ⟨w.heap.size, 1, none⟩ = some (.string ⟨#[]⟩) := by
    rw [World.cell?_setCell_other _ _ _ _ (by intro h; simp only [Addr.mk.injEq] at h; omega)]; exact k1
  have g0 : ∀ i, (w1.setCell ⟨w.heap.size, 0, none⟩ (.string ⟨nm.toArray⟩)).frozen? ⟨w.heap.size, i, none⟩ = false := fun i => by rw [World.frozen?_setCell]; exact f0 i
  have zz : w.heap.size < (w1.setCell ⟨w.heap.size, 0, none⟩ (.string ⟨nm.toArray⟩)).heap.size := by simpa using z1
  have hb4 : Below w.heap.size w (w1.setCell ⟨w.heap.size, 0, none⟩ (.string ⟨nm.toArray⟩)) := (((Below.refl _ w).alloc (Nat.le_refl _) _).trans (hb1.mono (by simp))).setCell (p := ⟨w.heap.size, 0, none⟩) (Nat.le_refl _) _
  refine (HJ.out _).mono ?_
  rintro e w2 ⟨rfl, hb2⟩
  have n0 : w2.cell? ⟨w.heap.size, 0, none⟩ = some (.string ⟨nm.toArray⟩) := (hb2.cell (p := ⟨w.heap.size, 0, none⟩) zz).trans m0
  have n1 : w2.cell? ⟨w.heap.size, 1, none⟩ = some (.string ⟨#[]⟩) := (hb2.cell (p := ⟨w.heap.size, 1, none⟩) zz).trans m1
  have g1 := (hb2.frozen (p := ⟨w.heap.size, 1, none⟩) zz).trans (g0 1)
  have g2 := (hb2.frozen (p := ⟨w.heap.size, 0, none⟩) zz).trans (g0 0)
  have hb5 : Below w.heap.size w w2 := hb4.trans (hb2.mono (by omega))
  clear hcb hfb k0 k1 f0 m0 m1 g0 zz hb4 hb2 hb1 z1 x1 x2 hx
  have hv0 : decide ((v.length : Int) < 0) = false := by simp
  go_wp2_with fail
  go_region
  have o0 : (w2.setCell ⟨w.heap.size, 1, none⟩ (.string ⟨v.toArray⟩)).cell? ⟨w.heap.size, 1, none⟩ = some (.string ⟨v.toArray⟩) := World.cell?_setCell_same _ _ _ n1
  have o1 : (w2.setCell ⟨w.heap.size, 1, none⟩ (.string ⟨v.toArray⟩)).cell? ⟨w.heap.size, 0, none⟩ = some (.string ⟨nm.toArray⟩) := by
    rw [World.cell?_setCell_other _ _ _ _ (by intro h; simp only [Addr.mk.injEq] at h; omega)]; exact n0
  have o2 : (w2.setCell ⟨w.heap.size, 1, none⟩ (.string ⟨v.toArray⟩)).frozen? ⟨w.heap.size, 1, none⟩ = false := by rw [World.frozen?_setCell]; exact g1
  have o3 : (w2.setCell ⟨w.heap.size, 1, none⟩ (.string ⟨v.toArray⟩)).frozen? ⟨w.heap.size, 0, none⟩ = false := by rw [World.frozen?_setCell]; exact g2
  have hb6 : Below w.heap.size w (w2.setCell ⟨w.heap.size, 1, none⟩ (.string ⟨v.toArray⟩)) := hb5.setCell (p := ⟨w.heap.size, 1, none⟩) (Nat.le_refl _) _
  generalize w2.setCell ⟨w.heap.size, 1, none⟩ (.string ⟨v.toArray⟩) = w3 at *
  clear n0 n1 g1 g2 hb5
  have x0 : ∀ (h : 0 < (ByteArray.mk (32 :: t).toArray).size), ((ByteArray.mk (32 :: t).toArray)[0]'h).toNat = 32 := fun _ => rfl
  go_wp2_with fail
  go_region
  have p0 : (w3.setCell ⟨w.heap.size, 0, none⟩ (.string ⟨nm.toArray⟩)).cell? ⟨w.heap.size, 0, none⟩ = some (.string ⟨nm.toArray⟩) := World.cell?_setCell_same _ _ _ o1
  have p1 : (w3.setCell ⟨w.heap.size, 0, none⟩ (.string ⟨nm.toArray⟩)).cell? ⟨w.heap.size, 1, none⟩ = some (.string ⟨v.toArray⟩) := by
    rw [World.cell?_setCell_other _ _ _ _ (by intro h; simp only [Addr.mk.injEq] at h; omega)]; exact o0
  have p2 : ((w3.setCell ⟨w.heap.size, 0, none⟩ (.string ⟨nm.toArray⟩)).setCell ⟨w.heap.size, 1, none⟩ (.string ⟨v.toArray⟩)).cell? ⟨w.heap.size, 1, none⟩ = some (.string ⟨v.toArray⟩) := World.cell?_setCell_same _ _ _ p1
  have p3 : ((w3.setCell ⟨w.heap.size, 0, none⟩ (.string ⟨nm.toArray⟩)).setCell ⟨w.heap.size, 1, none⟩ (.string ⟨v.toArray⟩)).cell? ⟨w.heap.size, 0, none⟩ = some (.string ⟨nm.toArray⟩) := by
    rw [World.cell?_setCell_other _ _ _ _ (by intro h; simp only [Addr.mk.injEq] at h; omega)]; exact p0
  have hb7 : Below w.heap.size w ((w3.setCell ⟨w.heap.size, 0, none⟩ (.string ⟨nm.toArray⟩)).setCell ⟨w.heap.size, 1, none⟩ (.string ⟨v.toArray⟩)).drew.drew := ((hb6.setCell (p := ⟨w.heap.size, 0, none⟩) (Nat.le_refl _) _).setCell (p := ⟨w.heap.size, 1, none⟩) (Nat.le_refl _) _).drew.drew
  generalize (w3.setCell ⟨w.heap.size, 0, none⟩ (.string ⟨nm.toArray⟩)).setCell ⟨w.heap.size, 1, none⟩ (.string ⟨v.toArray⟩) = w4 at *
  clear p0 p1 o0 o1 o2 o3
  go_wp2_with fail
  exact bodyPost_ret (v := .tuple #[fieldV nm v, .string ⟨(32 :: t).toArray⟩, .bool true]) (by simp [results, Tryd.results24, go_sem, p2, p3]) rfl ⟨rfl, hb7⟩

end Go.Proofs.YtfdbjgdafolbmaaDoor

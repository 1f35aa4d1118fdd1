/-
  The generator's leaves.
-/
import Derived.Test.YtphbkompnddflaaGreatDoorPatO
namespace Go.Proofs.YtphbkompnddflaaGreatDoor
open Go.RowKit

def leafN : List Nat := [97, 98, 32, 49, 120, 46, 45, 61]
def leafO : Obj := .cells #[.int .i64 97, .int .i64 98, .int .i64 32, .int .i64 49, .int .i64 120, .int .i64 46, .int .i64 45, .int .i64 61] 3
theorem leaf_at (k : Nat) (hk : k < 8) : ∃ x : Nat, x < 256 ∧ (∀ W : World, (W.alloc leafO).cell? ⟨W.heap.size, k, none⟩ = some (.int .i64 (x : Int))) := by
  match k, hk with
  | 0, _ => exact ⟨97, by decide, fun W => by simp [go_sem, leafO]⟩
  | 1, _ => exact ⟨98, by decide, fun W => by simp [go_sem, leafO]⟩
  | 2, _ => exact ⟨32, by decide, fun W => by simp [go_sem, leafO]⟩
  | 3, _ => exact ⟨49, by decide, fun W => by simp [go_sem, leafO]⟩
  | 4, _ => exact ⟨120, by decide, fun W => by simp [go_sem, leafO]⟩
  | 5, _ => exact ⟨46, by decide, fun W => by simp [go_sem, leafO]⟩
  | 6, _ => exact ⟨45, by decide, fun W => by simp [go_sem, leafO]⟩
  | 7, _ => exact ⟨61, by decide, fun W => by simp [go_sem, leafO]⟩

set_option maxRecDepth 100000 in
set_option maxHeartbeats 8000000 in
theorem leaf_any (g : Nat) (w : World) (hc : CodesAt w g) : Calls Tryz.prog 19 #[.pointer (some ⟨g, 0, none⟩)] w (NP g w) := by
  have HS0 := Lib.hid (NS.start hc)
  clear hc
  go_enter Tryz.func19, Tryz.ntmps19
  go_wp2_with fail
  refine (next_any g 10 _ HS0.out.gd.codes (by omega) (by omega)).mono ?_
  rintro e w1 ⟨q, hq, rfl, hca, hap⟩
  have HS := Lib.hid (HS0.out.go hap hca)
  clear hca hap HS0
  obtain ⟨k0, k1, k2, k3, k4, k5, f0, f1, f2, f3, f4, f5⟩ := bk6 HS.out.bk
  have hlt := HS.out.lt
  rcases (show q = 0 ∨ q = 1 ∨ q = 2 ∨ q = 3 ∨ q = 4 ∨ q = 5 ∨ 6 ≤ q by omega) with rfl | rfl | rfl | rfl | rfl | rfl | hq6
  · go_wp2_with fail
    rw [nest6 w1]
    exact node_ret (P := 2) rfl HS.out _ _ rfl (by rfl) (NG.node (rs := []) RW.nil RW.nil 0 [] 0 0 (by simp)) (Sm.node (by simp) (by simp) (by simp))
  · go_wp2_with fail
    rw [nest6 w1]
    exact node_ret (P := 2) rfl HS.out _ _ rfl (by rfl) (NG.node (rs := []) RW.nil RW.nil 6 [] 0 0 (by simp)) (Sm.node (by simp) (by simp) (by simp))
  · go_wp2_with fail
    rw [nest6 w1]
    exact node_ret (P := 2) rfl HS.out _ _ rfl (by rfl) (NG.node (rs := []) RW.nil RW.nil 7 [] 0 0 (by simp)) (Sm.node (by simp) (by simp) (by simp))
  · have HSA := Lib.hid (HS.out.al (.cells #[.int .u8 48, .int .u8 57] 56))
    have HR := Lib.hid (rg_lit (fun k => w.heap.size < k) w1 [((48 : UInt8), (57 : UInt8))] #[.int .u8 48, .int .u8 57] (by simp) hlt (fun i hi => by
      match i, hi with
      | 0, _ => exact ⟨rfl, rfl⟩) 56)
    have hne : w.heap.size ≠ w1.heap.size := Nat.ne_of_lt hlt
    go_wp2_with fail
    rw [nest6 w1, setL_alloc _ _ _ _ hlt]
    exact node_ret (P := 2) rfl HSA.out _ _ rfl (by rfl) (NG.node HR.out RW.nil 1 [] 0 0 (by simp)) (Sm.node (by simp) (by simp) (by simp))
  · have HSA := Lib.hid (HS.out.al (.cells #[.int .u8 0, .int .u8 9, .int .u8 11, .int .u8 255] 56))
    have HR := Lib.hid (rg_lit (fun k => w.heap.size < k) w1 [((0 : UInt8), (9 : UInt8)), ((11 : UInt8), (255 : UInt8))] #[.int .u8 0, .int .u8 9, .int .u8 11, .int .u8 255] (by simp) hlt (fun i hi => by
      match i, hi with
      | 0, _ => exact ⟨rfl, rfl⟩
      | 1, _ => exact ⟨rfl, rfl⟩) 56)
    have hne : w.heap.size ≠ w1.heap.size := Nat.ne_of_lt hlt
    go_wp2_with fail
    rw [nest6 w1, setL_alloc _ _ _ _ hlt]
    exact node_ret (P := 2) rfl HSA.out _ _ rfl (by rfl) (NG.node HR.out RW.nil 1 [] 0 0 (by simp)) (Sm.node (by simp) (by simp) (by simp))
  · have HSA := Lib.hid (HS.out.al (.cells #[.int .u8 97, .int .u8 99, .int .u8 120, .int .u8 122] 56))
    have HR := Lib.hid (rg_lit (fun k => w.heap.size < k) w1 [((97 : UInt8), (99 : UInt8)), ((120 : UInt8), (122 : UInt8))] #[.int .u8 97, .int .u8 99, .int .u8 120, .int .u8 122] (by simp) hlt (fun i hi => by
      match i, hi with
      | 0, _ => exact ⟨rfl, rfl⟩
      | 1, _ => exact ⟨rfl, rfl⟩) 56)
    have hne : w.heap.size ≠ w1.heap.size := Nat.ne_of_lt hlt
    go_wp2_with fail
    rw [nest6 w1, setL_alloc _ _ _ _ hlt]
    exact node_ret (P := 2) rfl HSA.out _ _ rfl (by rfl) (NG.node HR.out RW.nil 1 [] 0 0 (by simp)) (Sm.node (by simp) (by simp) (by simp))
  · have z0 : ((q : Int) == 0) = false := by rw [beq_eq_false_iff_ne]; omega
    have z1 : ((q : Int) == 1) = false := by rw [beq_eq_false_iff_ne]; omega
    have z2 : ((q : Int) == 2) = false := by rw [beq_eq_false_iff_ne]; omega
    have z3 : ((q : Int) == 3) = false := by rw [beq_eq_false_iff_ne]; omega
    have z4 : ((q : Int) == 4) = false := by rw [beq_eq_false_iff_ne]; omega
    have z5 : ((q : Int) == 5) = false := by rw [beq_eq_false_iff_ne]; omega
    have HSA := Lib.hid (HS.out.al leafO)
    go_wp2_with fail
    refine (next_any g 8 _ HSA.out.gd.codes (by omega) (by omega)).mono ?_
    rintro e w2 ⟨k, hk, rfl, hca, hap⟩
    obtain ⟨x, hx, hcell⟩ := leaf_at k hk
    have hgl : g < w1.heap.size := HS.out.gd.codes.1
    have hc2 : w2.cell? ⟨w1.heap.size, k, none⟩ = some (.int .i64 (x : Int)) := (hap.cell (p := ⟨w1.heap.size, k, none⟩) (by show w1.heap.size ≠ g; omega) (by simp)).trans (hcell w1)
    have HS2 := Lib.hid (HSA.out.go hap hca)
    have i1 : (k : Int) < 8 := by omega
    have i2 : (0 : Int) ≤ (k : Int) := by omega
    clear hca hap hcell k0 k1 k2 k3 k4 k5 f0 f1 f2 f3 f4 f5 HS HSA
    obtain ⟨k0, k1, k2, k3, k4, k5, f0, f1, f2, f3, f4, f5⟩ := bk6 HS2.out.bk
    have hlt2 := HS2.out.lt
    have HSB := Lib.hid (HS2.out.al (.cells #[.int .u8 (x : Int), .int .u8 (x : Int)] 56))
    have HR := Lib.hid (rg_lit (fun k => w.heap.size < k) w2 [(UInt8.ofNat x, UInt8.ofNat x)] #[.int .u8 (x : Int), .int .u8 (x : Int)] (by simp) hlt2 (fun i hi => by
      match i, hi with
      | 0, _ => simp [Asc.ofNat_toNat8 hx]) 56)
    have hne : w.heap.size ≠ w2.heap.size := Nat.ne_of_lt hlt2
    have x1 : (x : Int) < 256 := by omega
    have x2 : (0 : Int) ≤ (x : Int) := by omega
    go_wp2_with fail
    rw [nest6 w2, setL_alloc _ _ _ _ hlt2]
    exact node_ret (P := 2) rfl HSB.out _ _ rfl (by rfl) (NG.node HR.out RW.nil 1 [] 0 0 (by simp)) (Sm.node (by simp) (by simp) (by simp))

end Go.Proofs.YtphbkompnddflaaGreatDoor

/-
  The list of choices hands out texts and fields.
-/
import Derived.Test.YtmcnhphmglmmeabDoorExtF
import Derived.Deep.RegionHeld3
namespace Go.Proofs.YtmcnhphmglmmeabDoor
open Go.RowKit

theorem sumL (a b : List UInt8) (h : a.length + b.length ≤ 100000) : ∃ c : List UInt8, (∀ w, (Op.stringOp .add ⟨a.toArray⟩ ⟨b.toArray⟩).run Tryd.prog w = .ok (.string ⟨c.toArray⟩) w) ∧ Hid (c = a ++ b) ∧ c.length ≤ a.length + b.length := by
  refine ⟨a ++ b, fun w => ?_, rfl, by rw [List.length_append]; exact Nat.le_refl _⟩
  exact run_string_add_lists w a b (by omega) (by omega)
structure TX (w : World) (g n : Nat) (x : List UInt8) (W : World) : Prop where
  len : x.length ≤ n
  codes : CodesAt W g
  apart : Apart g w W
def sepF : List (List UInt8) := [[32], [32], [44, 32], [61], []]
def sepO : Obj := .cells #[.string ⟨#[32]⟩, .string ⟨#[32]⟩, .string ⟨#[44, 32]⟩, .string ⟨#[61]⟩, .string ⟨#[]⟩] 9
theorem sep_at (k : Nat) (hk : k < 5) : ∃ x : List UInt8, x.length ≤ 2 ∧ (∀ W : World, (W.alloc sepO).cell? ⟨W.heap.size, k, none⟩ = some (.string ⟨x.toArray⟩)) ∧ (∀ h : k < ([Value.string ⟨#[32]⟩, .string ⟨#[32]⟩, .string ⟨#[44, 32]⟩, .string ⟨#[61]⟩, .string ⟨#[]⟩] : List Value).length, ([Value.string ⟨#[32]⟩, .string ⟨#[32]⟩, .string ⟨#[44, 32]⟩, .string ⟨#[61]⟩, .string ⟨#[]⟩] : List Value)[k]'h = .string ⟨x.toArray⟩) := by
  match k, hk with
  | 0, _ => exact ⟨[32], by decide, fun W => by simp [go_sem, sepO], fun _ => rfl⟩
  | 1, _ => exact ⟨[32], by decide, fun W => by simp [go_sem, sepO], fun _ => rfl⟩
  | 2, _ => exact ⟨[44, 32], by decide, fun W => by simp [go_sem, sepO], fun _ => rfl⟩
  | 3, _ => exact ⟨[61], by decide, fun W => by simp [go_sem, sepO], fun _ => rfl⟩
  | 4, _ => exact ⟨[], by decide, fun W => by simp [go_sem, sepO], fun _ => rfl⟩
theorem CodesAt.al {W : World} {g : Nat} (h : CodesAt W g) (o : Obj) : CodesAt (W.alloc o) g := h.below ((Below.refl _ _).alloc (Nat.le_refl _) o)
theorem CodesAt.dr {W : World} {g : Nat} (h : CodesAt W g) : CodesAt W.drew g := h.below (Below.refl _ _).drew
theorem Apart.al {W0 W : World} {g : Nat} (h : Apart g W0 W) (hg : g < W0.heap.size) (o : Obj) : Apart g W0 (W.alloc o) := h.trans (Apart.of_below ((Below.refl _ _).alloc (Nat.le_refl _) o) (Nat.lt_of_lt_of_le hg h.1.size))
set_option maxRecDepth 100000 in
set_option maxHeartbeats 2000000 in
theorem text_any (g : Nat) (w : World) (hc : CodesAt w g) : Calls Tryd.prog 16 #[.pointer (some ⟨g, 0, none⟩)] w (StrP 60 g w) := by
  have HW := Lib.hid (dword_any g w hc)
  have HGW := Lib.hid hc.1
  clear hc
  go_enter Tryd.func16, Tryd.ntmps16
  go_wp2_with (go_at_call 27; refine HW.out.mono ?_)
  rintro e w1 ⟨x, hx, rfl, hca, hap⟩
  have HC := Lib.hid hca
  have HA := Lib.hid hap
  clear hca hap HW
  go_wp2_with fail
  refine (next_any g 4 w1 HC.out (by omega) (by omega)).mono ?_
  rintro e w2 ⟨n, hn, rfl, hca, hap⟩
  have HT := Lib.hid (show TX w g 60 x w2 from ⟨by omega, hca, HA.out.trans hap⟩)
  clear hca hap HC HA
  go_wp2_with fail
  go_loopw [3, 4] (fun s i wr => ∃ (x : List UInt8) (j : Nat), i = .int .i64 j ∧ s = .string ⟨x.toArray⟩ ∧ x.length + 12 * j ≤ 50 ∧ TX w g 60 x wr) (fun _ i _ => (intOf i).toNat)
  case atStart => exact ⟨x, n, rfl, rfl, by omega, HT.out⟩
  case round =>
    obtain ⟨x, j, rfl, rfl, hxl, hT⟩ := hrel
    have HTX := Lib.hid hT
    clear hT HT
    cases j with
    | zero =>
      go_wp2_with fail
      go_ret
      exact ⟨x, HTX.out.len, rfl, HTX.out.codes, HTX.out.apart⟩
    | succ j =>
      have hj0 : (0 : Int) < (j : Int) + 1 := by omega
      have HC0 := Lib.hid (CodesAt.dr HTX.out.codes)
      have HG := Lib.hid HTX.out.codes.1
      have HA0 := Lib.hid (HTX.out.apart.trans (Apart.of_below (Below.refl _ wr).drew HG.out))
      go_wp2_with fail
      go_region_with (first
        | (go_at_call 15; refine (next_any g 5 _ (by first | exact HC0.out | exact HC0.out.al _) (by omega) (by omega)).mono ?_; rintro e w3 ⟨k, hk, rfl, hca, hap⟩; have HCA := Lib.hid hca; have HAP := Lib.hid hap; have i1 : (k : Int) < 5 := (by omega); have i2 : (0 : Int) ≤ (k : Int) := (by omega); obtain ⟨y, hyl, hyw, hyq⟩ := sep_at k hk; have HYW := Lib.hid hyw; (try (have hcell : w3.cell? ⟨wr.heap.size, k, none⟩ = some (.string ⟨y.toArray⟩) := (HAP.out.cell (p := ⟨wr.heap.size, k, none⟩) (Nat.ne_of_gt HG.out) (by simp)).trans (HYW.out wr.drew))); clear hca hap hyw)
        | (go_at_call 27; refine (dword_any g _ (by first | exact HCA.out | exact HCA.out.al _)).mono ?_; rintro e w4 ⟨z, hz, rfl, hca, hap⟩; obtain ⟨A1, r1, e1, l1⟩ := sumL y z (by omega); obtain ⟨A2, r2, e2, l2⟩ := sumL x A1 (by omega); have HCA4 := Lib.hid hca; have HAP4 := Lib.hid hap; (try (have hcell4 : w4.cell? ⟨wr.heap.size, k, none⟩ = some (.string ⟨y.toArray⟩) := (HAP4.out.cell (p := ⟨wr.heap.size, k, none⟩) (Nat.ne_of_gt HG.out) (World.block_lt_of_cell? _ _ hcell)).trans hcell)); (try (have hcell4 : w4.cell? ⟨w3.heap.size, k, none⟩ = some (.string ⟨y.toArray⟩) := (HAP4.out.cell (p := ⟨w3.heap.size, k, none⟩) (Nat.ne_of_gt HCA.out.1) (by simp)).trans (HYW.out w3))); clear hca hap))
      all_goals (go_wp2_with fail)
      all_goals
        refine ⟨⟨A2, j, by go_num, rfl, by omega, ⟨by omega, ?_, ?_⟩⟩, by simp [intOf]⟩
        · first | exact HCA4.out | exact HCA4.out.al _
        · first
            | exact ((HA0.out.al HGW.out _).trans HAP.out).trans HAP4.out
            | exact ((HA0.out.trans HAP.out).al HGW.out _).trans HAP4.out
            | exact ((HA0.out.trans HAP.out).trans HAP4.out).al HGW.out _

end Go.Proofs.YtmcnhphmglmmeabDoor

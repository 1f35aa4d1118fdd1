/-
  The list of choices hands out a test.
-/
import Derived.Test.YtmcnhphmglmmeaaQryU
import Derived.Deep.DrawnRows
import Derived.Test.YtmcnhphmglmmeaaFacts
namespace Go.Proofs.Ytmcnhphmglmmeaa
open Go.RowKit

attribute [local go_sem ↓] Go.wp_at_zero Go.wp_at_succ

def R4I (g : Nat) (w W : World) : Prop := GD g w W ∧ ∃ E, BK w.heap.size 5 E W
def R4R (w W W' : World) : Prop := W.heap.size ≤ W'.heap.size ∧ (∀ k, w.heap.size < k → k < W.heap.size → W'.heap[k]? = W.heap[k]?) ∧ ((∃ y z : List UInt8, BK w.heap.size 5 (leafE 4 y z 0) W) → ∃ y z : List UInt8, BK w.heap.size 5 (leafE 4 y z 0) W')
def Blk (w W : World) (b : Nat) (o : Obj) : Prop := w.heap.size < b ∧ b < W.heap.size ∧ W.heap[b]? = some o
def R4G (g : Nat) (w : World) (i : Nat) (v : Value) (W : World) : Prop :=
  match i with
  | 0 => ∃ b, v = .slice (some ⟨b, 0, none⟩) 4 4 ∧ Blk w W b hostO
  | 1 => v = .pointer (some ⟨g, 0, none⟩)
  | 2 => ∃ k : Nat, k < 4 ∧ v = .int .i64 k
  | 3 => ∃ b k, k < 4 ∧ v = .pointer (some ⟨b, k, none⟩) ∧ Blk w W b hostO
  | 4 => ∃ y : List UInt8, v = .string ⟨y.toArray⟩
  | 5 => ∃ b, v = .slice (some ⟨b, 0, none⟩) 4 4 ∧ Blk w W b fourO
  | 6 => v = .pointer (some ⟨g, 0, none⟩)
  | 7 => ∃ k : Nat, k < 4 ∧ v = .int .i64 k
  | 8 => ∃ b k, k < 4 ∧ v = .pointer (some ⟨b, k, none⟩) ∧ Blk w W b fourO
  | 9 => ∃ y : List UInt8, v = .string ⟨y.toArray⟩
  | 10 => ∃ y z : List UInt8, v = .agg #[.int .i64 4, .string ⟨y.toArray⟩, .string ⟨z.toArray⟩, .int .i64 0, .slice none 0 0]
  | 11 => ∃ y z : List UInt8, BK w.heap.size 5 (leafE 4 y z 0) W
  | _ => True
theorem Blk.go {w W W' : World} {b : Nat} {o : Obj} (h : Blk w W b o) (hR : R4R w W W') : Blk w W' b o := ⟨h.1, Nat.lt_of_lt_of_le h.2.1 hR.1, (hR.2.1 b h.1 h.2.1).trans h.2.2⟩
theorem R4R_G (g : Nat) (w : World) : ∀ k v W W', R4R w W W' → R4G g w k v W → R4G g w k v W' := by
  intro k v W W' hR h
  unfold R4G at *
  split at h
  · obtain ⟨b, h1, h2⟩ := h
    exact ⟨b, h1, h2.go hR⟩
  · exact h
  · exact h
  · obtain ⟨b, k, h1, h2, h3⟩ := h
    exact ⟨b, k, h1, h2, h3.go hR⟩
  · exact h
  · obtain ⟨b, h1, h2⟩ := h
    exact ⟨b, h1, h2.go hR⟩
  · exact h
  · exact h
  · obtain ⟨b, k, h1, h2, h3⟩ := h
    exact ⟨b, k, h1, h2, h3.go hR⟩
  · exact h
  · exact h
  · exact hR.2.2 h
  · trivial

theorem R4R.refl (w W : World) : R4R w W W := ⟨Nat.le_refl _, fun _ _ _ => rfl, id⟩
theorem R4R.al (w W : World) (o : Obj) : R4R w W (W.alloc o) := ⟨by simp, fun k _ h => ((Below.refl _ W).alloc (Nat.le_refl _) o).block k h, fun ⟨y, z, h⟩ => ⟨y, z, h.al o⟩⟩
theorem R4R.ap {g : Nat} {w W W' : World} (h : Apart g W W') (hg : g < w.heap.size) : R4R w W W' := ⟨h.1.size, fun k h1 h2 => h.block (by omega) h2, fun ⟨y, z, hb⟩ => ⟨y, z, hb.go h (by omega)⟩⟩
theorem R4I.al {g : Nat} {w W : World} (h : R4I g w W) (o : Obj) : R4I g w (W.alloc o) := ⟨h.1.al o, h.2.choose, h.2.choose_spec.al o⟩
theorem R4I.ap {g : Nat} {w W W' : World} (h : R4I g w W) (ha : Apart g W W') (hc : CodesAt W' g) : R4I g w W' := ⟨h.1.go ha hc, h.2.choose, h.2.choose_spec.go ha (by have := h.1.hg; omega)⟩
theorem R4I.lt {g : Nat} {w W : World} (h : R4I g w W) : w.heap.size < W.heap.size := h.2.choose_spec.lt
theorem Blk.new {w W : World} (h : w.heap.size < W.heap.size) (o : Obj) : Blk w (W.alloc o) W.heap.size o := ⟨h, by simp, heap_alloc_new W o⟩
theorem host_blk {k : Nat} (hk : k < 4) {W : World} {b : Nat} (h : W.heap[b]? = some hostO) : ∃ y : List UInt8, W.cell? ⟨b, k, none⟩ = some (.string ⟨y.toArray⟩) := by
  unfold hostO at h
  rw [Lib.cell_of_heap h]
  match k, hk with
  | 0, _ => exact ⟨_, rfl⟩
  | 1, _ => exact ⟨_, rfl⟩
  | 2, _ => exact ⟨_, rfl⟩
  | 3, _ => exact ⟨_, rfl⟩
theorem four_blk {k : Nat} (hk : k < 4) {W : World} {b : Nat} (h : W.heap[b]? = some fourO) : ∃ y : List UInt8, W.cell? ⟨b, k, none⟩ = some (.string ⟨y.toArray⟩) := by
  unfold fourO at h
  rw [Lib.cell_of_heap h]
  match k, hk with
  | 0, _ => exact ⟨_, rfl⟩
  | 1, _ => exact ⟨_, rfl⟩
  | 2, _ => exact ⟨_, rfl⟩
  | 3, _ => exact ⟨_, rfl⟩
theorem bk_set5 {b : Nat} {E : Nat → Value} {W : World} (h : BK b 5 E W) (op : Int) (nm tx : List UInt8) (num : Int) :
    BK b 5 (leafE op nm tx num) (setL W b [.int .i64 op, .string ⟨nm.toArray⟩, .string ⟨tx.toArray⟩, .int .i64 num, .slice none 0 0] 0) :=
  (((((h.set 0 (by omega) (.int .i64 op)).set 1 (by omega) (.string ⟨nm.toArray⟩)).set 2 (by omega) (.string ⟨tx.toArray⟩)).set 3 (by omega) (.int .i64 num)).set 4 (by omega) (.slice none 0 0)).cong fun i hi => by
    match i, hi with
    | 0, _ => rfl
    | 1, _ => rfl
    | 2, _ => rfl
    | 3, _ => rfl
    | 4, _ => rfl
theorem test_ret2 {w W : World} {g : Nat} {op : Int} {nm tx : List UInt8} {num : Int} (hG : GD g w W) (hB : BK w.heap.size 5 (leafE op nm tx num) W) (a : Act) (hdf : a.defers = []) (hp : a.tmps.getD 4 undef = .pointer (some ⟨w.heap.size, 0, none⟩)) :
    bodyPost Try.prog Try.f14 (TP g w) Exit.ret a W := by
  have hc : ∀ j v, [Value.int .i64 op, .string ⟨nm.toArray⟩, .string ⟨tx.toArray⟩, .int .i64 num, .slice none 0 0][j]? = some v → W.cell? ⟨w.heap.size, j, none⟩ = some v := fun j v hv => by
    have hj : j < 5 := (List.getElem?_eq_some_iff.1 hv).1
    rw [hB.ev j hj]
    match j, hj with
    | 0, _ => exact hv
    | 1, _ => exact hv
    | 2, _ => exact hv
    | 3, _ => exact hv
    | 4, _ => exact hv
  obtain ⟨tmps, df⟩ := a
  exact bodyPost_ret (results_item (ty := 24) rfl tmps _ w.heap.size [.int .i64 op, .string ⟨nm.toArray⟩, .string ⟨tx.toArray⟩, .int .i64 num, .slice none 0 0] _ hp hc Try.underlying24 rfl (by kernel_rfl)) hdf ⟨_, .node op nm tx num [], rfl, TG.leaf _ _ op nm tx num, hG, by simp [kidsLen, sliceLen]⟩

set_option maxRecDepth 100000 in
set_option maxHeartbeats 40000000 in
theorem dtest_aux (depth : Nat) (hd : depth ≤ 2) (IH : ∀ d, d + 1 = depth → ∀ (g : Nat) (w : World), CodesAt w g → Calls Try.prog 14 #[.pointer (some ⟨g, 0, none⟩), .int .i64 d] w (TP g w))
    (g : Nat) (w : World) (hc : CodesAt w g) : Calls Try.prog 14 #[.pointer (some ⟨g, 0, none⟩), .int .i64 depth] w (TP g w) := by
  have HS0 := Lib.hid (TS.start hc)
  have HIH := Lib.hid IH
  clear hc IH
  go_enter Try.func14, Try.ntmps14
  go_wp2_with fail
  refine (next_any g 15 _ HS0.out.gd.codes (by omega) (by omega)).mono ?_
  rintro e w1 ⟨q, hq, rfl, hca, hap⟩
  have HS1 := Lib.hid (HS0.out.go hap hca)
  clear hca hap HS0
  go_upto_if 12 with fail
  go_cut [5] (fun k wx => ∃ q : Nat, k = .int .i64 q ∧ q < 15 ∧ (depth = 0 → q < 10) ∧ TS g w wx)
  case first =>
    by_cases hz : depth = 0
    · subst hz
      go_wp2_with fail
      refine (next_any g 10 _ HS1.out.gd.codes (by omega) (by omega)).mono ?_
      rintro e w2 ⟨q2, hq2, rfl, hca, hap⟩
      have HS2 := Lib.hid (HS1.out.go hap hca)
      clear hca hap HS1
      go_wp2_with fail
      go_meet
      exact ⟨q2, rfl, by omega, fun _ => hq2, HS2.out⟩
    · have z0 : ((depth : Int) == 0) = false := by rw [beq_eq_false_iff_ne]; omega
      go_wp2_with fail
      go_meet
      exact ⟨q, rfl, hq, fun h => absurd h hz, HS1.out⟩
  case rest =>
    obtain ⟨p, rfl, hp, hpd, hS⟩ := hcut
    have HS := Lib.hid hS
    clear hS HS1 hq
    rcases (show p = 0 ∨ p = 1 ∨ p = 2 ∨ p = 3 ∨ (p = 4 ∨ p = 5) ∨ p = 6 ∨ (p = 7 ∨ p = 8) ∨ p = 9 ∨ p = 10 ∨ 11 ≤ p by omega) with rfl | rfl | rfl | rfl | hp4 | rfl | hp7 | rfl | rfl | hp11
    · have HN : Hid (Calls Try.prog 15 #[.pointer (some ⟨g, 0, none⟩), .int .i64 6] (wc.alloc (.cells #[.string ⟨#[103, 101, 116]⟩, .string ⟨#[101, 114, 114, 111, 114]⟩, .string ⟨#[119, 97, 114, 110]⟩, .string ⟨#[97, 49]⟩, .string ⟨#[50, 48, 48]⟩, .string ⟨#[110, 111, 116, 104, 105, 110, 103]⟩] 9)) _) := lit_gd g w wc [[103, 101, 116], [101, 114, 114, 111, 114], [119, 97, 114, 110], [97, 49], [50, 48, 48], [110, 111, 116, 104, 105, 110, 103]] HS.out.gd (by decide) (by decide)
      go_wp2_with fail
      refine HN.out.mono ?_
      rintro e w2 ⟨k, x, hk, rfl, hcell, hlt, hgd, hap⟩
      have hk2 : k < 6 := hk
      have i1 : (k : Int) < 6 := by omega
      have i2 : (0 : Int) ≤ (k : Int) := by omega
      have HS2 := Lib.hid (HS.out.gp hgd hap)
      clear hgd hap hk HN
      obtain ⟨k0, k1, k2, k3, k4, f0, f1, f2, f3, f4⟩ := HS2.out.bk.five
      go_wp2_with fail
      rw [nest5 w2]
      exact test_ret HS2.out.gd HS2.out.bk _ _ rfl (by rfl) (TG.leaf _ _ 1 [] x 0) (by simp [sliceLen])
    · have HN : Hid (Calls Try.prog 15 #[.pointer (some ⟨g, 0, none⟩), .int .i64 6] (wc.alloc (.cells #[.string ⟨#[103, 101, 116]⟩, .string ⟨#[101, 114, 114, 111, 114]⟩, .string ⟨#[119, 97, 114, 110]⟩, .string ⟨#[97, 49]⟩, .string ⟨#[50, 48, 48]⟩, .string ⟨#[110, 111, 116, 104, 105, 110, 103]⟩] 9)) _) := lit_gd g w wc [[103, 101, 116], [101, 114, 114, 111, 114], [119, 97, 114, 110], [97, 49], [50, 48, 48], [110, 111, 116, 104, 105, 110, 103]] HS.out.gd (by decide) (by decide)
      go_wp2_with fail
      refine HN.out.mono ?_
      rintro e w2 ⟨k, x, hk, rfl, hcell, hlt, hgd, hap⟩
      have hk2 : k < 6 := hk
      have i1 : (k : Int) < 6 := by omega
      have i2 : (0 : Int) ≤ (k : Int) := by omega
      have HS2 := Lib.hid (HS.out.gp hgd hap)
      clear hgd hap hk HN
      obtain ⟨k0, k1, k2, k3, k4, f0, f1, f2, f3, f4⟩ := HS2.out.bk.five
      go_wp2_with fail
      rw [nest5 w2]
      exact test_ret HS2.out.gd HS2.out.bk _ _ rfl (by rfl) (TG.leaf _ _ 1 [] x 0) (by simp [sliceLen])
    · have HN : Hid (Calls Try.prog 15 #[.pointer (some ⟨g, 0, none⟩), .int .i64 5] (wc.alloc (.cells #[.string ⟨#[101]⟩, .string ⟨#[101, 114, 114]⟩, .string ⟨#[117]⟩, .string ⟨#[50]⟩, .string ⟨#[113]⟩] 9)) _) := lit_gd g w wc [[101], [101, 114, 114], [117], [50], [113]] HS.out.gd (by decide) (by decide)
      go_wp2_with fail
      refine HN.out.mono ?_
      rintro e w2 ⟨k, x, hk, rfl, hcell, hlt, hgd, hap⟩
      have hk2 : k < 5 := hk
      have i1 : (k : Int) < 5 := by omega
      have i2 : (0 : Int) ≤ (k : Int) := by omega
      have HS2 := Lib.hid (HS.out.gp hgd hap)
      clear hgd hap hk HN
      obtain ⟨k0, k1, k2, k3, k4, f0, f1, f2, f3, f4⟩ := HS2.out.bk.five
      go_wp2_with fail
      rw [nest5 w2]
      exact test_ret HS2.out.gd HS2.out.bk _ _ rfl (by rfl) (TG.leaf _ _ 2 [] x 0) (by simp [sliceLen])
    · have HN : Hid (Calls Try.prog 15 #[.pointer (some ⟨g, 0, none⟩), .int .i64 5] (wc.alloc (.cells #[.string ⟨#[114]⟩, .string ⟨#[71, 69, 84]⟩, .string ⟨#[32]⟩, .string ⟨#[84]⟩, .string ⟨#[111, 32, 111]⟩] 9)) _) := lit_gd g w wc [[114], [71, 69, 84], [32], [84], [111, 32, 111]] HS.out.gd (by decide) (by decide)
      go_wp2_with fail
      refine HN.out.mono ?_
      rintro e w2 ⟨k, x, hk, rfl, hcell, hlt, hgd, hap⟩
      have hk2 : k < 5 := hk
      have i1 : (k : Int) < 5 := by omega
      have i2 : (0 : Int) ≤ (k : Int) := by omega
      have HS2 := Lib.hid (HS.out.gp hgd hap)
      clear hgd hap hk HN
      obtain ⟨k0, k1, k2, k3, k4, f0, f1, f2, f3, f4⟩ := HS2.out.bk.five
      go_wp2_with fail
      rw [nest5 w2]
      exact test_ret HS2.out.gd HS2.out.bk _ _ rfl (by rfl) (TG.leaf _ _ 3 [] x 0) (by simp [sliceLen])
    · have HL0 := Lib.hid (show w.heap.size < wc.heap.size from HS.out.bk.lt)
      go_upto_if 41 with fail
      go_cut [41] (fun b wx => b = .bool true ∧ wx = wc)
      case first =>
        rcases hp4 with rfl | rfl
        · go_wp2_with fail
          go_meet
          exact ⟨rfl, rfl⟩
        · go_wp2_with fail
          go_meet
          exact ⟨rfl, rfl⟩
      case rest =>
      obtain ⟨rfl, rfl⟩ := hcut
      go_wp2_with fail
      refine (next_any g 4 _ HS.out.gd.codes (by omega) (by omega)).mono ?_
      rintro e wr ⟨q1, hq1, rfl, hca, hap⟩
      have HSR := Lib.hid (HS.out.go hap hca)
      clear hca hap HS
      by_cases h3 : q1 = 3
      · subst h3
        have HED := Lib.hid HSR.out.dr
        have HG := Lib.hid HSR.out.gd.codes.1
        go_wp2_with fail
        refine wp_region_slots (by rfl) (by kernel_rfl) (by kernel_rfl) 131 [] [(0, .pointer (some ⟨g, 0, none⟩)), (4, .pointer (some ⟨w.heap.size, 0, none⟩))] (by kernel_rfl) (R4I g w) (R4R w) (R4G g w) (R4R_G g w) ?_ ?_ ?_
        case refine_1 =>
          intro i o ho a W hB hd K hK
          have hi : i < 12 := (Array.getElem?_eq_some_iff.1 ho).1
          have h0 : a.tmps.getD 0 undef = .pointer (some ⟨g, 0, none⟩) := hB.fixed 0 _ (by simp)
          have h4 : a.tmps.getD 4 undef = .pointer (some ⟨w.heap.size, 0, none⟩) := hB.fixed 4 _ (by simp)
          rcases (show i = 0 ∨ i = 1 ∨ i = 2 ∨ i = 3 ∨ i = 4 ∨ i = 5 ∨ i = 6 ∨ i = 7 ∨ i = 8 ∨ i = 9 ∨ i = 10 ∨ i = 11 by omega) with rfl | rfl | rfl | rfl | rfl | rfl | rfl | rfl | rfl | rfl | rfl | rfl
          · obtain rfl := Option.some.inj ho
            go_simp
            exact hK _ _ (R4R.al w W hostO) (hB.inv.al hostO) ⟨_, rfl, Blk.new hB.inv.lt _⟩
          · obtain rfl := Option.some.inj ho
            go_simp
            exact hK _ _ (R4R.refl w W) hB.inv rfl
          · obtain rfl := Option.some.inj ho
            have hd1 : R4G g w 1 (a.tmps.getD 48 undef) W := hd ⟨1, .data⟩ (by simp) rfl
            simp only [R4G] at hd1
            go_simp
            refine (next_any g 4 _ hB.inv.1.codes (by omega) (by omega)).mono ?_
            rintro e w2 ⟨k, hk, rfl, hca, hap⟩
            exact hK _ _ (R4R.ap hap hB.inv.1.hg) (hB.inv.ap hap hca) ⟨k, hk, rfl⟩
          · obtain rfl := Option.some.inj ho
            have hd1 : R4G g w 0 (a.tmps.getD 47 undef) W := hd ⟨0, .data⟩ (by simp) rfl
            simp only [R4G] at hd1
            have hd2 : R4G g w 2 (a.tmps.getD 49 undef) W := hd ⟨2, .data⟩ (by simp) rfl
            simp only [R4G] at hd2
            obtain ⟨b, hv1, hb1⟩ := hd1
            obtain ⟨k, hk, hv2⟩ := hd2
            have i1 : (k : Int) < 4 := by omega
            have i2 : (0 : Int) ≤ (k : Int) := by omega
            go_simp
            exact hK _ _ (R4R.refl w W) hB.inv ⟨b, k, hk, rfl, hb1⟩
          · obtain rfl := Option.some.inj ho
            have hd1 : R4G g w 3 (a.tmps.getD 50 undef) W := hd ⟨3, .data⟩ (by simp) rfl
            simp only [R4G] at hd1
            obtain ⟨b, k, hk, hv1, hb1⟩ := hd1
            obtain ⟨y, hy⟩ := host_blk hk hb1.2.2
            go_simp
            exact hK _ _ (R4R.refl w W) hB.inv ⟨y, rfl⟩
          · obtain rfl := Option.some.inj ho
            go_simp
            exact hK _ _ (R4R.al w W fourO) (hB.inv.al fourO) ⟨_, rfl, Blk.new hB.inv.lt _⟩
          · obtain rfl := Option.some.inj ho
            go_simp
            exact hK _ _ (R4R.refl w W) hB.inv rfl
          · obtain rfl := Option.some.inj ho
            have hd1 : R4G g w 6 (a.tmps.getD 53 undef) W := hd ⟨6, .data⟩ (by simp) rfl
            simp only [R4G] at hd1
            go_simp
            refine (next_any g 4 _ hB.inv.1.codes (by omega) (by omega)).mono ?_
            rintro e w2 ⟨k, hk, rfl, hca, hap⟩
            exact hK _ _ (R4R.ap hap hB.inv.1.hg) (hB.inv.ap hap hca) ⟨k, hk, rfl⟩
          · obtain rfl := Option.some.inj ho
            have hd1 : R4G g w 5 (a.tmps.getD 52 undef) W := hd ⟨5, .data⟩ (by simp) rfl
            simp only [R4G] at hd1
            have hd2 : R4G g w 7 (a.tmps.getD 54 undef) W := hd ⟨7, .data⟩ (by simp) rfl
            simp only [R4G] at hd2
            obtain ⟨b, hv1, hb1⟩ := hd1
            obtain ⟨k, hk, hv2⟩ := hd2
            have i1 : (k : Int) < 4 := by omega
            have i2 : (0 : Int) ≤ (k : Int) := by omega
            go_simp
            exact hK _ _ (R4R.refl w W) hB.inv ⟨b, k, hk, rfl, hb1⟩
          · obtain rfl := Option.some.inj ho
            have hd1 : R4G g w 8 (a.tmps.getD 55 undef) W := hd ⟨8, .data⟩ (by simp) rfl
            simp only [R4G] at hd1
            obtain ⟨b, k, hk, hv1, hb1⟩ := hd1
            obtain ⟨y, hy⟩ := four_blk hk hb1.2.2
            go_simp
            exact hK _ _ (R4R.refl w W) hB.inv ⟨y, rfl⟩
          · obtain rfl := Option.some.inj ho
            have hd1 : R4G g w 4 (a.tmps.getD 51 undef) W := hd ⟨4, .data⟩ (by simp) rfl
            simp only [R4G] at hd1
            have hd2 : R4G g w 9 (a.tmps.getD 56 undef) W := hd ⟨9, .data⟩ (by simp) rfl
            simp only [R4G] at hd2
            obtain ⟨y, hv1⟩ := hd1
            obtain ⟨z, hv2⟩ := hd2
            have hv3 : a.tmps[51]?.getD undef = .string ⟨y.toArray⟩ := by rw [← Array.getD_eq_getD_getElem?]; exact hv1
            have hv4 : a.tmps[56]?.getD undef = .string ⟨z.toArray⟩ := by rw [← Array.getD_eq_getD_getElem?]; exact hv2
            go_simp
            exact hK _ _ (R4R.refl w W) hB.inv ⟨y, z, rfl⟩
          · obtain rfl := Option.some.inj ho
            have hd1 : R4G g w 10 (a.tmps.getD 57 undef) W := hd ⟨10, .data⟩ (by simp) rfl
            simp only [R4G] at hd1
            obtain ⟨y, z, hv1⟩ := hd1
            obtain ⟨E, hE⟩ := hB.inv.2
            obtain ⟨k0, k1, k2, k3, k4, f0, f1, f2, f3, f4⟩ := hE.five
            go_simp
            have hfin := bk_set5 hE 4 y z 0
            exact hK undef (setL W w.heap.size [.int .i64 4, .string ⟨y.toArray⟩, .string ⟨z.toArray⟩, .int .i64 0, .slice none 0 0] 0) ⟨by rw [setL_size]; exact Nat.le_refl _, fun k h1 _ => setL_heap _ (by omega) _ _, fun _ => ⟨y, z, hfin⟩⟩ ⟨hB.inv.1.on (setL_below (Nat.le_refl _) _ _ _), _, hfin⟩ ⟨y, z, hfin⟩
        case refine_2 =>
          intro a W hB hF
          have h11 : R4G g w 11 undef W := hF 11 (by decide)
          simp only [R4G] at h11
          obtain ⟨y, z, hfin⟩ := h11
          go_wp2_with fail
          exact test_ret2 hB.inv.1 hfin a hB.defers (hB.fixed 4 _ (by simp))
        case refine_3 =>
          refine ⟨rfl, rfl, fun s v hs => ?_, HSR.out.gd.dr, _, HSR.out.bk.dr⟩
          simp only [List.mem_cons, Prod.mk.injEq, List.not_mem_nil, or_false] at hs
          rcases hs with ⟨rfl, rfl⟩ | ⟨rfl, rfl⟩ <;> rfl
      · have z3 : ((q1 : Int) == 3) = false := by rw [beq_eq_false_iff_ne]; omega
        go_wp2_with fail
        refine (dname_any g wr HSR.out.gd.codes).mono ?_
        rintro e w1 ⟨x, hx, rfl, hca, hap⟩
        have HS1 := Lib.hid (HSR.out.go hap hca)
        clear hca hap
        go_wp2_with fail
        refine (dvalue_any g w1 HS1.out.gd.codes).mono ?_
        rintro e w2 ⟨u, hu, rfl, hca, hap⟩
        have HS2 := Lib.hid (HS1.out.go hap hca)
        clear hca hap
        obtain ⟨k0, k1, k2, k3, k4, f0, f1, f2, f3, f4⟩ := HS2.out.bk.five
        go_wp2_with fail
        rw [nest5 w2]
        exact test_ret HS2.out.gd HS2.out.bk _ _ rfl (by rfl) (TG.leaf _ _ 4 x u 0) (by simp [sliceLen])
    · go_wp2_with fail
      refine (dname_any g wc HS.out.gd.codes).mono ?_
      rintro e w2 ⟨x, hx, rfl, hca, hap⟩
      have HS2 := Lib.hid (HS.out.go hap hca)
      clear hca hap
      obtain ⟨k0, k1, k2, k3, k4, f0, f1, f2, f3, f4⟩ := HS2.out.bk.five
      go_wp2_with fail
      rw [nest5 w2]
      exact test_ret HS2.out.gd HS2.out.bk _ _ rfl (by rfl) (TG.leaf _ _ 8 x [] 0) (by simp [sliceLen])
    · have HBL := Lib.hid (show w.heap.size < wc.heap.size from HS.out.bk.lt)
      go_upto_if 68 with fail
      go_cut [68] (fun b wx => b = .bool true ∧ wx = wc)
      case first =>
        rcases hp7 with rfl | rfl
        · go_wp2_with fail
          go_meet
          exact ⟨rfl, rfl⟩
        · go_wp2_with fail
          go_meet
          exact ⟨rfl, rfl⟩
      case rest =>
      obtain ⟨rfl, rfl⟩ := hcut
      go_wp2_with fail
      refine (next_any g 3 _ HS.out.gd.codes (by omega) (by omega)).mono ?_
      rintro e w1 ⟨q1, hq1, rfl, hca, hap⟩
      have HS1 := Lib.hid (HS.out.go hap hca)
      clear hca hap
      go_wp2_with fail
      refine (dname_any g w1 HS1.out.gd.codes).mono ?_
      rintro e w2 ⟨x, hx, rfl, hca, hap⟩
      have HS2 := Lib.hid (HS1.out.go hap hca)
      clear hca hap HS1
      go_wp2_with fail
      refine (next_any g 40 w2 HS2.out.gd.codes (by omega) (by omega)).mono ?_
      rintro e w3 ⟨q2, hq2, rfl, hca, hap⟩
      have HS3 := Lib.hid (HS2.out.go hap hca)
      clear hca hap HS2
      obtain ⟨opn, hopn⟩ : ∃ opn, (9 + (q1 : Int)) = opn := ⟨_, rfl⟩
      obtain ⟨nun, hnun⟩ : ∃ nun, ((q2 : Int) - 5) = nun := ⟨_, rfl⟩
      have HB3 : Hid (BK w3.heap.size 5 (leafE opn x [] nun) (w3.alloc (.cells #[.int .i64 opn, .string ⟨x.toArray⟩, .string ⟨#[]⟩, .int .i64 nun, .slice none 0 0] 24))) :=
        BK.new w3 _ _ _ 5 (fun i hi => by
          match i, hi with
          | 0, _ => rfl
          | 1, _ => rfl
          | 2, _ => rfl
          | 3, _ => rfl
          | 4, _ => rfl)
      have HL3 := Lib.hid (show w.heap.size < w3.heap.size from HS3.out.bk.lt)
      have HG3 := Lib.hid (show w3.heap.size ≠ g from Nat.ne_of_gt HS3.out.gd.codes.1)
      have HSA := Lib.hid (HS3.out.al (.cells #[.int .i64 opn, .string ⟨x.toArray⟩, .string ⟨#[]⟩, .int .i64 nun, .slice none 0 0] 24))
      go_wp2_with fail
      clear hopn hnun
      refine (next_any g 2 _ HSA.out.gd.codes (by omega) (by omega)).mono ?_
      rintro e w4 ⟨q3, hq3, rfl, hca, hap⟩
      have HS4 := Lib.hid (HSA.out.go hap hca)
      have HB4 := Lib.hid (HB3.out.go hap HG3.out)
      clear hca hap HSA HB3 HS3 HS
      go_upto_if 82 with fail
      go_cut [] (fun wx => ∃ (op : Int) (nm : List UInt8) (nu : Int), TS g w wx ∧ BK w3.heap.size 5 (leafE op nm [] nu) wx)
      case first =>
        by_cases h1 : q3 = 1
        · subst h1
          go_wp2_with fail
          refine (next_any g 70 w4 HS4.out.gd.codes (by omega) (by omega)).mono ?_
          rintro e w5 ⟨q4, hq4, rfl, hca, hap⟩
          have HS5 := Lib.hid (HS4.out.go hap hca)
          have HB5 := Lib.hid (HB4.out.go hap HG3.out)
          clear hca hap HS4 HB4
          have b1 := HB5.out.ev 1 (by omega)
          have b3 := HB5.out.ev 3 (by omega)
          have g1 := HB5.out.fz 1
          have g3 := HB5.out.fz 3
          go_wp2_with fail
          go_meet
          exact ⟨opn, [64, 116, 105, 109, 101], _, (HS5.out.set HL3.out _ _).set HL3.out _ _, leaf_two HB5.out _ _⟩
        · have z1 : ((q3 : Int) == 1) = false := by rw [beq_eq_false_iff_ne]; omega
          go_wp2_with fail
          go_meet
          exact ⟨opn, x, nun, HS4.out, HB4.out⟩
      case rest =>
        obtain ⟨op, nm, nu, hS5, hB5⟩ := hcut
        have HS5 := Lib.hid hS5
        have HB5 := Lib.hid hB5
        clear hS5 hB5 HS4 HB4 hq3 hq2 hq1
        go_wp2_with fail
        refine (next_any g 8 _ HS5.out.gd.codes (by omega) (by omega)).mono ?_
        rintro e w6 ⟨q5, hq5, rfl, hca, hap⟩
        have HS6 := Lib.hid (HS5.out.go hap hca)
        have HB6 := Lib.hid (HB5.out.go hap HG3.out)
        clear hca hap HS5 HB5
        go_upto_if 90 with fail
        go_cut [] (fun wx => ∃ (op : Int) (nm : List UInt8) (nu : Int), TS g w wx ∧ BK w3.heap.size 5 (leafE op nm [] nu) wx)
        case first =>
          by_cases h1 : q5 = 7
          · subst h1
            have HSD := Lib.hid HS6.out.dr
            have HBD := Lib.hid HB6.out.dr
            have HG := Lib.hid HS6.out.gd.codes.1
            have b1 := HBD.out.ev 1 (by omega)
            have b3 := HBD.out.ev 3 (by omega)
            have g1 := HBD.out.fz 1
            have g3 := HBD.out.fz 3
            have hlt6 : w3.heap.size < w6.heap.size := HB6.out.lt
            go_wp2_with fail
            go_region_with (first
              | (go_at_call 15; refine (next_any g 3 _ (by first | exact HSD.out.gd.codes | exact HSD.out.gd.codes.of_below (Nat.lt_succ_self _) ((Below.refl _ _).alloc HG.out _) | exact (HSD.out.al _).gd.codes) (by omega) (by omega)).mono ?_; rintro e w7 ⟨k, hk, rfl, hca, hap⟩; have HAP := Lib.hid hap; clear hap; have i1 : (k : Int) < 3 := (by omega); have i2 : (0 : Int) ≤ (k : Int) := (by omega); obtain ⟨y, hyw, hyq⟩ := far_at k hk; have HYW := Lib.hid hyw; clear hyw; have HS7 : Hid (TS g w w7) := (by first | exact HSD.out.go HAP.out hca | exact (HSD.out.al _).go HAP.out hca); have HB7 : Hid (BK w3.heap.size 5 (leafE op nm [] nu) w7) := (by first | exact HBD.out.go HAP.out HG3.out | exact (HBD.out.al _).go HAP.out HG3.out); have hlt7 : w3.heap.size < w7.heap.size := HB7.out.lt; clear hca; (try (have hp1 : Has w7 (w6.heap.size) k (.int .i64 y) := (by first | exact (Has.new (W := w6.drew) (o := farO) HYW.out).go HAP.out HG.out); have hp1a := hp1.1; have hp1b := hp1.2)); have c1 := HB7.out.ev 1 (by omega); have c3 := HB7.out.ev 3 (by omega); have d1 := HB7.out.fz 1; have d3 := HB7.out.fz 3; skip))
            all_goals (go_wp2_with fail)
            all_goals go_meet
            all_goals
              first
                | exact ⟨op, [64, 116, 105, 109, 101], y, (HS7.out.set HL3.out _ _).set HL3.out _ _, leaf_two HB7.out _ _⟩
                | exact ⟨op, [64, 116, 105, 109, 101], y, ((HS7.out.set HL3.out _ _).set HL3.out _ _).al _, (leaf_two HB7.out _ _).al _⟩
                | exact ⟨op, [64, 116, 105, 109, 101], y, ((HS7.out.al _).set HL3.out _ _).set HL3.out _ _, leaf_two (HB7.out.al _) _ _⟩
          · have z1 : ((q5 : Int) == 7) = false := by rw [beq_eq_false_iff_ne]; omega
            go_wp2_with fail
            go_meet
            exact ⟨op, nm, nu, HS6.out, HB6.out⟩
        case rest =>
          obtain ⟨op2, nm2, nu2, hS7, hB7⟩ := hcut
          have HS7 := Lib.hid hS7
          have HB7 := Lib.hid hB7
          clear hS7 hB7 HS6 HB6
          obtain ⟨k0, k1, k2, k3, k4, f0, f1, f2, f3, f4⟩ := HS7.out.bk.five
          have b0 : wc.cell? ⟨w3.heap.size, 0, none⟩ = some (.int .i64 op2) := HB7.out.ev 0 (by omega)
          have b1 : wc.cell? ⟨w3.heap.size, 1, none⟩ = some (.string ⟨nm2.toArray⟩) := HB7.out.ev 1 (by omega)
          have b2 : wc.cell? ⟨w3.heap.size, 2, none⟩ = some (.string ⟨#[]⟩) := HB7.out.ev 2 (by omega)
          have b3 : wc.cell? ⟨w3.heap.size, 3, none⟩ = some (.int .i64 nu2) := HB7.out.ev 3 (by omega)
          have b4 : wc.cell? ⟨w3.heap.size, 4, none⟩ = some (.slice none 0 0) := HB7.out.ev 4 (by omega)
          go_wp2_with fail
          rw [nest5 wc]
          exact test_ret HS7.out.gd HS7.out.bk _ _ rfl (by rfl) (TG.leaf _ _ op2 nm2 [] nu2) (by simp [sliceLen])
    · obtain ⟨k0, k1, k2, k3, k4, f0, f1, f2, f3, f4⟩ := HS.out.bk.five
      go_wp2_with fail
      rw [nest5 wc]
      exact test_ret HS.out.gd HS.out.bk _ _ rfl (by rfl) (TG.leaf _ _ 0 [] [] 0) (by simp [sliceLen])
    · obtain ⟨d, rfl⟩ : ∃ d, depth = d + 1 := ⟨depth - 1, by omega⟩
      have hd1 : ((d + 1 : Nat) : Int) - 1 = (d : Int) := by omega
      go_wp2_with fail
      refine (HIH.out d rfl g wc HS.out.gd.codes).mono ?_
      rintro e w2 ⟨v, t, rfl, hT, hg2, _⟩
      have HS2 := Lib.hid (HS.out.go hg2.ap hg2.codes)
      have HT2 := Lib.hid (TG.go (F' := fun k => w.heap.size < k) (w' := w2) ⟨Nat.le_refl _, fun k hk _ => ⟨Nat.lt_of_lt_of_le HS.out.bk.lt hk, rfl⟩⟩ _ _ hT)
      clear hT hg2
      obtain ⟨op, nm, tx, num, kids, a, c, rfl, _⟩ := HT2.out.open
      have HSA := Lib.hid (HS2.out.al (.cells #[.int .i64 op, .string ⟨nm.toArray⟩, .string ⟨tx.toArray⟩, .int .i64 num, .slice a kids.length c] 24))
      have HR := Lib.hid ((OR.lit (B := w2.heap.size) (e := 24) (R := TR (fun k => w.heap.size < k) (w2.alloc (.cells #[.int .i64 op, .string ⟨nm.toArray⟩, .string ⟨tx.toArray⟩, .int .i64 num, .slice a kids.length c] 24))) w2 t [.int .i64 op, .string ⟨nm.toArray⟩, .string ⟨tx.toArray⟩, .int .i64 num, .slice a kids.length c] (Nat.le_refl _) rfl (TG.go ⟨by simp, fun k hk h2 => ⟨hk, ((Below.refl _ w2).alloc (Nat.le_refl _) _).block k h2⟩⟩ _ _ HT2.out)).rw (F := fun k => w.heap.size < k) (fun b hb => Nat.lt_of_lt_of_le HS2.out.bk.lt hb))
      obtain ⟨k0, k1, k2, k3, k4, f0, f1, f2, f3, f4⟩ := HS2.out.bk.five
      have hblt := HS2.out.bk.lt
      have hbne : w.heap.size ≠ w2.heap.size := Nat.ne_of_lt hblt
      go_wp2_with fail
      rw [nest5 w2, setL_alloc _ _ _ _ hblt]
      exact test_ret HSA.out.gd HSA.out.bk _ _ rfl (by rfl) (TG.node HR.out 5 [] [] 0) (by simp [sliceLen])
    · obtain ⟨opn, hopn⟩ : ∃ opn, (6 + (p : Int) % 2) = opn := ⟨_, rfl⟩
      obtain ⟨d, rfl⟩ : ∃ d, depth = d + 1 := ⟨depth - 1, by omega⟩
      have hd1 : ((d + 1 : Nat) : Int) - 1 = (d : Int) := by omega
      have HK1 : Hid (KL TR (fun k => w.heap.size < k ∧ k ≠ wc.heap.size) wc.heap.size 5 (leafE opn [] [] 0) 4 (wc.heap.size + 1) 24 5 [] (.slice none 0 0) (wc.alloc (.cells #[.int .i64 opn, .string ⟨#[]⟩, .string ⟨#[]⟩, .int .i64 0, .slice none 0 0] 24))) :=
        ⟨BK.new wc _ _ _ 5 (fun i hi => by
          match i, hi with
          | 0, _ => rfl
          | 1, _ => rfl
          | 2, _ => rfl
          | 3, _ => rfl
          | 4, _ => rfl), OR.nil, Nat.lt_succ_self _, by simp⟩
      have HS1 := Lib.hid (HS.out.al (.cells #[.int .i64 opn, .string ⟨#[]⟩, .string ⟨#[]⟩, .int .i64 0, .slice none 0 0] 24))
      have HGB := Lib.hid (show g < wc.heap.size from HS.out.gd.codes.1)
      have HBL := Lib.hid (show w.heap.size < wc.heap.size from HS.out.bk.lt)
      have HNG : Hid (¬ (w.heap.size < g ∧ g ≠ wc.heap.size)) := Lib.hid (by have := HS.out.gd.hg; omega)
      go_wp2_with fail
      clear hopn
      refine (next_any g 2 _ HS1.out.gd.codes (by omega) (by omega)).mono ?_
      rintro e w2 ⟨m, hm, rfl, hca, hap⟩
      have HS2 := Lib.hid (HS1.out.go hap hca)
      have HK2 := Lib.hid (HK1.out.go hap HGB.out HNG.out (fun _ _ _ _ h => TR.go h))
      clear hca hap HS1 HK1
      go_wp2_with fail
      go_loopw [8] (fun i wr => ∃ (j : Nat) (kids : List QT) (v : Value), i = .int .i64 j ∧ j + kids.length ≤ 3 ∧ TS g w wr ∧ KL TR (fun k => w.heap.size < k ∧ k ≠ wc.heap.size) wc.heap.size 5 (leafE opn [] [] 0) 4 (wc.heap.size + 1) 24 5 kids v wr) (fun i _ => (intOf i).toNat)
      case atStart => exact ⟨2 + m, [], _, by go_num, by simp; omega, HS2.out, HK2.out⟩
      case round =>
        obtain ⟨j, kids, v, rfl, hjk, hS, hK⟩ := hrel
        have HSR := Lib.hid hS
        have HKR := Lib.hid hK
        clear hS hK HS2 HK2 HS
        cases j with
        | zero =>
          have HRW := Lib.hid (HKR.out.row.rw (F := fun k => w.heap.size < k) (R := _) (fun b hb => by have := HBL.out; omega))
          have HRW2 : Hid (RW (fun k => w.heap.size < k) 5 (TR (fun k => w.heap.size < k) wr) wr kids v) := Lib.hid (HRW.out.go ⟨Nat.le_refl _, fun k hk _ => ⟨hk, rfl⟩⟩ (fun t us h => TG.go ⟨Nat.le_refl _, fun k hk _ => ⟨hk.1.1, rfl⟩⟩ _ _ h))
          obtain ⟨k0, k1, k2, k3, k4, f0, f1, f2, f3, f4⟩ := HSR.out.bk.five
          obtain ⟨a, c, rfl, _⟩ := HRW2.out
          have b0 : wr.cell? ⟨wc.heap.size, 0, none⟩ = some (.int .i64 opn) := HKR.out.bk.ev 0 (by omega)
          have b1 : wr.cell? ⟨wc.heap.size, 1, none⟩ = some (.string ⟨#[]⟩) := HKR.out.bk.ev 1 (by omega)
          have b2 : wr.cell? ⟨wc.heap.size, 2, none⟩ = some (.string ⟨#[]⟩) := HKR.out.bk.ev 2 (by omega)
          have b3 : wr.cell? ⟨wc.heap.size, 3, none⟩ = some (.int .i64 0) := HKR.out.bk.ev 3 (by omega)
          have b4 : wr.cell? ⟨wc.heap.size, 4, none⟩ = some (.slice a kids.length c) := HKR.out.bk.ev 4 (by omega)
          have hbne : wc.heap.size ≠ w.heap.size := Nat.ne_of_gt HBL.out
          go_wp2_with fail
          rw [nest5 wr]
          exact test_ret HSR.out.gd HSR.out.bk _ _ rfl (by rfl) (TG.node HRW2.out opn [] [] 0) (by simp [sliceLen]; omega)
        | succ j =>
          have hj0 : (0 : Int) < (j : Int) + 1 := by omega
          have hwd : IntKind.i64.wrap (d : Int) = (d : Int) := (IntWalk.i64_left _).trans (IntWalk.wrap64_in _ (by omega))
          have hc0 : wr.drew.cell? ⟨wc.heap.size, 4, none⟩ = some v := HKR.out.cell (by decide)
          have hf0 : wr.drew.frozen? ⟨wc.heap.size, 4, none⟩ = false := HKR.out.bk.fz 4
          have HSD := Lib.hid HSR.out.dr
          have HKD := Lib.hid (HKR.out.go (Apart.of_below (Below.refl _ wr).drew HSR.out.gd.codes.1) HGB.out HNG.out (fun _ _ _ _ h => TR.go h))
          obtain ⟨i0, hi, hz0, hz1, hz2⟩ := info_parts infoT
          go_wp2_with fail
          go_region_law (first
            | (refine step_append_lies _ (by rfl) _ _ _ (by rfl) (wc.heap.size + 1) 24 i0 (.agg #[.int .i64 0, .string ⟨#[]⟩, .string ⟨#[]⟩, .int .i64 0, .slice none 0 0]) 5 72 Try.underlying22 hi hz0 hz1 hz2 rfl (by decide) _ _ _ (by rfl) (hown4.alloc _) ⟨w4.heap.size, 0, none⟩ 1 1 [.int .i64 op, .string ⟨nm.toArray⟩, .string ⟨tx.toArray⟩, .int .i64 num, .slice a kk.length c] (by rfl) rfl (World.news_of_block (heap_alloc_new w4 _)) (test_one _ _ _ _ _ _ _) (by omega) (by unfold maxLen; omega) (by omega) (Nat.le_trans HK4.out.BW (by simp)) _ rfl ?_; intro g' cap' w5 hown5 hgrow5 hat5 hlt5; obtain ⟨hP5, hc5, hf5⟩ := kids_push HS4.out HBL.out HK4.out cs hown4 HPU.out hgrow5 hat5 _ rfl rfl HTR.out (by omega) hown5; have HP5 := Lib.hid hP5; clear hP5 hown5 hgrow5)
            | (go_simp; go_at_call 14; (try rw [hwd]); refine (HIH.out d rfl g _ HSD.out.gd.codes).mono ?_; rintro e w4 ⟨x, t, rfl, hT, hg4, _⟩; have HS4 := Lib.hid (HSD.out.go hg4.ap hg4.codes); have HK4 := Lib.hid (HKD.out.go hg4.ap HGB.out HNG.out (fun _ _ _ _ h => TR.go h)); have hc4 : w4.cell? ⟨wc.heap.size, 4, none⟩ = some v := HK4.out.cell (by decide); have hf4 : w4.frozen? ⟨wc.heap.size, 4, none⟩ = false := HK4.out.bk.fz 4; have hca4 : ∀ o, (w4.alloc o).cell? ⟨wc.heap.size, 4, none⟩ = some v := (fun o => HK4.out.cellA (by decide) o); have hfa4 : ∀ o, (w4.alloc o).frozen? ⟨wc.heap.size, 4, none⟩ = false := (fun o => HK4.out.fzA 4 o); obtain ⟨op, nm, tx, num, kk, a, c, rfl, _⟩ := hT.open; obtain ⟨cs, hown4, hpush⟩ := HK4.out.row.cells; have HPU := Lib.hid hpush; have HTR : Hid (TR (FF (fun k => w.heap.size < k ∧ k ≠ wc.heap.size) v) w4 t [.int .i64 op, .string ⟨nm.toArray⟩, .string ⟨tx.toArray⟩, .int .i64 num, .slice a kk.length c]) := Lib.hid (ff_new HKD.out HBL.out hT); clear hpush hT hg4))
          all_goals (go_wp2_with fail)
          all_goals refine ⟨⟨j, kids ++ [t], _, by go_num, by simp; omega, HP5.out.1, HP5.out.2⟩, by simp [intOf]⟩

theorem dtest_any (depth : Nat) : depth ≤ 2 → ∀ (g : Nat) (w : World), CodesAt w g → Calls Try.prog 14 #[.pointer (some ⟨g, 0, none⟩), .int .i64 depth] w (TP g w) := by
  induction depth with
  | zero => exact fun h g w hc => dtest_aux 0 h (fun d hd => by omega) g w hc
  | succ n ih => exact fun h g w hc => dtest_aux (n + 1) h (fun d hd => by
      obtain rfl : d = n := by omega
      exact ih (by omega)) g w hc

end Go.Proofs.Ytmcnhphmglmmeaa

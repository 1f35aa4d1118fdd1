/-
  THE LIST OF CHOICES OF PACKAGE logtidedraw (Left, Next, New): what a choice is, and what stays as it was.
-/
import Derived.Test.YtmcnhphmglmmeaaMem
import Derived.BigRegion
import Derived.RegionTactic
import Derived.IntWalk
import Derived.Deep.WholeRow
namespace Go.Proofs.Ytmcnhphmglmmeaa
open Go.RowKit

/-- The list of choices at the block g. -/
def CodesAt (w : World) (g : Nat) : Prop := g < w.heap.size ∧ w.frozen? ⟨g, 1, none⟩ = false ∧ ∃ a cap, ∃ cs : List UInt8, ∃ k : Nat, w.cell? ⟨g, 0, none⟩ = some (.slice a cs.length cap) ∧ w.cell? ⟨g, 1, none⟩ = some (.int .i64 k) ∧
  k ≤ cs.length ∧ cs.length ≤ 1000 ∧ (0 < cs.length → ∃ blk off, a = some ⟨blk, off, none⟩ ∧ blk < g ∧ BA w blk off cs)
/-- Nothing but the block g was changed. -/
def Apart (g : Nat) (w w' : World) : Prop := Below g w w' ∧ ∀ k, g < k → k < w.heap.size → w'.heap[k]? = w.heap[k]?

theorem Apart.refl (g : Nat) (w : World) : Apart g w w := ⟨Below.refl _ _, fun _ _ _ => rfl⟩
theorem Apart.trans {g : Nat} {a b c : World} (h : Apart g a b) (k : Apart g b c) : Apart g a c := ⟨h.1.trans k.1, fun i h1 h2 => (k.2 i h1 (Nat.lt_of_lt_of_le h2 h.1.size)).trans (h.2 i h1 h2)⟩
theorem Apart.block {g : Nat} {w w' : World} (h : Apart g w w') {k : Nat} (hk : k ≠ g) (hl : k < w.heap.size) : w'.heap[k]? = w.heap[k]? := by
  rcases Nat.lt_or_gt_of_ne hk with h1 | h1
  · exact h.1.block k h1
  · exact h.2 k h1 hl
theorem Apart.cell {g : Nat} {w w' : World} (h : Apart g w w') {p : Addr} (hk : p.block ≠ g) (hl : p.block < w.heap.size) : w'.cell? p = w.cell? p := World.cell?_of_block (w := w) (h.block hk hl)
theorem Apart.of_below {g : Nat} {w w' : World} (h : Below w.heap.size w w') (hg : g < w.heap.size) : Apart g w w' := ⟨h.mono (Nat.le_of_lt hg), fun k _ hk => h.block k hk⟩
theorem Apart.below {g B : Nat} {w0 w w' : World} (h : Below B w0 w) (k : Apart g w w') (hB : B ≤ g) : Below B w0 w' := h.trans (k.1.mono hB)

theorem CodesAt.below {w w' : World} {g : Nat} (h : CodesAt w g) (hb : Below w.heap.size w w') : CodesAt w' g := by
  obtain ⟨h1, h2, a, cap, cs, k, c0, c1, hk, hl, hc⟩ := h
  refine ⟨Nat.lt_of_lt_of_le h1 hb.size, (hb.frozen (p := ⟨g, 1, none⟩) h1).trans h2, a, cap, cs, k, (hb.cell (p := ⟨g, 0, none⟩) h1).trans c0, (hb.cell (p := ⟨g, 1, none⟩) h1).trans c1, hk, hl, fun h0 => ?_⟩
  obtain ⟨blk, off, e, hlt, hba⟩ := hc h0
  exact ⟨blk, off, e, hlt, hba.below fun i _ => hb.cell (p := ⟨blk, off + i, none⟩) (Nat.lt_trans hlt h1)⟩

theorem left_any (g : Nat) (w : World) (a : Option Addr) (cap n k : Nat) (b : Bool) (h0 : w.cell? ⟨g, 0, none⟩ = some (.slice a n cap)) (h1 : w.cell? ⟨g, 1, none⟩ = some (.int .i64 k)) (hb : decide ((k : Int) < (n : Int)) = b) :
    Calls Try.prog 28 #[.pointer (some ⟨g, 0, none⟩)] w fun e w' => e = .returned (.bool b) ∧ ∃ q, w' = w.drewN q := by
  go_enter Try.func28, Try.ntmps28
  go_wp2_with fail
  go_quiet (fail)
  go_wp2_with fail
  go_ret
  refine ⟨?_, _, rfl⟩
  rw [← hb]
  simp [go_sem]

set_option maxHeartbeats 1000000 in
theorem next_any (g n : Nat) (w : World) (hc : CodesAt w g) (hn : 0 < n) (hn2 : n ≤ 1000000) :
    Calls Try.prog 15 #[.pointer (some ⟨g, 0, none⟩), .int .i64 n] w fun e w' => ∃ k : Nat, k < n ∧ e = .returned (.int .i64 k) ∧ CodesAt w' g ∧ Apart g w w' := by
  have HCA := Lib.hid hc
  obtain ⟨hg, hf, a, cap, cs, k, c0, c1, hk, hl, hcs⟩ := hc
  have t1 : decide ((n : Int) < 1) = false := decide_eq_false (by omega)
  by_cases hlt : k < cs.length
  · have HL := Lib.hid (left_any g w a cap cs.length k true c0 c1 (decide_eq_true (by omega)))
    obtain ⟨blk, off, rfl, hbg, hba⟩ := hcs (by omega)
    have HBA := Lib.hid hba
    have hcell := hba k hlt
    have hle := Asc.at_le hlt
    generalize Asc.at_ cs k = c at *
    have hn0 : ((n : Int) == 0) = false := by rw [beq_eq_false_iff_ne]; omega
    clear hba hcs
    go_enter Try.func15, Try.ntmps15
    go_wp2_with (go_at_call 28; refine HL.out.mono ?_; rintro e w1 ⟨rfl, q, rfl⟩; have c0' : (w.drewN q).cell? ⟨g, 0, none⟩ = some (.slice (some ⟨blk, off, none⟩) cs.length cap) := c0; have c1' : (w.drewN q).cell? ⟨g, 1, none⟩ = some (.int .i64 k) := c1; have f1' : (w.drewN q).frozen? ⟨g, 1, none⟩ = false := hf; have cc' : (w.drewN q).cell? ⟨blk, off + k, none⟩ = some (.int .u8 c) := hcell)
    have hk1 : (k : Int) + 1 - 1 = (k : Int) := by omega
    have i1 : (k : Int) < (cs.length : Int) := by omega
    have i2 : (0 : Int) ≤ (k : Int) := by omega
    have hsz : ∀ q, ((w.drewN q).setCell ⟨g, 1, none⟩ (.int .i64 ((k : Int) + 1))).heap.size = w.heap.size := fun q => by simp
    have HAP : Hid (∀ q, Apart g w ((w.drewN q).setCell ⟨g, 1, none⟩ (.int .i64 ((k : Int) + 1)))) := (show ∀ q, Apart g w ((w.drewN q).setCell ⟨g, 1, none⟩ (.int .i64 ((k : Int) + 1))) from fun q => ⟨(below_drewN (Below.refl _ _) q).setCell (p := ⟨g, 1, none⟩) (Nat.le_refl _) _, fun j h1 _ => (Below.heap_setCell _ _ _ j (by simp; omega)).trans rfl⟩)
    have HNEW : Hid (∀ q, CodesAt ((w.drewN q).setCell ⟨g, 1, none⟩ (.int .i64 ((k : Int) + 1))) g) := (show ∀ q, CodesAt ((w.drewN q).setCell ⟨g, 1, none⟩ (.int .i64 ((k : Int) + 1))) g from fun q =>
      ⟨by rw [hsz]; exact hg, by rw [World.frozen?_setCell]; exact hf, _, cap, cs, k + 1,
        by rw [World.cell?_setCell_other _ _ _ _ (by intro h; simp only [Addr.mk.injEq] at h; omega)]; exact c0,
        World.cell?_setCell_same _ _ _ (show (w.drewN q).cell? ⟨g, 1, none⟩ = some (.int .i64 k) from c1), by omega, hl,
        fun _ => ⟨blk, off, rfl, hbg, HBA.out.below fun i _ => by rw [World.cell?_setCell_other _ _ _ _ (by intro h; simp only [Addr.mk.injEq] at h; omega)]; rfl⟩⟩)
    clear hsz HCA
    go_quiet (fail)
    go_wp2_with fail
    go_ret
    have hz : 256 * n ≤ 256000000 := by omega
    refine ⟨c * n / 256, ?_, ?_, HNEW.out _, HAP.out _⟩
    · rw [Nat.div_lt_iff_lt_mul (by omega)]
      have : c * n ≤ 255 * n := Nat.mul_le_mul_right _ hle
      omega
    · have h0 : (c : Int) * (n : Int) = ((c * n : Nat) : Int) := by push_cast; rfl
      have h1 : c * n ≤ 255 * n := Nat.mul_le_mul_right _ hle
      have h2 : wrap64 ((c : Int) * (n : Int)) = ((c * n : Nat) : Int) := by rw [h0]; exact IntWalk.wrap64_in _ (by omega)
      have h3 : ((c * n : Nat) : Int).tdiv 256 = ((c * n / 256 : Nat) : Int) := by rw [Int.tdiv_eq_ediv_of_nonneg (by omega)]; rfl
      have h4 : wrap64 ((wrap64 ((c : Int) * (n : Int))).tdiv 256) = ((c * n / 256 : Nat) : Int) := by rw [h2, h3]; exact IntWalk.wrap64_in _ (by omega)
      rw [h4]
      rfl
  · have HL := Lib.hid (left_any g w a cap cs.length k false c0 c1 (decide_eq_false (by omega)))
    clear hcs
    go_enter Try.func15, Try.ntmps15
    go_wp2_with (go_at_call 28; refine HL.out.mono ?_; rintro e w1 ⟨rfl, q, rfl⟩)
    go_ret
    have hb : Below w.heap.size w (w.drewN q) := below_drewN (Below.refl _ _) q
    exact ⟨0, hn, rfl, HCA.out.below hb, Apart.of_below hb hg⟩

theorem new_codes (w : World) (a : Option Addr) (cap : Nat) (cs : List UInt8) (hl : cs.length ≤ 1000) (hc : 0 < cs.length → ∃ blk off, a = some ⟨blk, off, none⟩ ∧ blk < w.heap.size ∧ BA w blk off cs) :
    CodesAt (w.alloc (.cells #[.slice a cs.length cap, .int .i64 0] 43)) w.heap.size := by
  refine ⟨by simp, by simp [go_sem], a, cap, cs, 0, by simp [go_sem], by simp [go_sem], by omega, hl, fun h => ?_⟩
  obtain ⟨blk, off, e, hb, hba⟩ := hc h
  exact ⟨blk, off, e, hb, hba.below fun i _ => ((Below.refl _ w).alloc (Nat.le_refl _) _).cell (p := ⟨blk, off + i, none⟩) hb⟩

theorem new_any (v : Value) (cs : List UInt8) (m : Nat) (w : World) (hb : BS w v cs) (hm : m ≤ 1000) :
    Calls Try.prog 6 #[v, .int .i64 m] w fun e w' => e = .returned (.pointer (some ⟨w.heap.size, 0, none⟩)) ∧ CodesAt w' w.heap.size ∧ Below w.heap.size w w' := by
  obtain ⟨a, cap, rfl, hcap, hc⟩ := hb
  have HC := Lib.hid hc
  clear hc
  by_cases hlt : m < cs.length
  · obtain ⟨blk, off, rfl, hbl, hba⟩ := HC.out (by omega)
    have d1 : decide ((m : Int) < (cs.length : Int)) = true := decide_eq_true (by omega)
    have d2 : (m : Int) ≤ (cap : Int) := by omega
    have d3 : (0 : Int) ≤ (m : Int) := by omega
    have htl : (cs.take m).length = m := by rw [List.length_take]; omega
    have HN : Hid (CodesAt (w.alloc (.cells #[.slice (some ⟨blk, off, none⟩) m cap, .int .i64 0] 43)) w.heap.size) := by
      have h := new_codes w (some ⟨blk, off, none⟩) cap (cs.take m) (by omega) (fun _ => ⟨blk, off, rfl, hbl, fun i hi => by
        rw [htl] at hi
        rw [hba i (by omega), Asc.at_of (show i < cs.length by omega), Asc.at_of (show i < (cs.take m).length by omega)]
        simp⟩)
      rw [htl] at h
      exact h
    clear HC htl hba
    go_enter Try.func6, Try.ntmps6
    go_wp2_with fail
    go_ret
    exact ⟨rfl, HN.out, (Below.refl _ _).alloc (Nat.le_refl _) _⟩
  · have d1 : decide ((m : Int) < (cs.length : Int)) = false := decide_eq_false (by omega)
    have HN := Lib.hid (new_codes w a cap cs (by omega) HC.out)
    clear HC
    go_enter Try.func6, Try.ntmps6
    go_wp2_with fail
    go_ret
    exact ⟨rfl, HN.out, (Below.refl _ _).alloc (Nat.le_refl _) _⟩

theorem CodesAt.of_below {w w' : World} {g B : Nat} (h : CodesAt w g) (hB : g < B) (hb : Below B w w') : CodesAt w' g := by
  obtain ⟨h1, h2, a, cap, cs, k, c0, c1, hk, hl, hc⟩ := h
  refine ⟨Nat.lt_of_lt_of_le h1 hb.size, (hb.frozen (p := ⟨g, 1, none⟩) hB).trans h2, a, cap, cs, k, (hb.cell (p := ⟨g, 0, none⟩) hB).trans c0, (hb.cell (p := ⟨g, 1, none⟩) hB).trans c1, hk, hl, fun h0 => ?_⟩
  obtain ⟨blk, off, e, hlt, hba⟩ := hc h0
  exact ⟨blk, off, e, hlt, hba.below fun i _ => hb.cell (p := ⟨blk, off + i, none⟩) (Nat.lt_trans hlt hB)⟩
theorem own_keep {W W' : World} {B E s n : Nat} {v : Value} {xs : List Value} (h : W.ownsRow B E s v n xs) (hb : ∀ k, B ≤ k → k < W.heap.size → W'.heap[k]? = W.heap[k]?) : W'.ownsRow B E s v n xs := by
  obtain ⟨h1, h2⟩ := h
  refine ⟨h1, h2.imp id ?_⟩
  rintro ⟨g, cap, cur, rfl, hB, hg, rest⟩
  refine ⟨g, cap, cur, rfl, hB, ?_, rest⟩
  rw [hb g hB ?_]
  · exact hg
  · rcases Nat.lt_or_ge g W.heap.size with c | c
    · exact c
    · rw [Array.getElem?_eq_none c] at hg; cases hg


end Go.Proofs.Ytmcnhphmglmmeaa

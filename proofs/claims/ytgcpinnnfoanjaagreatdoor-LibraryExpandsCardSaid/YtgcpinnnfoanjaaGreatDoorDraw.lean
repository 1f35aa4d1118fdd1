/-
  THE LIST OF CHOICES OF PACKAGE logtidemake (Left, Next, Pick, New): what a choice is, and what stays as it was.
-/
import Derived.Test.YtgcpinnnfoanjaaGreatDoorMem
import Derived.BigRegion
import Derived.RegionTactic
import Derived.IntWalk
import Derived.Deep.WholeRow
namespace Go.Proofs.YtgcpinnnfoanjaaGreatDoor
open Go.RowKit

/-- The list of choices at the block g. -/
def CodesAt (w : World) (g : Nat) : Prop := g < w.heap.size ∧ w.frozen? ⟨g, 1, none⟩ = false ∧ ∃ a cap, ∃ cs : List UInt8, ∃ k : Nat, w.cell? ⟨g, 0, none⟩ = some (.slice a cs.length cap) ∧ w.cell? ⟨g, 1, none⟩ = some (.int .i64 k) ∧
  k ≤ cs.length ∧ cs.length ≤ 1000 ∧ (0 < cs.length → ∃ blk off, a = some ⟨blk, off, none⟩ ∧ blk < g ∧ BA w blk off cs)
/-- Nothing but the block g was changed. -/
def Apart (g : Nat) (w w' : World) : Prop := Below g w w' ∧ ∀ k, g < k → k < w.heap.size → w'.heap[k]? = w.heap[k]?

theorem Apart.refl (g : Nat) (w : World) : Apart g w w := ⟨Below.refl _ _, fun _ _ _ => rfl⟩
theorem Apart.trans {g : Nat} {a b c : World} (h : Apart g a b) (k : Apart g b c) : Apart g a c := ⟨h.1.trans k.1, fun i h1 h2 => (k.2 i h1 (Nat.lt_of_lt_of_le h2 h.1.size)).trans (h.2 i h1 h2)⟩
theorem Apart.block {g : Nat} {w w' : World} (h : Apart g w w') {k : Nat} (hk : k ≠ g) (hl : k < w.heap.size) : w'.heap[k]? = w.heap[k]? := by
  rcases Nat.lt_or_gt_of_ne hk with h1 | h1
  · exact h.1.block k h1
  · exact h.2 k h1 hl
theorem Apart.cell {g : Nat} {w w' : World} (h : Apart g w w') {p : Addr} (hk : p.block ≠ g) (hl : p.block < w.heap.size) : w'.cell? p = w.cell? p := World.cell?_of_block (w := w) (h.block hk hl)
theorem Apart.of_below {g : Nat} {w w' : World} (h : Below w.heap.size w w') (hg : g < w.heap.size) : Apart g w w' := ⟨h.mono (Nat.le_of_lt hg), fun k _ hk => h.block k hk⟩
theorem Apart.below {g B : Nat} {w0 w w' : World} (h : Below B w0 w) (k : Apart g w w') (hB : B ≤ g) : Below B w0 w' := h.trans (k.1.mono hB)

theorem CodesAt.below {w w' : World} {g : Nat} (h : CodesAt w g) (hb : Below w.heap.size w w') : CodesAt w' g := by
  obtain ⟨h1, h2, a, cap, cs, k, c0, c1, hk, hl, hc⟩ := h
  refine ⟨Nat.lt_of_lt_of_le h1 hb.size, (hb.frozen (p := ⟨g, 1, none⟩) h1).trans h2, a, cap, cs, k, (hb.cell (p := ⟨g, 0, none⟩) h1).trans c0, (hb.cell (p := ⟨g, 1, none⟩) h1).trans c1, hk, hl, fun h0 => ?_⟩
  obtain ⟨blk, off, e, hlt, hba⟩ := hc h0
  exact ⟨blk, off, e, hlt, hba.below fun i _ => hb.cell (p := ⟨blk, off + i, none⟩) (Nat.lt_trans hlt h1)⟩

theorem left_any (g : Nat) (w : World) (a : Option Addr) (cap n k : Nat) (b : Bool) (h0 : w.cell? ⟨g, 0, none⟩ = some (.slice a n cap)) (h1 : w.cell? ⟨g, 1, none⟩ = some (.int .i64 k)) (hb : decide ((k : Int) < (n : Int)) = b) :
    Calls Tryz.prog 45 #[.pointer (some ⟨g, 0, none⟩)] w fun e w' => e = .returned (.bool b) ∧ ∃ q, w' = w.drewN q := by
  go_enter Tryz.func45, Tryz.ntmps45
  go_wp2_with fail
  go_quiet (fail)
  go_wp2_with fail
  go_ret
  refine ⟨?_, _, rfl⟩
  rw [← hb]
  simp [go_sem]

set_option maxHeartbeats 1000000 in
theorem next_any (g n : Nat) (w : World) (hc : CodesAt w g) (hn : 0 < n) (hn2 : n ≤ 1000000) :
    Calls Tryz.prog 26 #[.pointer (some ⟨g, 0, none⟩), .int .i64 n] w fun e w' => ∃ k : Nat, k < n ∧ e = .returned (.int .i64 k) ∧ CodesAt w' g ∧ Apart g w w' := by
  have HCA := Lib.hid hc
  obtain ⟨hg, hf, a, cap, cs, k, c0, c1, hk, hl, hcs⟩ := hc
  have t1 : decide ((n : Int) < 1) = false := decide_eq_false (by omega)
  by_cases hlt : k < cs.length
  · have HL := Lib.hid (left_any g w a cap cs.length k true c0 c1 (decide_eq_true (by omega)))
    obtain ⟨blk, off, rfl, hbg, hba⟩ := hcs (by omega)
    have HBA := Lib.hid hba
    have hcell := hba k hlt
    have hle := Asc.at_le hlt
    generalize Asc.at_ cs k = c at *
    have hn0 : ((n : Int) == 0) = false := by rw [beq_eq_false_iff_ne]; omega
    clear hba hcs
    go_enter Tryz.func26, Tryz.ntmps26
    go_wp2_with (go_at_call 45; refine HL.out.mono ?_; rintro e w1 ⟨rfl, q, rfl⟩; have c0' : (w.drewN q).cell? ⟨g, 0, none⟩ = some (.slice (some ⟨blk, off, none⟩) cs.length cap) := c0; have c1' : (w.drewN q).cell? ⟨g, 1, none⟩ = some (.int .i64 k) := c1; have f1' : (w.drewN q).frozen? ⟨g, 1, none⟩ = false := hf; have cc' : (w.drewN q).cell? ⟨blk, off + k, none⟩ = some (.int .u8 c) := hcell)
    have hk1 : (k : Int) + 1 - 1 = (k : Int) := by omega
    have i1 : (k : Int) < (cs.length : Int) := by omega
    have i2 : (0 : Int) ≤ (k : Int) := by omega
    have m0 : ((w.drewN q).setCell ⟨g, 1, none⟩ (.int .i64 ((k : Int) + 1))).cell? ⟨g, 0, none⟩ = some (.slice (some ⟨blk, off, none⟩) cs.length cap) := by
      rw [World.cell?_setCell_other _ _ _ _ (by intro h; simp only [Addr.mk.injEq] at h; omega)]; exact c0
    have m1 : ((w.drewN q).setCell ⟨g, 1, none⟩ (.int .i64 ((k : Int) + 1))).cell? ⟨g, 1, none⟩ = some (.int .i64 ((k : Int) + 1)) := World.cell?_setCell_same _ _ _ c1'
    have m2 : ∀ i, i < cs.length → ((w.drewN q).setCell ⟨g, 1, none⟩ (.int .i64 ((k : Int) + 1))).cell? ⟨blk, off + i, none⟩ = w.cell? ⟨blk, off + i, none⟩ := fun i _ => by
      rw [World.cell?_setCell_other _ _ _ _ (by intro h; simp only [Addr.mk.injEq] at h; omega)]; rfl
    have m3 : ((w.drewN q).setCell ⟨g, 1, none⟩ (.int .i64 ((k : Int) + 1))).cell? ⟨blk, off + k, none⟩ = some (.int .u8 c) := (m2 k hlt).trans hcell
    have m4 : ((w.drewN q).setCell ⟨g, 1, none⟩ (.int .i64 ((k : Int) + 1))).frozen? ⟨g, 1, none⟩ = false := by rw [World.frozen?_setCell]; exact hf
    have hsz : ((w.drewN q).setCell ⟨g, 1, none⟩ (.int .i64 ((k : Int) + 1))).heap.size = w.heap.size := by simp
    have HAP : Hid (Apart g w ((w.drewN q).setCell ⟨g, 1, none⟩ (.int .i64 ((k : Int) + 1)))) := (show Apart g w ((w.drewN q).setCell ⟨g, 1, none⟩ (.int .i64 ((k : Int) + 1))) from ⟨(below_drewN (Below.refl _ _) q).setCell (p := ⟨g, 1, none⟩) (Nat.le_refl _) _, fun j h1 _ => (Below.heap_setCell _ _ _ j (by simp; omega)).trans rfl⟩)
    have HNEW : Hid (CodesAt ((w.drewN q).setCell ⟨g, 1, none⟩ (.int .i64 ((k : Int) + 1))) g) := (show CodesAt ((w.drewN q).setCell ⟨g, 1, none⟩ (.int .i64 ((k : Int) + 1))) g from
      ⟨by rw [hsz]; exact hg, m4, _, cap, cs, k + 1, m0, m1, by omega, hl, fun _ => ⟨blk, off, rfl, hbg, HBA.out.below m2⟩⟩)
    clear m2 HCA
    go_quiet (fail)
    go_wp2_with fail
    go_ret
    have hb : ∀ W : World, Below W.heap.size W (W.drewN nq) := fun W => below_drewN (Below.refl _ _) nq
    exact ⟨c % n, Nat.mod_lt _ hn, rfl, HNEW.out.below (hb _), HAP.out.trans (Apart.of_below (hb _) HNEW.out.1)⟩
  · have HL := Lib.hid (left_any g w a cap cs.length k false c0 c1 (decide_eq_false (by omega)))
    clear hcs
    go_enter Tryz.func26, Tryz.ntmps26
    go_wp2_with (go_at_call 45; refine HL.out.mono ?_; rintro e w1 ⟨rfl, q, rfl⟩)
    go_ret
    have hb : Below w.heap.size w (w.drewN q) := below_drewN (Below.refl _ _) q
    exact ⟨0, hn, rfl, HCA.out.below hb, Apart.of_below hb hg⟩

theorem pick_any (g b cap : Nat) (fs : List (List UInt8)) (w : World) (hc : CodesAt w g) (hb : b ≠ g) (hbl : b < w.heap.size) (hs : ∀ i (h : i < fs.length), w.cell? ⟨b, i, none⟩ = some (.string ⟨(fs[i]).toArray⟩)) (h0 : 0 < fs.length) (h1 : fs.length ≤ 1000) :
    Calls Tryz.prog 22 #[.pointer (some ⟨g, 0, none⟩), .slice (some ⟨b, 0, none⟩) fs.length cap] w fun e w' => ∃ k, ∃ h : k < fs.length, e = .returned (.string ⟨(fs[k]).toArray⟩) ∧ CodesAt w' g ∧ Apart g w w' := by
  have HN := Lib.hid (next_any g fs.length w hc h0 (by omega))
  have HS := Lib.hid hs
  clear hs hc
  go_enter Tryz.func22, Tryz.ntmps22
  go_wp2_with (go_at_call 26; refine HN.out.mono ?_)
  rintro e w1 ⟨k, hk, rfl, hca, hap⟩
  have HC := Lib.hid hca
  have HP := Lib.hid hap
  have hcell : w1.cell? ⟨b, k, none⟩ = some (.string ⟨(fs[k]).toArray⟩) := (hap.cell (p := ⟨b, k, none⟩) hb hbl).trans (HS.out k hk)
  have i1 : (k : Int) < (fs.length : Int) := by omega
  have i2 : (0 : Int) ≤ (k : Int) := by omega
  have HG : Hid (∃ f, fs[k] = f) := (show ∃ f, fs[k] = f from ⟨_, rfl⟩)
  obtain ⟨f, hf⟩ := HG.out
  have HF := Lib.hid hf
  rw [hf] at hcell
  clear hca hap hf
  go_wp2_with fail
  go_ret
  exact ⟨k, hk, by rw [HF.out]; rfl, HC.out, HP.out⟩

theorem new_codes (w : World) (a : Option Addr) (cap : Nat) (cs : List UInt8) (hl : cs.length ≤ 1000) (hc : 0 < cs.length → ∃ blk off, a = some ⟨blk, off, none⟩ ∧ blk < w.heap.size ∧ BA w blk off cs) :
    CodesAt (w.alloc (.cells #[.slice a cs.length cap, .int .i64 0] 55)) w.heap.size := by
  refine ⟨by simp, by simp [go_sem], a, cap, cs, 0, by simp [go_sem], by simp [go_sem], by omega, hl, fun h => ?_⟩
  obtain ⟨blk, off, e, hb, hba⟩ := hc h
  exact ⟨blk, off, e, hb, hba.below fun i _ => ((Below.refl _ w).alloc (Nat.le_refl _) _).cell (p := ⟨blk, off + i, none⟩) hb⟩

theorem new_any (v : Value) (cs : List UInt8) (m : Nat) (w : World) (hb : BS w v cs) (hm : m ≤ 1000) :
    Calls Tryz.prog 7 #[v, .int .i64 m] w fun e w' => e = .returned (.pointer (some ⟨w.heap.size, 0, none⟩)) ∧ CodesAt w' w.heap.size ∧ Below w.heap.size w w' := by
  obtain ⟨a, cap, rfl, hcap, hc⟩ := hb
  have HC := Lib.hid hc
  clear hc
  by_cases hlt : m < cs.length
  · obtain ⟨blk, off, rfl, hbl, hba⟩ := HC.out (by omega)
    have d1 : decide ((m : Int) < (cs.length : Int)) = true := decide_eq_true (by omega)
    have d2 : (m : Int) ≤ (cap : Int) := by omega
    have d3 : (0 : Int) ≤ (m : Int) := by omega
    have htl : (cs.take m).length = m := by rw [List.length_take]; omega
    have HN : Hid (CodesAt (w.alloc (.cells #[.slice (some ⟨blk, off, none⟩) m cap, .int .i64 0] 55)) w.heap.size) := by
      have h := new_codes w (some ⟨blk, off, none⟩) cap (cs.take m) (by omega) (fun _ => ⟨blk, off, rfl, hbl, fun i hi => by
        rw [htl] at hi
        rw [hba i (by omega), Asc.at_of (show i < cs.length by omega), Asc.at_of (show i < (cs.take m).length by omega)]
        simp⟩)
      rw [htl] at h
      exact h
    clear HC htl hba
    go_enter Tryz.func7, Tryz.ntmps7
    go_wp2_with fail
    go_ret
    exact ⟨rfl, HN.out, (Below.refl _ _).alloc (Nat.le_refl _) _⟩
  · have d1 : decide ((m : Int) < (cs.length : Int)) = false := decide_eq_false (by omega)
    have HN := Lib.hid (new_codes w a cap cs (by omega) HC.out)
    clear HC
    go_enter Tryz.func7, Tryz.ntmps7
    go_wp2_with fail
    go_ret
    exact ⟨rfl, HN.out, (Below.refl _ _).alloc (Nat.le_refl _) _⟩

theorem CodesAt.of_below {w w' : World} {g B : Nat} (h : CodesAt w g) (hB : g < B) (hb : Below B w w') : CodesAt w' g := by
  obtain ⟨h1, h2, a, cap, cs, k, c0, c1, hk, hl, hc⟩ := h
  refine ⟨Nat.lt_of_lt_of_le h1 hb.size, (hb.frozen (p := ⟨g, 1, none⟩) hB).trans h2, a, cap, cs, k, (hb.cell (p := ⟨g, 0, none⟩) hB).trans c0, (hb.cell (p := ⟨g, 1, none⟩) hB).trans c1, hk, hl, fun h0 => ?_⟩
  obtain ⟨blk, off, e, hlt, hba⟩ := hc h0
  exact ⟨blk, off, e, hlt, hba.below fun i _ => hb.cell (p := ⟨blk, off + i, none⟩) (Nat.lt_trans hlt hB)⟩
theorem own_keep {W W' : World} {B E s n : Nat} {v : Value} {xs : List Value} (h : W.ownsRow B E s v n xs) (hb : ∀ k, B ≤ k → k < W.heap.size → W'.heap[k]? = W.heap[k]?) : W'.ownsRow B E s v n xs := by
  obtain ⟨h1, h2⟩ := h
  refine ⟨h1, h2.imp id ?_⟩
  rintro ⟨g, cap, cur, rfl, hB, hg, rest⟩
  refine ⟨g, cap, cur, rfl, hB, ?_, rest⟩
  rw [hb g hB ?_]
  · exact hg
  · rcases Nat.lt_or_ge g W.heap.size with c | c
    · exact c
    · rw [Array.getElem?_eq_none c] at hg; cases hg

def PickP (g : Nat) (W : World) (fs : List (List UInt8)) (e : Ending) (w' : World) : Prop := ∃ x, x ∈ fs ∧ e = .returned (.string ⟨x.toArray⟩) ∧ CodesAt w' g ∧ Apart g W w'
theorem pickF (g : Nat) (W : World) (fs : List (List UInt8)) (hc : CodesAt W g) (h0 : 0 < fs.length) (h1 : fs.length ≤ 1000) :
    Calls Tryz.prog 22 #[.pointer (some ⟨g, 0, none⟩), .slice (some ⟨W.heap.size, 0, none⟩) fs.length fs.length] (W.alloc (.cells (fs.map fun f => Value.string ⟨f.toArray⟩).toArray 9)) (PickP g W fs) := by
  have hb : Below W.heap.size W (W.alloc (.cells (fs.map fun f => Value.string ⟨f.toArray⟩).toArray 9)) := (Below.refl _ W).alloc (Nat.le_refl _) _
  refine (pick_any g W.heap.size fs.length fs _ (hc.below hb) (by have := hc.1; omega) (by simp) (fun i h => ?_) h0 h1).mono fun e w' ⟨k, hk, he, h2, h3⟩ => ⟨fs[k], List.getElem_mem hk, he, h2, (Apart.of_below hb hc.1).trans h3⟩
  simp [go_sem, h]

end Go.Proofs.YtgcpinnnfoanjaaGreatDoor

/-
  strings.IndexAny where the bytes ahead of the first hit are ASCII; the list of choices (Left, Next, Pick, New of package logtidemake).
-/
import Derived.Test.YtfdbjgdafolbmaaDoorParL
import Derived.Deep.WholeRow
namespace Go.Proofs.YtfdbjgdafolbmaaDoor
open Go.RowKit

set_option maxHeartbeats 1000000 in
set_option maxRecDepth 1000000 in
theorem indexAny_short_at (s : ByteArray) (n : Nat) (w : World) (h8 : s.size ≤ 8) (hn : n < s.size) (hb : ∀ i (h : i < s.size), i < n → (s[i]).toNat < 128 ∧ s[i] ≠ 61 ∧ s[i] ≠ 32) (hc : s[n] = 61) :
    Calls Tryd.prog 41 #[.string s, .string ⟨#[61, 32]⟩] w fun e w' => e = .returned (.int .i64 (n : Int)) ∧ ∃ pos, w' = w.iter s pos := by
  have HB := Lib.hid hb
  have HC := Lib.hid hc
  have h8z : decide ((8 : Int) < (s.size : Int)) = false := decide_eq_false (by omega)
  clear hb hc
  go_enter Tryd.func41, Tryd.ntmps41
  go_wp2_with (go_at_call 60; refine (Tryd.strings_shouldUseASCIISet _ _).mono ?_; rintro e w' ⟨rfl, hw⟩; rw [hw, h8z])
  go_loopg [9, 10] n (fun g _ _ wx => ∃ i : Nat, i + g = n ∧ wx = w.iter s i)
  case atStart => exact ⟨0, by omega, rfl⟩
  case round =>
    obtain ⟨i, hig, rfl⟩ := hrel
    cases gk with
    | zero =>
      obtain rfl : i = n := by omega
      have hnx := fun ty => run_next_ascii (P := Tryd.prog) w s i ty hn (by rw [HC.out]; decide)
      rw [HC.out] at hnx
      go_wp2_with (go_at_call 59; refine (Tryd.strings_IndexRune_ascii _ _ _ (by decide) (by decide)).mono ?_; rintro e w' ⟨rfl, hw⟩; rw [hw])
      go_ret
      exact ⟨rfl, _, rfl⟩
    | succ g =>
      have hi : i < s.size := by omega
      obtain ⟨x1, x2, x3⟩ := HB.out i hi (by omega)
      obtain ⟨x, hx⟩ : ∃ x : UInt8, s[i]'hi = x := ⟨_, rfl⟩
      rw [hx] at x1 x2 x3
      have hnx := fun ty => run_next_ascii (P := Tryd.prog) w s i ty hi (by rw [hx]; exact x1)
      rw [hx] at hnx
      have hback : ((x.toNat : Int)).toNat.toUInt8 = x := by simp
      have hno : Lib.indexByte [61, 32] x = -1 := by
        simp [Lib.indexByte, Ne.symm x2, Ne.symm x3]
      have hno' : Lib.indexByte (ByteArray.mk #[61, 32]).data.toList x = -1 := hno
      clear hx x2 x3 hno
      go_wp2_with (go_at_call 59; refine (Tryd.strings_IndexRune_ascii _ _ _ (by omega) (by omega)).mono ?_; rintro e w' ⟨rfl, hw⟩; rw [hw, hback, hno'])
      go_roundg g
      case measure => omega
      case rel => exact ⟨i + 1, by omega, rfl⟩

theorem indexAny_head (nm r : List UInt8) (w : World) (hn : ∀ j (h : j < nm.length), (nm[j]).toNat < 128 ∧ nm[j] ≠ 61 ∧ nm[j] ≠ 32) (hl : nm.length + r.length ≤ 1000000) :
    Calls Tryd.prog 41 #[.string ⟨(nm ++ 61 :: r).toArray⟩, .string ⟨#[61, 32]⟩] w fun e w' => e = .returned (.int .i64 (nm.length : Int)) ∧ Below w.heap.size w w' := by
  have hsz : (ByteArray.mk (nm ++ 61 :: r).toArray).size = nm.length + r.length + 1 := by rw [ba_size]; simp; omega
  by_cases h8 : (ByteArray.mk (nm ++ 61 :: r).toArray).size ≤ 8
  · refine (indexAny_short_at ⟨(nm ++ 61 :: r).toArray⟩ nm.length w h8 (by omega) (fun i h hi => ?_) ?_).mono fun e w' ⟨h1, pos, h2⟩ => ⟨h1, ?_⟩
    · have e : (ByteArray.mk (nm ++ 61 :: r).toArray)[i] = nm[i] := by
        show (nm ++ 61 :: r).toArray[i]'_ = _
        simp [hi]
      rw [e]
      exact hn i hi
    · show (nm ++ 61 :: r).toArray[nm.length]'_ = _
      simp
    · rw [h2]
      exact (Below.refl _ _).alloc (Nat.le_refl _) _
  · refine (Tryd.strings_IndexAny_long (zero_of_info (n := 256) (by kernel_rfl)).1 ⟨(nm ++ 61 :: r).toArray⟩ ⟨#[61, 32]⟩ w (by decide) (by omega) (by omega) (by decide) ?_).mono fun e w' ⟨h1, h2⟩ => ⟨?_, ?_⟩
    · intro j b hb
      have : b = 61 ∨ b = 32 := by
        have := List.mem_of_getElem? hb
        simpa using this
      rcases this with rfl | rfl <;> decide
    · rw [h1, Lib.indexAny_hit (i := nm.length) (x := 61) ?_ ?_ (by decide)]
      · intro j b hj hb
        simp only [List.getElem?_append_left hj] at hb
        obtain ⟨h', rfl⟩ := List.getElem?_eq_some_iff.1 hb
        obtain ⟨_, y1, y2⟩ := hn j h'
        simp [y1, y2]
      · simp
    · rw [h2]
      exact ((Below.refl _ _).alloc (Nat.le_refl _) _).alloc (by simp) _

/-- The list of choices at the block g. -/
def CodesAt (w : World) (g : Nat) : Prop := g < w.heap.size ∧ w.frozen? ⟨g, 1, none⟩ = false ∧ ∃ a cap, ∃ cs : List UInt8, ∃ k : Nat, w.cell? ⟨g, 0, none⟩ = some (.slice a cs.length cap) ∧ w.cell? ⟨g, 1, none⟩ = some (.int .i64 k) ∧
  k ≤ cs.length ∧ cs.length ≤ 1000 ∧ (0 < cs.length → ∃ blk off, a = some ⟨blk, off, none⟩ ∧ blk < g ∧ BA w blk off cs)
/-- Nothing but the block g was changed. -/
def Apart (g : Nat) (w w' : World) : Prop := Below g w w' ∧ ∀ k, g < k → k < w.heap.size → w'.heap[k]? = w.heap[k]?

theorem Apart.refl (g : Nat) (w : World) : Apart g w w := ⟨Below.refl _ _, fun _ _ _ => rfl⟩
theorem Apart.trans {g : Nat} {a b c : World} (h : Apart g a b) (k : Apart g b c) : Apart g a c := ⟨h.1.trans k.1, fun i h1 h2 => (k.2 i h1 (Nat.lt_of_lt_of_le h2 h.1.size)).trans (h.2 i h1 h2)⟩
theorem Apart.block {g : Nat} {w w' : World} (h : Apart g w w') {k : Nat} (hk : k ≠ g) (hl : k < w.heap.size) : w'.heap[k]? = w.heap[k]? := by
  rcases Nat.lt_or_gt_of_ne hk with h1 | h1
  · exact h.1.block k h1
  · exact h.2 k h1 hl
theorem Apart.cell {g : Nat} {w w' : World} (h : Apart g w w') {p : Addr} (hk : p.block ≠ g) (hl : p.block < w.heap.size) : w'.cell? p = w.cell? p := World.cell?_of_block (w := w) (h.block hk hl)
theorem Apart.of_below {g : Nat} {w w' : World} (h : Below w.heap.size w w') (hg : g < w.heap.size) : Apart g w w' := ⟨h.mono (Nat.le_of_lt hg), fun k _ hk => h.block k hk⟩
theorem Apart.below {g B : Nat} {w0 w w' : World} (h : Below B w0 w) (k : Apart g w w') (hB : B ≤ g) : Below B w0 w' := h.trans (k.1.mono hB)

theorem CodesAt.below {w w' : World} {g : Nat} (h : CodesAt w g) (hb : Below w.heap.size w w') : CodesAt w' g := by
  obtain ⟨h1, h2, a, cap, cs, k, c0, c1, hk, hl, hc⟩ := h
  refine ⟨Nat.lt_of_lt_of_le h1 hb.size, (hb.frozen (p := ⟨g, 1, none⟩) h1).trans h2, a, cap, cs, k, (hb.cell (p := ⟨g, 0, none⟩) h1).trans c0, (hb.cell (p := ⟨g, 1, none⟩) h1).trans c1, hk, hl, fun h0 => ?_⟩
  obtain ⟨blk, off, e, hlt, hba⟩ := hc h0
  exact ⟨blk, off, e, hlt, hba.below fun i _ => hb.cell (p := ⟨blk, off + i, none⟩) (Nat.lt_trans hlt h1)⟩

theorem left_any (g : Nat) (w : World) (a : Option Addr) (cap n k : Nat) (b : Bool) (h0 : w.cell? ⟨g, 0, none⟩ = some (.slice a n cap)) (h1 : w.cell? ⟨g, 1, none⟩ = some (.int .i64 k)) (hb : decide ((k : Int) < (n : Int)) = b) :
    Calls Tryd.prog 25 #[.pointer (some ⟨g, 0, none⟩)] w fun e w' => e = .returned (.bool b) ∧ ∃ q, w' = w.drewN q := by
  go_enter Tryd.func25, Tryd.ntmps25
  go_wp2_with fail
  go_quiet (fail)
  go_wp2_with fail
  go_ret
  refine ⟨?_, _, rfl⟩
  rw [← hb]
  simp [go_sem]

set_option maxHeartbeats 1000000 in
theorem next_any (g n : Nat) (w : World) (hc : CodesAt w g) (hn : 0 < n) (hn2 : n ≤ 1000000) :
    Calls Tryd.prog 13 #[.pointer (some ⟨g, 0, none⟩), .int .i64 n] w fun e w' => ∃ k : Nat, k < n ∧ e = .returned (.int .i64 k) ∧ CodesAt w' g ∧ Apart g w w' := by
  have HCA := Lib.hid hc
  obtain ⟨hg, hf, a, cap, cs, k, c0, c1, hk, hl, hcs⟩ := hc
  have t1 : decide ((n : Int) < 1) = false := decide_eq_false (by omega)
  by_cases hlt : k < cs.length
  · have HL := Lib.hid (left_any g w a cap cs.length k true c0 c1 (decide_eq_true (by omega)))
    obtain ⟨blk, off, rfl, hbg, hba⟩ := hcs (by omega)
    have HBA := Lib.hid hba
    have hcell := hba k hlt
    have hle := Asc.at_le hlt
    generalize Asc.at_ cs k = c at *
    have hn0 : ((n : Int) == 0) = false := by rw [beq_eq_false_iff_ne]; omega
    clear hba hcs
    go_enter Tryd.func13, Tryd.ntmps13
    go_wp2_with (go_at_call 25; refine HL.out.mono ?_; rintro e w1 ⟨rfl, q, rfl⟩; have c0' : (w.drewN q).cell? ⟨g, 0, none⟩ = some (.slice (some ⟨blk, off, none⟩) cs.length cap) := c0; have c1' : (w.drewN q).cell? ⟨g, 1, none⟩ = some (.int .i64 k) := c1; have f1' : (w.drewN q).frozen? ⟨g, 1, none⟩ = false := hf; have cc' : (w.drewN q).cell? ⟨blk, off + k, none⟩ = some (.int .u8 c) := hcell)
    have hk1 : (k : Int) + 1 - 1 = (k : Int) := by omega
    have i1 : (k : Int) < (cs.length : Int) := by omega
    have i2 : (0 : Int) ≤ (k : Int) := by omega
    have m0 : ((w.drewN q).setCell ⟨g, 1, none⟩ (.int .i64 ((k : Int) + 1))).cell? ⟨g, 0, none⟩ = some (.slice (some ⟨blk, off, none⟩) cs.length cap) := by
      rw [World.cell?_setCell_other _ _ _ _ (by intro h; simp only [Addr.mk.injEq] at h; omega)]; exact c0
    have m1 : ((w.drewN q).setCell ⟨g, 1, none⟩ (.int .i64 ((k : Int) + 1))).cell? ⟨g, 1, none⟩ = some (.int .i64 ((k : Int) + 1)) := World.cell?_setCell_same _ _ _ c1'
    have m2 : ∀ i, i < cs.length → ((w.drewN q).setCell ⟨g, 1, none⟩ (.int .i64 ((k : Int) + 1))).cell? ⟨blk, off + i, none⟩ = w.cell? ⟨blk, off + i, none⟩ := fun i _ => by
      rw [World.cell?_setCell_other _ _ _ _ (by intro h; simp only [Addr.mk.injEq] at h; omega)]; rfl
    have m3 : ((w.drewN q).setCell ⟨g, 1, none⟩ (.int .i64 ((k : Int) + 1))).cell? ⟨blk, off + k, none⟩ = some (.int .u8 c) := (m2 k hlt).trans hcell
    have m4 : ((w.drewN q).setCell ⟨g, 1, none⟩ (.int .i64 ((k : Int) + 1))).frozen? ⟨g, 1, none⟩ = false := by rw [World.frozen?_setCell]; exact hf
    have hsz : ((w.drewN q).setCell ⟨g, 1, none⟩ (.int .i64 ((k : Int) + 1))).heap.size = w.heap.size := by simp
    have HAP : Hid (Apart g w ((w.drewN q).setCell ⟨g, 1, none⟩ (.int .i64 ((k : Int) + 1)))) := (show Apart g w ((w.drewN q).setCell ⟨g, 1, none⟩ (.int .i64 ((k : Int) + 1))) from ⟨(below_drewN (Below.refl _ _) q).setCell (p := ⟨g, 1, none⟩) (Nat.le_refl _) _, fun j h1 _ => (Below.heap_setCell _ _ _ j (by simp; omega)).trans rfl⟩)
    have HNEW : Hid (CodesAt ((w.drewN q).setCell ⟨g, 1, none⟩ (.int .i64 ((k : Int) + 1))) g) := (show CodesAt ((w.drewN q).setCell ⟨g, 1, none⟩ (.int .i64 ((k : Int) + 1))) g from
      ⟨by rw [hsz]; exact hg, m4, _, cap, cs, k + 1, m0, m1, by omega, hl, fun _ => ⟨blk, off, rfl, hbg, HBA.out.below m2⟩⟩)
    clear m2 HCA
    go_quiet (fail)
    go_wp2_with fail
    go_ret
    have hb : ∀ W : World, Below W.heap.size W (W.drewN nq) := fun W => below_drewN (Below.refl _ _) nq
    exact ⟨c % n, Nat.mod_lt _ hn, rfl, HNEW.out.below (hb _), HAP.out.trans (Apart.of_below (hb _) HNEW.out.1)⟩
  · have HL := Lib.hid (left_any g w a cap cs.length k false c0 c1 (decide_eq_false (by omega)))
    clear hcs
    go_enter Tryd.func13, Tryd.ntmps13
    go_wp2_with (go_at_call 25; refine HL.out.mono ?_; rintro e w1 ⟨rfl, q, rfl⟩)
    go_ret
    have hb : Below w.heap.size w (w.drewN q) := below_drewN (Below.refl _ _) q
    exact ⟨0, hn, rfl, HCA.out.below hb, Apart.of_below hb hg⟩

theorem pick_any (g b cap : Nat) (fs : List (List UInt8)) (w : World) (hc : CodesAt w g) (hb : b ≠ g) (hbl : b < w.heap.size) (hs : ∀ i (h : i < fs.length), w.cell? ⟨b, i, none⟩ = some (.string ⟨(fs[i]).toArray⟩)) (h0 : 0 < fs.length) (h1 : fs.length ≤ 1000) :
    Calls Tryd.prog 9 #[.pointer (some ⟨g, 0, none⟩), .slice (some ⟨b, 0, none⟩) fs.length cap] w fun e w' => ∃ k, ∃ h : k < fs.length, e = .returned (.string ⟨(fs[k]).toArray⟩) ∧ CodesAt w' g ∧ Apart g w w' := by
  have HN := Lib.hid (next_any g fs.length w hc h0 (by omega))
  have HS := Lib.hid hs
  clear hs hc
  go_enter Tryd.func9, Tryd.ntmps9
  go_wp2_with (go_at_call 13; refine HN.out.mono ?_)
  rintro e w1 ⟨k, hk, rfl, hca, hap⟩
  have HC := Lib.hid hca
  have HP := Lib.hid hap
  have hcell : w1.cell? ⟨b, k, none⟩ = some (.string ⟨(fs[k]).toArray⟩) := (hap.cell (p := ⟨b, k, none⟩) hb hbl).trans (HS.out k hk)
  have i1 : (k : Int) < (fs.length : Int) := by omega
  have i2 : (0 : Int) ≤ (k : Int) := by omega
  have HG : Hid (∃ f, fs[k] = f) := (show ∃ f, fs[k] = f from ⟨_, rfl⟩)
  obtain ⟨f, hf⟩ := HG.out
  have HF := Lib.hid hf
  rw [hf] at hcell
  clear hca hap hf
  go_wp2_with fail
  go_ret
  exact ⟨k, hk, by rw [HF.out]; rfl, HC.out, HP.out⟩

theorem new_codes (w : World) (a : Option Addr) (cap : Nat) (cs : List UInt8) (hl : cs.length ≤ 1000) (hc : 0 < cs.length → ∃ blk off, a = some ⟨blk, off, none⟩ ∧ blk < w.heap.size ∧ BA w blk off cs) :
    CodesAt (w.alloc (.cells #[.slice a cs.length cap, .int .i64 0] 50)) w.heap.size := by
  refine ⟨by simp, by simp [go_sem], a, cap, cs, 0, by simp [go_sem], by simp [go_sem], by omega, hl, fun h => ?_⟩
  obtain ⟨blk, off, e, hb, hba⟩ := hc h
  exact ⟨blk, off, e, hb, hba.below fun i _ => ((Below.refl _ w).alloc (Nat.le_refl _) _).cell (p := ⟨blk, off + i, none⟩) hb⟩

theorem new_any (v : Value) (cs : List UInt8) (m : Nat) (w : World) (hb : BS w v cs) (hm : m ≤ 1000) :
    Calls Tryd.prog 8 #[v, .int .i64 m] w fun e w' => e = .returned (.pointer (some ⟨w.heap.size, 0, none⟩)) ∧ CodesAt w' w.heap.size ∧ Below w.heap.size w w' := by
  obtain ⟨a, cap, rfl, hcap, hc⟩ := hb
  have HC := Lib.hid hc
  clear hc
  by_cases hlt : m < cs.length
  · obtain ⟨blk, off, rfl, hbl, hba⟩ := HC.out (by omega)
    have d1 : decide ((m : Int) < (cs.length : Int)) = true := decide_eq_true (by omega)
    have d2 : (m : Int) ≤ (cap : Int) := by omega
    have d3 : (0 : Int) ≤ (m : Int) := by omega
    have htl : (cs.take m).length = m := by rw [List.length_take]; omega
    have HN : Hid (CodesAt (w.alloc (.cells #[.slice (some ⟨blk, off, none⟩) m cap, .int .i64 0] 50)) w.heap.size) := by
      have h := new_codes w (some ⟨blk, off, none⟩) cap (cs.take m) (by omega) (fun _ => ⟨blk, off, rfl, hbl, fun i hi => by
        rw [htl] at hi
        rw [hba i (by omega), Asc.at_of (show i < cs.length by omega), Asc.at_of (show i < (cs.take m).length by omega)]
        simp⟩)
      rw [htl] at h
      exact h
    clear HC htl hba
    go_enter Tryd.func8, Tryd.ntmps8
    go_wp2_with fail
    go_ret
    exact ⟨rfl, HN.out, (Below.refl _ _).alloc (Nat.le_refl _) _⟩
  · have d1 : decide ((m : Int) < (cs.length : Int)) = false := decide_eq_false (by omega)
    have HN := Lib.hid (new_codes w a cap cs (by omega) HC.out)
    clear HC
    go_enter Tryd.func8, Tryd.ntmps8
    go_wp2_with fail
    go_ret
    exact ⟨rfl, HN.out, (Below.refl _ _).alloc (Nat.le_refl _) _⟩

end Go.Proofs.YtfdbjgdafolbmaaDoor

/-
  ParsePairs' walk: what the loop keeps.
-/
import Derived.Test.YtfdbjgdafolbmaaDoorParP
import Derived.Deep.RegionHeld3
namespace Go.Proofs.YtfdbjgdafolbmaaDoor
open Go.RowKit Go.Sort Go.Shelf

theorem CodesAt.of_below {w w' : World} {g B : Nat} (h : CodesAt w g) (hB : g < B) (hb : Below B w w') : CodesAt w' g := by
  obtain ⟨h1, h2, a, cap, cs, k, c0, c1, hk, hl, hc⟩ := h
  refine ⟨Nat.lt_of_lt_of_le h1 hb.size, (hb.frozen (p := ⟨g, 1, none⟩) hB).trans h2, a, cap, cs, k, (hb.cell (p := ⟨g, 0, none⟩) hB).trans c0, (hb.cell (p := ⟨g, 1, none⟩) hB).trans c1, hk, hl, fun h0 => ?_⟩
  obtain ⟨blk, off, e, hlt, hba⟩ := hc h0
  exact ⟨blk, off, e, hlt, hba.below fun i _ => hb.cell (p := ⟨blk, off + i, none⟩) (Nat.lt_trans hlt hB)⟩
theorem own_keep {W W' : World} {B E s n : Nat} {v : Value} {xs : List Value} (h : W.ownsRow B E s v n xs) (hb : ∀ k, B ≤ k → k < W.heap.size → W'.heap[k]? = W.heap[k]?) : W'.ownsRow B E s v n xs := by
  obtain ⟨h1, h2⟩ := h
  refine ⟨h1, h2.imp id ?_⟩
  rintro ⟨g, cap, cur, rfl, hB, hg, rest⟩
  refine ⟨g, cap, cur, rfl, hB, ?_, rest⟩
  rw [hb g hB ?_]
  · exact hg
  · rcases Nat.lt_or_ge g W.heap.size with c | c
    · exact c
    · rw [Array.getElem?_eq_none c] at hg; cases hg

/-- The fields so far, the list of choices at g, the names at nb. -/
structure PI (w : World) (g nb : Nat) (out : List Fd) (v : Value) (W : World) : Prop where
  own : W.ownsRow (nb + 1) 30 2 v out.length (cellsF out)
  below : Below w.heap.size w W
  codes : CodesAt W g
  names : ∀ i (h : i < pNames.length), W.cell? ⟨nb, i, none⟩ = some (.string ⟨(pNames[i]).toArray⟩)
  big : nb + 1 ≤ W.heap.size
theorem PI.later {w : World} {g nb : Nat} {out : List Fd} {v : Value} {W W' : World} (h : PI w g nb out v W) (hb : Below W.heap.size W W') : PI w g nb out v W' :=
  ⟨own_keep h.own fun k _ hk => hb.block k hk, h.below.trans (hb.mono h.below.size), h.codes.below hb, fun i hi => (hb.cell (p := ⟨nb, i, none⟩) h.big).trans (h.names i hi), Nat.le_trans h.big hb.size⟩
theorem PI.apart {w : World} {g nb : Nat} {out : List Fd} {v : Value} {W W' : World} (h : PI w g nb out v W) (hg : w.heap.size ≤ g) (hn : g < nb) (ha : Apart g W W') (hc : CodesAt W' g) : PI w g nb out v W' :=
  ⟨own_keep h.own fun k h1 hk => ha.block (by omega) hk, Apart.below h.below ha hg, hc, fun i hi => (ha.cell (p := ⟨nb, i, none⟩) (by simp; omega) h.big).trans (h.names i hi), Nat.le_trans h.big ha.1.size⟩
theorem PI.push {w : World} {g nb : Nat} {out : List Fd} {v v' : Value} {W W' : World} {o : Obj} (h : PI w g nb out v W) (hg : w.heap.size ≤ g) (hn : g < nb) (x : Fd) (ho : W'.ownsRow (nb + 1) 30 2 v' (out.length + 1) (cellsF out ++ encF x)) (hgr : (W.alloc o).grownBy W' v.ownBlock) : PI w g nb (out ++ [x]) v' W' := by
  have hB : Below (nb + 1) W W' := ((Below.refl _ W).alloc h.big _).grown hgr (by have := h.big; simp; omega) (fun k hk => (h.own.lt k hk).1)
  refine ⟨?_, h.below.trans (hB.mono (by omega)), h.codes.of_below (by omega) hB, fun i hi => (hB.cell (p := ⟨nb, i, none⟩) (Nat.lt_succ_self _)).trans (h.names i hi), Nat.le_trans h.big hB.size⟩
  have e : cellsF (out ++ [x]) = cellsF out ++ encF x := by simp [cellsF]
  rw [e, List.length_append]
  exact ho
theorem PI.fi {w : World} {g nb : Nat} {out : List Fd} {v : Value} {W : World} (h : PI w g nb out v W) : FI W v out := by
  obtain ⟨_, ⟨e, h0⟩ | ⟨g', cap, cur, hv, _⟩⟩ := h.own
  · exact ⟨none, 0, by rw [e, h0], fun h => by omega⟩
  · subst hv
    obtain ⟨a, b, c, _⟩ := cells_ownF h.own
    refine ⟨_, cap, rfl, fun _ => ⟨g', 0, rfl, a, fun i hi => ?_⟩⟩
    rw [Nat.zero_add]
    exact ⟨c _ _ ((cellsF_at out i 0 hi (by omega)).trans rfl), c _ _ ((cellsF_at out i 1 hi (by omega)).trans rfl)⟩

def pNamesV : Array Value := #[.string ⟨#[122, 101, 116, 97]⟩, .string ⟨#[98]⟩, .string ⟨#[97, 46, 98]⟩, .string ⟨#[95]⟩, .string ⟨#[120, 49]⟩]
theorem pNames_cell (w : World) (i : Nat) (h : i < pNames.length) : (w.alloc (.cells #[.string ⟨#[122, 101, 116, 97]⟩, .string ⟨#[98]⟩, .string ⟨#[97, 46, 98]⟩, .string ⟨#[95]⟩, .string ⟨#[120, 49]⟩] 9)).cell? ⟨w.heap.size, i, none⟩ = some (.string ⟨(pNames[i]).toArray⟩) := by
  have h3 : i = 0 ∨ i = 1 ∨ i = 2 ∨ i = 3 ∨ i = 4 := by simp [pNames] at h; omega
  rcases h3 with rfl | rfl | rfl | rfl | rfl <;> simp [go_sem, pNames]
theorem PI.start {w w1 w2 : World} (h1 : Below w.heap.size w w1) (h2 : Below w1.heap.size w1 w2) (hc : CodesAt w2 w1.heap.size) :
    PI w w1.heap.size w2.heap.size [] (.slice none 0 0) (w2.alloc (.cells #[.string ⟨#[122, 101, 116, 97]⟩, .string ⟨#[98]⟩, .string ⟨#[97, 46, 98]⟩, .string ⟨#[95]⟩, .string ⟨#[120, 49]⟩] 9)) := by
  have hb : Below w.heap.size w w2 := h1.trans (h2.mono h1.size)
  exact ⟨⟨rfl, .inl ⟨rfl, rfl⟩⟩, hb.alloc hb.size _, hc.below ((Below.refl _ _).alloc (Nat.le_refl _) _), pNames_cell w2, by simp⟩
theorem pickS (g b : Nat) (W : World) (hc : CodesAt W g) (hb : b ≠ g) (hbl : b < W.heap.size) (s0 : W.cell? ⟨b, 0, none⟩ = some (.string ⟨#[32]⟩)) (s1 : W.cell? ⟨b, 1, none⟩ = some (.string ⟨#[32, 32]⟩)) :
    Calls Tryd.prog 9 #[.pointer (some ⟨g, 0, none⟩), .slice (some ⟨b, 0, none⟩) 2 2] W fun e w' => ∃ sp : List UInt8, (sp = [32] ∨ sp = [32, 32]) ∧ e = .returned (.string ⟨sp.toArray⟩) ∧ CodesAt w' g ∧ Apart g W w' :=
  (pick_any g b 2 [[32], [32, 32]] W hc hb hbl (fun i h => by
    have h3 : i = 0 ∨ i = 1 := by simp at h; omega
    rcases h3 with rfl | rfl
    · exact s0
    · exact s1) (by simp) (by simp)).mono fun e w' ⟨k, h, he, h1, h2⟩ => by
    have h3 : k = 0 ∨ k = 1 := by simp at h; omega
    rcases h3 with rfl | rfl
    · exact ⟨_, .inl rfl, he, h1, h2⟩
    · exact ⟨_, .inr rfl, he, h1, h2⟩

/-- A field more is written. -/
theorem fds_snoc (vs : List (List UInt8)) (k : Nat) (h : k < vs.length) (h5 : k < pNames.length) : fdsOf (vs.take (k + 1)) = fdsOf (vs.take k) ++ [(pNames[k], vs[k])] := by
  unfold fdsOf
  apply List.ext_getElem
  · simp; omega
  · intro i h1 h2
    simp at h1
    simp only [List.getElem_zip, List.getElem_take]
    by_cases e : i < k
    · rw [List.getElem_append_left (by simp; omega)]
      simp
    · obtain rfl : i = k := by omega
      rw [List.getElem_append_right (by simp; omega)]
      simp

structure PR (vals : List (List UInt8)) (k : Nat) (ts : List (List UInt8 × Fd)) : Prop where
  le : k ≤ vals.length
  five : k ≤ 5
  len : ts.length = k
  fd : ts.map (·.2) = fdsOf (vals.take k)
  wr : ∀ t ∈ ts, Wr t
theorem PR.next {vals : List (List UInt8)} {k : Nat} {ts : List (List UInt8 × Fd)} (h : PR vals k ts) (hk : k < vals.length) (h5 : k < pNames.length) (h60 : (vals[k]).length ≤ 60) {sp : List UInt8} (hs : sp = [32] ∨ sp = [32, 32]) : PR vals (k + 1) (ts ++ [(sp, pNames[k], vals[k])]) := by
  obtain ⟨a, b, c⟩ := pNames_wr k h5
  refine ⟨hk, h5, by rw [List.length_append, h.len]; rfl, by rw [List.map_append, h.fd, fds_snoc vals k hk h5]; rfl, fun t ht => ?_⟩
  rcases List.mem_append.1 ht with h' | h'
  · exact h.wr t h'
  · simp at h'
    subst h'
    exact ⟨hs, a, b, c, h60⟩

end Go.Proofs.YtfdbjgdafolbmaaDoor

/-
  The list of choices hands out fields.
-/
import Derived.Test.YtmcnhphmglmmeabDoorExtG
import Derived.Deep.AppendLies
namespace Go.Proofs.YtmcnhphmglmmeabDoor
open Go.RowKit

def fieldF : List (List UInt8) := [[99, 111, 100, 101], [108, 101, 118, 101, 108], [109, 115], [117, 115, 101, 114]]
/-- The fields so far, the names at the block w.heap.size. -/
structure FL (w : World) (g : Nat) (out : List Fd) (v : Value) (W : World) : Prop where
  own : W.ownsRow (w.heap.size + 1) 57 2 v out.length (cellsF out)
  apart : Apart g w W
  codes : CodesAt W g
  names : ∀ k (h : k < fieldF.length), W.cell? ⟨w.heap.size, k, none⟩ = some (.string ⟨(fieldF[k]).toArray⟩)
  big : w.heap.size + 1 ≤ W.heap.size
  vals : ∀ f ∈ out, f.2.length ≤ 1000
theorem FL.go {w W W' : World} {g : Nat} {out : List Fd} {v : Value} (h : FL w g out v W) (hg : g < w.heap.size) (ha : Apart g W W') (hc : CodesAt W' g) : FL w g out v W' :=
  ⟨own_keep h.own fun k h1 hk => ha.block (by omega) hk, h.apart.trans ha, hc, fun k hk => (ha.cell (p := ⟨w.heap.size, k, none⟩) (Nat.ne_of_gt hg) h.big).trans (h.names k hk), Nat.le_trans h.big ha.1.size, h.vals⟩
theorem FL.push {w W W' : World} {g : Nat} {out : List Fd} {v v' : Value} {o : Obj} (h : FL w g out v W) (hg : g < w.heap.size) (x : Fd) (hx : x.2.length ≤ 1000) (ho : W'.ownsRow (w.heap.size + 1) 57 2 v' (out.length + 1) (cellsF out ++ encF x)) (hgr : (W.alloc o).grownBy W' v.ownBlock) : FL w g (out ++ [x]) v' W' := by
  have hB : Below (w.heap.size + 1) W W' := ((Below.refl _ W).alloc h.big _).grown hgr (by have := h.big; simp; omega) (fun k hk => (h.own.lt k hk).1)
  refine ⟨?_, ⟨h.apart.1.trans (hB.mono (by omega)), fun k h1 h2 => (hB.block k (by omega)).trans (h.apart.2 k h1 h2)⟩, h.codes.of_below (by omega) hB, fun k hk => (hB.cell (p := ⟨w.heap.size, k, none⟩) (Nat.lt_succ_self _)).trans (h.names k hk), Nat.le_trans h.big hB.size, fun f hf => ?_⟩
  · have e : cellsF (out ++ [x]) = cellsF out ++ encF x := by simp [cellsF]
    rw [e, List.length_append]
    exact ho
  · rcases List.mem_append.1 hf with h' | h'
    · exact h.vals f h'
    · simp at h'; subst h'; exact hx
theorem FL.fi {w W : World} {g : Nat} {out : List Fd} {v : Value} (h : FL w g out v W) : FI W v out := by
  obtain ⟨_, ⟨e, h0⟩ | ⟨g', cap, cur, hv, _⟩⟩ := h.own
  · exact ⟨none, 0, by rw [e, h0], fun h => by omega⟩
  · subst hv
    obtain ⟨a, b, c, _⟩ := cells_ownF h.own
    refine ⟨_, cap, rfl, fun _ => ⟨g', 0, rfl, a, fun i hi => ?_⟩⟩
    rw [Nat.zero_add]
    exact ⟨c _ _ ((cellsF_at out i 0 hi (by omega)).trans rfl), c _ _ ((cellsF_at out i 1 hi (by omega)).trans rfl)⟩
def FldP (g : Nat) (w : World) (e : Ending) (w' : World) : Prop := ∃ v d, e = .returned v ∧ FI w' v d ∧ (∀ k, v.ownBlock = some k → w.heap.size ≤ k) ∧ d.length ≤ 4 ∧ (∀ f ∈ d, f.2.length ≤ 1000) ∧ CodesAt w' g ∧ Apart g w w'

set_option maxRecDepth 100000 in
set_option maxHeartbeats 4000000 in
theorem fields_any (g : Nat) (w : World) (hc : CodesAt w g) : Calls Tryd.prog 19 #[.pointer (some ⟨g, 0, none⟩)] w (FldP g w) := by
  have HGW := Lib.hid hc.1
  have HS : Hid (FL w g [] (.slice none 0 0) (w.alloc (.cells #[.string ⟨#[99, 111, 100, 101]⟩, .string ⟨#[108, 101, 118, 101, 108]⟩, .string ⟨#[109, 115]⟩, .string ⟨#[117, 115, 101, 114]⟩] 9))) :=
    ⟨⟨rfl, .inl ⟨rfl, rfl⟩⟩, Apart.of_below ((Below.refl _ _).alloc (Nat.le_refl _) _) hc.1, hc.al _, fun k hk => by
      match k, hk with
      | 0, _ => simp [go_sem, fieldF]
      | 1, _ => simp [go_sem, fieldF]
      | 2, _ => simp [go_sem, fieldF]
      | 3, _ => simp [go_sem, fieldF], by simp, fun f h => by simp at h⟩
  clear hc
  go_enter Tryd.func19, Tryd.ntmps19
  go_wp2_with fail
  go_loopw [3, 5] (fun v i wr => ∃ (out : List Fd) (k : Nat), i = .int .i64 k ∧ k ≤ 4 ∧ out.length ≤ k ∧ FL w g out v wr) (fun _ i _ => 4 - (intOf i).toNat)
  case atStart => exact ⟨[], 0, rfl, by omega, by simp, HS.out⟩
  case round =>
    obtain ⟨out, k, rfl, hk, hok, hF⟩ := hrel
    obtain ⟨v, rfl⟩ : ∃ v, v = u3 := ⟨_, rfl⟩
    have HF := Lib.hid hF
    clear hF HS
    by_cases hlt : k < 4
    · have i1 : (k : Int) < 4 := by omega
      have i2 : (0 : Int) ≤ (k : Int) := by omega
      go_wp2_with fail
      refine (next_any g 3 wr HF.out.codes (by omega) (by omega)).mono ?_
      rintro e w3 ⟨q, hq, rfl, hca, hap⟩
      have HF3 := Lib.hid (HF.out.go HGW.out hap hca)
      clear hca hap
      by_cases q1 : q = 1
      · subst q1
        obtain ⟨nm, hnm⟩ : ∃ nm, fieldF[k]'hlt = nm := ⟨_, rfl⟩
        have hcell0 : w3.drew.cell? ⟨w.heap.size, k, none⟩ = some (.string ⟨nm.toArray⟩) := by rw [← hnm]; exact HF3.out.names k hlt
        obtain ⟨i0, hi, hz0, hz1, hz2⟩ := info_parts infoF
        have HFD := Lib.hid (HF3.out.go (W' := w3.drew) HGW.out (Apart.of_below (Below.refl _ w3).drew HF3.out.codes.1) HF3.out.codes.dr)
        have HNM := Lib.hid hnm
        clear hnm
        go_wp2_with fail
        go_region_held3 (fun W' => W'.cell? ⟨w.heap.size, k, none⟩ = some (.string ⟨nm.toArray⟩)) (first | exact hcell0 | exact hcell4 | exact hcell5 | go_keep) (first
          | (go_at_call 12; refine (dvalue_any g _ HFD.out.codes).mono ?_; rintro e w4 ⟨x, hx, rfl, hca, hap⟩; have hcell4 : w4.cell? ⟨w.heap.size, k, none⟩ = some (.string ⟨nm.toArray⟩) := ((hap.cell (p := ⟨w.heap.size, k, none⟩) (Nat.ne_of_gt HGW.out) HFD.out.big).trans hcell0); have HF4 := Lib.hid (HFD.out.go HGW.out hap hca); have hown4 := HF4.out.own; have hbg4 := HF4.out.big; clear hca hap)
          | (refine step_append_lies _ (by rfl) _ _ _ (by rfl) (w.heap.size + 1) 57 i0 (.agg #[.string ⟨#[]⟩, .string ⟨#[]⟩]) 2 32 Tryd.underlying27 hi hz0 hz1 hz2 rfl (by decide) _ _ _ (by rfl) (hown4.alloc _) ⟨w4.heap.size, 0, none⟩ 1 1 [.string ⟨nm.toArray⟩, .string ⟨x.toArray⟩] (by rfl) rfl (World.news_of_block (heap_alloc_new w4 _)) (one_encF [(nm, x)]) (by omega) (by unfold maxLen; omega) (by omega) (by simp; omega) _ rfl ?_; intro g' cap' w5 hown5 hgrow5 hat5 hlt5; have HF5 := Lib.hid (HF4.out.push HGW.out (nm, x) (by simp; omega) hown5 hgrow5); have hcell5 : w5.cell? ⟨w.heap.size, k, none⟩ = some (.string ⟨nm.toArray⟩) := (by rw [← HNM.out]; exact HF5.out.names k hlt); clear hown5 hgrow5))
        go_wp2_with fail
        refine ⟨⟨out ++ [(nm, x)], k + 1, by go_num, by omega, by simp; omega, HF5.out⟩, by simp [intOf]; omega⟩
      · have z1 : ((q : Int) == 1) = false := by rw [beq_eq_false_iff_ne]; omega
        go_wp2_with fail
        refine ⟨⟨out, k + 1, by go_num, by omega, by omega, HF3.out⟩, by simp [intOf]; omega⟩
    · obtain rfl : k = 4 := by omega
      go_wp2_with fail
      go_ret
      exact ⟨v, out, rfl, HF.out.fi, fun k hk => by have := (HF.out.own.lt k hk).1; omega, hok, HF.out.vals, HF.out.codes, HF.out.apart⟩

end Go.Proofs.YtmcnhphmglmmeabDoor

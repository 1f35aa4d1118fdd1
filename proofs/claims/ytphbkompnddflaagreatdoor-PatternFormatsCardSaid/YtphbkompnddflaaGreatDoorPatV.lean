/-
  The maximal ranges of a set of bytes.
-/
import Derived.Test.YtphbkompnddflaaGreatDoorPatU
import Derived.Test.YtphbkompnddflaaGreatDoorPatS
namespace Go.Proofs.YtphbkompnddflaaGreatDoor
open Go.RowKit

def runTo (f : Nat → Bool) (c : Nat) : Nat := if c + 1 < 256 ∧ f (c + 1) = true then runTo f (c + 1) else c
termination_by 256 - c
theorem runTo_ge (f : Nat → Bool) (c : Nat) : c ≤ runTo f c := by
  rw [runTo]
  split
  · exact Nat.le_trans (Nat.le_succ c) (runTo_ge f (c + 1))
  · exact Nat.le_refl _
termination_by 256 - c
theorem runTo_lt (f : Nat → Bool) (c : Nat) (h : c < 256) : runTo f c < 256 := by
  rw [runTo]
  split
  · exact runTo_lt f (c + 1) (by omega)
  · exact h
termination_by 256 - c
def rngs (f : Nat → Bool) (c : Nat) : List (UInt8 × UInt8) :=
  if h : c < 256 then if f c = true then (UInt8.ofNat c, UInt8.ofNat (runTo f c)) :: rngs f (runTo f c + 1) else rngs f (c + 1) else []
termination_by 256 - c
decreasing_by
  · have := runTo_ge f c
    omega
  · omega

theorem rngs_off (f : Nat → Bool) (k : Nat) (h : k < 256) (hf : f k = false) : rngs f k = rngs f (k + 1) := by rw [rngs, dif_pos h, if_neg (by simp [hf])]
theorem rngs_on (f : Nat → Bool) (k : Nat) (h : k < 256) (hf : f k = true) : rngs f k = (UInt8.ofNat k, UInt8.ofNat (runTo f k)) :: rngs f (runTo f k + 1) := by rw [rngs, dif_pos h, if_pos hf]
theorem runTo_on (f : Nat → Bool) (m : Nat) (h : m + 1 < 256) (hf : f (m + 1) = true) : runTo f (m + 1) = runTo f m := by rw [runTo.eq_1 f m, if_pos ⟨h, hf⟩]
theorem runTo_off (f : Nat → Bool) (m : Nat) (h : m + 1 < 256 → f (m + 1) = false) : runTo f m = m := by
  rw [runTo, if_neg]
  rintro ⟨h1, h2⟩
  rw [h h1] at h2
  cases h2
theorem ofNat8 {k : Nat} (h : k < 256) : (UInt8.ofNat k).toNat = k := Asc.ofNat_toNat8 h

set_option maxHeartbeats 8000000 in
set_option maxRecDepth 1000000 in
theorem ranges_any (f : Nat → Bool) (w : World) : Calls Tryz.prog 54 #[.agg (setA f)] w fun e w' => ∃ v, e = .returned v ∧ OR w.heap.size 56 2 RgR w' (rngs f 0) v ∧ Below w.heap.size w w' := by
  go_enter Tryz.func54, Tryz.ntmps54
  go_wp2
  go_loopw [3, 4, 5] (fun l i fr wr => ∃ (k : Nat) (rs : List (UInt8 × UInt8)) (v : Value), v = l ∧ i = .int .i64 k ∧ k ≤ 256 ∧ Hid (rs ++ rngs f k = rngs f 0) ∧ rs.length ≤ k ∧ Hid (OR (w.heap.size + 1) 56 2 RgR wr rs v) ∧ Hid (wr.heap[w.heap.size]? = some (.cells (setA f) 94 (0, 0))) ∧ Hid (Below w.heap.size w wr)) (fun _ i _ _ => 256 - (intOf i).toNat)
  case atStart => exact ⟨0, [], _, rfl, rfl, by omega, Lib.hid rfl, by simp, Lib.hid OR.nil, Lib.hid (heap_alloc_new w _), Lib.hid ((Below.refl _ w).alloc (Nat.le_refl _) _)⟩
  case round =>
    obtain ⟨k, rs, v, rfl, rfl, hk, HR, hrl, HO, HB, HW⟩ := hrel
    by_cases hle : k < 256
    · have z1 : decide ((k : Int) < 256) = true := decide_eq_true (by omega)
      have y1 : decide (k < 256) = true := decide_eq_true hle
      have i1 : (k : Int) < 256 := by omega
      have i2 : (0 : Int) ≤ (k : Int) := by omega
      have hw1 : IntKind.i64.wrap ((k : Int) + 1) = (k : Int) + 1 := IntWalk.i64_in _ (by omega)
      have hc : wr.cell? ⟨w.heap.size, k, none⟩ = some (.bool (f k)) := by
        rw [cell_of_row _ _ _ _ _ _ HB.out]
        exact setA_at f hle
      cases hf : f k with
      | false =>
        rw [hf] at hc
        go_wp2_with fail
        refine ⟨⟨k + 1, rs, v, rfl, by go_num, by omega, Lib.hid (by rw [← rngs_off f k hle hf]; exact HR.out), by omega, HO, HB, HW⟩, by simp [intOf]; omega⟩
      | true =>
        rw [hf] at hc
        go_wp2_with fail
        go_loopw [4] (fun i wx => ∃ m : Nat, i = .int .i64 m ∧ k ≤ m ∧ m < 256 ∧ Hid (runTo f m = runTo f k) ∧ wr = wx) (fun i _ => 256 - (intOf i).toNat)
        case atStart => exact ⟨k, rfl, Nat.le_refl _, hle, Lib.hid rfl, rfl⟩
        case round =>
          obtain ⟨m, rfl, hm1, hm2, HM, rfl⟩ := hrel
          have hw2 : IntKind.i64.wrap ((m : Int) + 1) = (m : Int) + 1 := IntWalk.i64_in _ (by omega)
          by_cases hgo : m + 1 < 256 ∧ f (m + 1) = true
          · have x1 : decide ((m : Int) + 1 < 256) = true := decide_eq_true (by omega)
            have x2 : (m : Int) + 1 < 256 := by omega
            have x3 : (0 : Int) ≤ (m : Int) + 1 := by omega
            have x4 : ((m : Int) + 1).toNat = m + 1 := by omega
            have hc2 : wr.cell? ⟨w.heap.size, m + 1, none⟩ = some (.bool true) := by
              rw [cell_of_row _ _ _ _ _ _ HB.out, ← hgo.2]
              exact setA_at f hgo.1
            go_wp2_with fail
            refine ⟨⟨m + 1, by go_num, by omega, by omega, Lib.hid ((runTo_on f m hgo.1 hgo.2).trans HM.out), trivial⟩, by simp [intOf]; omega⟩
          · have hmr : runTo f k = m := HM.out.symm.trans (runTo_off f m fun h => by cases h3 : f (m + 1) with | false => rfl | true => exact absurd ⟨h, h3⟩ hgo)
            have hmr2 := Lib.hid hmr
            have wx : IntKind.u8.wrap (k : Int) = (k : Int) := IntWalk.u8_in _ (by omega)
            have wy : IntKind.u8.wrap (m : Int) = (m : Int) := IntWalk.u8_in _ (by omega)
            obtain ⟨i0, hi, hz0, hz1, hz2⟩ := info_parts infoR
            obtain ⟨cs, hown, hpush⟩ := HO.out.cells
            have hBW : w.heap.size + 1 ≤ wr.heap.size := (Array.getElem?_eq_some_iff.1 HB.out).1
            have one2 : ∀ u ∈ [Value.int .u8 (k : Int), .int .u8 (m : Int)], u.oneCell' = true := by
              intro u hu
              simp only [List.mem_cons, List.not_mem_nil, or_false] at hu
              rcases hu with rfl | rfl <;> rfl
            clear hmr HM
            by_cases h1 : m + 1 < 256
            · have x1 : decide ((m : Int) + 1 < 256) = true := decide_eq_true (by omega)
              have x2 : (m : Int) + 1 < 256 := by omega
              have x3 : (0 : Int) ≤ (m : Int) + 1 := by omega
              have x4 : ((m : Int) + 1).toNat = m + 1 := by omega
              have hc2 : wr.cell? ⟨w.heap.size, m + 1, none⟩ = some (.bool false) := by
                have hff : f (m + 1) = false := by cases h3 : f (m + 1) with | false => rfl | true => exact absurd ⟨h1, h3⟩ hgo
                rw [cell_of_row _ _ _ _ _ _ HB.out, ← hff]
                exact setA_at f h1
              clear hgo
              go_wp2_with (at_builtin; refine wpList_append_lies _ rfl _ _ 22 rfl (w.heap.size + 1) 56 i0 (.agg #[.int .u8 0, .int .u8 0]) 2 2 Tryz.underlying22 hi hz0 hz1 hz2 rfl (by decide) _ rs.length cs rfl (hown.alloc _) ⟨wr.heap.size, 0, none⟩ 1 1 [.int .u8 (k : Int), .int .u8 (m : Int)] rfl rfl (World.news_of_block (heap_alloc_new wr _)) one2 (by omega) (by unfold maxLen; omega) (by omega) (Nat.le_trans hBW (by simp)) _ rfl ?_; intro g6 cap6 w6 hown6 hgr6 hat6 hlt6; have HW6 := Lib.hid (push_below hgr6 hown hBW); have HO6 := Lib.hid (hpush RgR w6 (UInt8.ofNat k, UInt8.ofNat m) _ _ (fun _ _ h => h) rfl (by simp only [RgR]; rw [ofNat8 hle, ofNat8 hm2]) (by omega) hown6); clear hown6 hgr6 hat6 hlt6 hown hpush)
              refine ⟨⟨m + 1, rs ++ [(UInt8.ofNat k, UInt8.ofNat m)], _, rfl, by go_num, by omega, Lib.hid (by rw [List.append_assoc, List.singleton_append, ← HR.out, rngs_on f k hle hf, hmr2.out]), by simp; omega, HO6, Lib.hid ((HW6.out.block _ (Nat.lt_succ_self _)).trans HB.out), Lib.hid (HW.out.trans (HW6.out.mono (Nat.le_succ _)))⟩, by simp [intOf]; omega⟩
            · have x1 : decide ((m : Int) + 1 < 256) = false := decide_eq_false (by omega)
              clear hgo
              go_wp2_with (at_builtin; refine wpList_append_lies _ rfl _ _ 22 rfl (w.heap.size + 1) 56 i0 (.agg #[.int .u8 0, .int .u8 0]) 2 2 Tryz.underlying22 hi hz0 hz1 hz2 rfl (by decide) _ rs.length cs rfl (hown.alloc _) ⟨wr.heap.size, 0, none⟩ 1 1 [.int .u8 (k : Int), .int .u8 (m : Int)] rfl rfl (World.news_of_block (heap_alloc_new wr _)) one2 (by omega) (by unfold maxLen; omega) (by omega) (Nat.le_trans hBW (by simp)) _ rfl ?_; intro g6 cap6 w6 hown6 hgr6 hat6 hlt6; have HW6 := Lib.hid (push_below hgr6 hown hBW); have HO6 := Lib.hid (hpush RgR w6 (UInt8.ofNat k, UInt8.ofNat m) _ _ (fun _ _ h => h) rfl (by simp only [RgR]; rw [ofNat8 hle, ofNat8 hm2]) (by omega) hown6); clear hown6 hgr6 hat6 hlt6 hown hpush)
              refine ⟨⟨m + 1, rs ++ [(UInt8.ofNat k, UInt8.ofNat m)], _, rfl, by go_num, by omega, Lib.hid (by rw [List.append_assoc, List.singleton_append, ← HR.out, rngs_on f k hle hf, hmr2.out]), by simp; omega, HO6, Lib.hid ((HW6.out.block _ (Nat.lt_succ_self _)).trans HB.out), Lib.hid (HW.out.trans (HW6.out.mono (Nat.le_succ _)))⟩, by simp [intOf]; omega⟩
    · have z1 : decide ((k : Int) < 256) = false := decide_eq_false (by omega)
      have y1 : decide (k < 256) = false := decide_eq_false hle
      go_wp2_with fail
      go_ret
      have hr0 : rngs f k = [] := by rw [rngs, dif_neg hle]
      have := HR.out
      rw [hr0, List.append_nil] at this
      exact ⟨_, rfl, this ▸ (HO.out.own (fun _ _ => rfl) (fun _ _ h => h) _ (Nat.le_succ _)), HW.out⟩
end Go.Proofs.YtphbkompnddflaaGreatDoor

/-
  The walk of AsciiSplits.
-/
import Derived.Test.YtloilffkggkgdaaDoorAscR
namespace Go.Proofs.YtloilffkggkgdaaDoor
open Go.RowKit

theorem SS.form {w : World} {v : Value} {fs : List (List UInt8)} (h : SS w v fs) : ∃ a cap, v = .slice a fs.length cap := by
  obtain ⟨a, cap, rfl, _⟩ := h
  exact ⟨a, cap, rfl⟩
namespace Asc
theorem join_0 (fs : List (List UInt8)) (h : 0 < fs.length) : joinTo (fs.take 1) = fs[0] := by
  cases fs with
  | nil => simp at h
  | cons f fs => rfl
theorem join_s (fs : List (List UInt8)) (k : Nat) (h : k < fs.length) (h0 : 0 < k) : joinTo (fs.take (k + 1)) = joinTo (fs.take k) ++ [32] ++ fs[k] := by
  rw [snoc_take fs k h]
  exact joinTo_snoc _ _ (by intro e; have := congrArg List.length e; rw [List.length_take, List.length_nil] at this; omega)
theorem take_sum (fs : List (List UInt8)) (k : Nat) : ((fs.take k).map fun f => f.length + 1).sum ≤ (fs.map fun f => f.length + 1).sum := by
  induction fs generalizing k with
  | nil => simp
  | cons f fs ih =>
    cases k with
    | zero => simp
    | succ k => have := ih k; simp at this ⊢; omega
theorem mem_sum (fs : List (List UInt8)) (k : Nat) (h : k < fs.length) : (fs[k]).length + 1 ≤ (fs.map fun f => f.length + 1).sum := by
  induction fs generalizing k with
  | nil => simp at h
  | cons f fs ih =>
    cases k with
    | zero => simp
    | succ k => have := ih k (by simpa using h); simp at this ⊢; omega
theorem fields_bounds (l : List UInt8) : (∀ k, (joinTo ((fields l).take k)).length ≤ l.length + 1) ∧ ∀ k (h : k < (fields l).length), ((fields l)[k]).length ≤ l.length + 1 := by
  have h0 := flds_sum l []
  simp only [List.length_nil, Nat.add_zero] at h0
  refine ⟨fun k => ?_, fun k h => ?_⟩
  · exact Nat.le_trans (join_len _) (Nat.le_trans (take_sum _ k) h0)
  · have := mem_sum (fields l) k h
    unfold fields at this ⊢
    omega
end Asc

set_option maxRecDepth 100000 in
set_option maxHeartbeats 4000000 in
theorem splits_core (l : List UInt8) (c : UInt8) (w : World) (hk : Kinds w) (hs : l.length ≤ 1048576) :
    Calls Tryd.prog 8 #[.string ⟨l.toArray⟩, .int .u8 c.toNat] w fun e w' => e = .returned (.bool true) ∧ Below w.heap.size w w' := by
  have HA := Lib.hid (awake_any w hk)
  have HF := Lib.hid fun w => fields_any l w (by omega)
  have HJ := Lib.hid fun w => fields_any (Asc.joinTo (Asc.fields l)) w (by have := Asc.joined_le l; omega)
  have HR := Lib.hid fun w => rfields_any l w (by omega)
  have HC := Lib.hid fun w => cut_any l c w (by omega)
  have HD := Lib.hid fun w => rcut_any l c w (by omega)
  have HT := Lib.hid fun w => trim_any l w (by omega)
  have HU := Lib.hid fun w => rtrim_any l w (by omega)
  have HL := Lib.hid fun w => lower_any l w (by omega)
  have HM := Lib.hid fun w => rlower_any l w (by omega)
  have HS := Lib.hid fun va vb w ha hb => same_any va vb (Asc.fields l) w ha hb (by have := Asc.fields_le l; omega)
  rw [Asc.fields_again] at HJ
  have HBD := Lib.hid (Asc.fields_bounds l)
  have hjl := Asc.joined_le l
  have hfl := Asc.fields_le l
  generalize Asc.fields l = fs at *
  clear hk
  go_enter Tryd.func8, Tryd.ntmps8
  go_wp2_with (go_at_call 9; refine HA.out.mono ?_; rintro e w1 ⟨rfl, hb1⟩)
  refine (HF.out w1).mono ?_
  rintro e w2 ⟨v, rfl, hss, hb2⟩
  obtain ⟨av, cv, rfl, hv⟩ := hss
  have HV := Lib.hid hv
  have HSS := Lib.hid (show SS w2 (.slice av fs.length cv) fs from ⟨av, cv, rfl, hv⟩)
  clear hv
  go_wp2_with fail
  go_loop [6, 21] (fun t i => ∃ k : Nat, k ≤ fs.length ∧ i = .int .i64 k ∧ t = .string ⟨(Asc.joinTo (fs.take k)).toArray⟩) (fun _ i => fs.length - (intOf i).toNat)
  case atStart => exact ⟨0, by omega, rfl, rfl⟩
  case round =>
    obtain ⟨k, hkl, rfl, rfl⟩ := hrel
    by_cases hlt : k < fs.length
    · obtain ⟨g, rfl, _, hg⟩ := HV.out (by omega)
      have hcell := hg k hlt
      clear hg
      rcases Nat.eq_zero_or_pos k with h0 | h0
      · subst h0
        have H0 := Lib.hid (Asc.join_0 fs hlt)
        have hf : (fs[0]).length ≤ 1048577 := by have := HBD.out.2 0 hlt; omega
        have hj0 : Asc.joinTo [] = [] := rfl
        generalize fs[0] = f at *
        go_wp2_with fail
        refine ⟨⟨1, by omega, rfl, ?_⟩, by simp [intOf]; omega⟩
        rw [H0.out]
        first | rfl | (rw [ba_app]; rfl) | simp
      · have H1 := Lib.hid (Asc.join_s fs k hlt h0)
        have hf : (fs[k]).length ≤ 1048577 := by have := HBD.out.2 k hlt; omega
        have hj : (Asc.joinTo (fs.take k)).length ≤ 1048577 := by have := HBD.out.1 k; omega
        generalize fs[k] = f at *
        generalize Asc.joinTo (fs.take k) = j at *
        go_wp2_with fail
        refine ⟨⟨k + 1, by omega, by go_num, ?_⟩, by simp [intOf]; omega⟩
        rw [H1.out, ← ba_app, ← ba_app]
    · obtain rfl : k = fs.length := by omega
      go_wp2_with fail
      refine (HC.out w2).mono ?_
      rintro e w3 ⟨rfl, hb3⟩
      go_wp2_with fail
      refine (HD.out w3).mono ?_
      rintro e w4 ⟨rfl, hb4⟩
      go_wp2_with fail
      refine (HR.out w4).mono ?_
      rintro e w5 ⟨v5, rfl, hs5, hb5⟩
      have H5 := Lib.hid hs5
      clear hs5
      have hb25 := below_seq (below_seq hb3 hb4) hb5
      go_wp2_with fail
      refine (HS.out _ _ w5 (HSS.out.below hb25) H5.out).mono ?_
      rintro e w6 ⟨rfl, hb6⟩
      go_wp2_with fail
      refine (HJ.out w6).mono ?_
      rintro e w7 ⟨v7, rfl, hs7, hb7⟩
      have H7 := Lib.hid hs7
      clear hs7
      have hb27 := below_seq (below_seq hb25 hb6) hb7
      go_wp2_with fail
      refine (HS.out _ _ w7 H7.out (HSS.out.below hb27)).mono ?_
      rintro e w8 ⟨rfl, hb8⟩
      go_wp2_with fail
      refine (HT.out w8).mono ?_
      rintro e w9 ⟨rfl, hb9⟩
      go_wp2_with (go_at_call 30; refine (HU.out w9).mono ?_; rintro e w' ⟨rfl, rfl⟩)
      refine (HL.out w9).mono ?_
      rintro e w10 ⟨rfl, hb10⟩
      go_wp2_with fail
      refine (HM.out w10).mono ?_
      rintro e w11 ⟨rfl, hb11⟩
      go_wp2_with fail
      go_ret
      exact ⟨rfl, below_seq (below_seq (below_seq (below_seq (below_seq (below_seq hb1 hb2) hb27) hb8) hb9) hb10) hb11⟩

end Go.Proofs.YtloilffkggkgdaaDoor

/-
  Lower and Cut of the reference; Fields of package ascii and of its reference; SameStrings.
-/
import Derived.Test.YtloilffkggkgdaaDoorAscP
import Derived.Test.YtloilffkggkgdaaDoorOwn
import Derived.Shelf.Strings.FieldsFuncAny
namespace Go.Proofs.YtloilffkggkgdaaDoor
open Go.RowKit

structure RLI (w : World) (l : List UInt8) (k : Nat) (v : Value) (W : World) : Prop where
  own : W.ownsRow w.heap.size 5 1 v ((l.take k).map Asc.low).length (Lib.byteCells ((l.take k).map Asc.low))
  below : Below w.heap.size w W

set_option maxRecDepth 100000 in
set_option maxHeartbeats 2000000 in
theorem rlower_any (l : List UInt8) (w : World) (hs : l.length ≤ 140737488351232) :
    Calls Tryd.prog 32 #[.string ⟨l.toArray⟩] w fun e w' => e = .returned (.string ⟨(l.map Asc.low).toArray⟩) ∧ Below w.heap.size w w' := by
  go_enter Tryd.func32, Tryd.ntmps32
  go_wp2_with fail
  go_loopw [3, 4] (fun v i wr => ∃ k : Nat, k ≤ l.length ∧ i = .int .i64 k ∧ RLI w l k v wr) (fun _ i _ => l.length - (intOf i).toNat)
  case atStart => exact ⟨0, by omega, rfl, ⟨⟨rfl, .inl ⟨rfl, rfl⟩⟩, Below.refl _ _⟩⟩
  case round =>
    obtain ⟨k, hk, rfl, hI⟩ := hrel
    have HI := Lib.hid hI
    by_cases hlt : k < l.length
    · obtain ⟨c, ⟨_, hx⟩, hc, hc2⟩ := byte_at l k hlt
      have hown := hI.own
      have hsz := hI.below.size
      have hln : ((l.take k).map Asc.low).length ≤ k := by simp; omega
      have e1 : (l.take (k + 1)).map Asc.low = (l.take k).map Asc.low ++ [Asc.low l[k]] := by rw [Asc.snoc_take l k hlt, List.map_append]; rfl
      have HN : Hid (∀ v' W' o, W'.ownsRow w.heap.size 5 1 v' (((l.take k).map Asc.low).length + 1) (Lib.byteCells ((l.take k).map Asc.low) ++ [.int .u8 ((Asc.low l[k]).toNat : Int)]) → (wr.alloc o).grownBy W' u3.ownBlock → RLI w l (k + 1) v' W') := by
        show ∀ v' W' o, _
        intro v' W' o h1 h2
        refine ⟨?_, own_step hI.below hI.own h2⟩
        rw [e1]
        have e2 : Lib.byteCells ((l.take k).map Asc.low ++ [Asc.low l[k]]) = Lib.byteCells ((l.take k).map Asc.low) ++ [.int .u8 ((Asc.low l[k]).toNat : Int)] := by simp [Lib.byteCells]
        rw [e2, List.length_append]
        exact h1
      clear e1 hI
      generalize (l.take k).map Asc.low = out at *
      have q1 : out.length + 1 ≤ 140737488355328 := by omega
      have q2 : (out.length + 1) * 1 ≤ 140737488355328 := by omega
      by_cases hu : 65 ≤ l[k].toNat ∧ l[k].toNat ≤ 90
      · have hlow := Asc.low_yes hu
        rw [hlow] at HN
        rw [hc] at hu HN
        obtain ⟨u1, u2⟩ := hu
        clear hlow hc
        go_wp2_with (at_builtin; refine wpList_append_1 rfl _ _ 22 5 (.int .u8 0) 1 rfl Tryd.underlying22 info5 rfl w.heap.size _ _ _ rfl hown (.int .u8 ((c + 32 : Nat) : Int)) rfl rfl q1 q2 hsz ?_; intro v' w2 hown' hgrow)
        have HX := Lib.hid (HN.out v' w2 _ hown' hgrow)
        clear hown hown' hgrow
        go_wp2_with fail
        go_roundw
        case rel => exact ⟨k + 1, by omega, by go_num, HX.out⟩
        case measure => simp [intOf]; omega
      · have hlow := Asc.low_no hu
        rw [hlow, hc] at HN
        rw [hc] at hu
        clear hlow hc
        by_cases hu1 : 65 ≤ c
        · have hu2 : 90 < c := by omega
          clear hu
          go_wp2_with (at_builtin; refine wpList_append_1 rfl _ _ 22 5 (.int .u8 0) 1 rfl Tryd.underlying22 info5 rfl w.heap.size _ _ _ rfl hown (.int .u8 (c : Int)) rfl rfl q1 q2 hsz ?_; intro v' w2 hown' hgrow)
          have HX := Lib.hid (HN.out v' w2 _ hown' hgrow)
          clear hown hown' hgrow
          go_wp2_with fail
          go_roundw
          case rel => exact ⟨k + 1, by omega, by go_num, HX.out⟩
          case measure => simp [intOf]; omega
        · have hu3 : c < 65 := by omega
          clear hu hu1
          go_wp2_with (at_builtin; refine wpList_append_1 rfl _ _ 22 5 (.int .u8 0) 1 rfl Tryd.underlying22 info5 rfl w.heap.size _ _ _ rfl hown (.int .u8 (c : Int)) rfl rfl q1 q2 hsz ?_; intro v' w2 hown' hgrow)
          have HX := Lib.hid (HN.out v' w2 _ hown' hgrow)
          clear hown hown' hgrow
          go_wp2_with fail
          go_roundw
          case rel => exact ⟨k + 1, by omega, by go_num, HX.out⟩
          case measure => simp [intOf]; omega
    · obtain rfl : k = l.length := by omega
      have hcv : (convert 22 9 u3).run Tryd.prog wr = .ok (.string ⟨(l.map Asc.low).toArray⟩) wr := by
        have := conv_own hI.own
        rwa [List.take_length] at this
      clear hI
      go_wp2_with fail
      go_ret
      exact ⟨rfl, HI.out.below⟩

/-- The reference's Cut. -/
theorem rcut_any (l : List UInt8) (c : UInt8) (w : World) (hs : l.length ≤ 140737488351232) :
    Calls Tryd.prog 26 #[.string ⟨l.toArray⟩, .int .u8 c.toNat] w fun e w' =>
      e = .returned (.tuple #[.string ⟨(Asc.cutA l c).toArray⟩, .string ⟨(Asc.cutB l c).toArray⟩, .bool (Asc.has l c)]) ∧ Below w.heap.size w w' := by
  go_enter Tryd.func26, Tryd.ntmps26
  go_wp2_with fail
  go_loop [7] (fun i => ∃ k : Nat, k ≤ l.length ∧ i = .int .i64 k ∧ ∀ j (hj : j < l.length), j < k → l[j] ≠ c) (fun i => l.length - (intOf i).toNat)
  case atStart => exact ⟨0, by omega, rfl, fun j _ h => by omega⟩
  case round =>
    obtain ⟨k, hk, rfl, hall⟩ := hrel
    have HA := Lib.hid hall
    clear hall
    by_cases hlt : k < l.length
    · obtain ⟨d, ⟨_, hx⟩, hd, hd2⟩ := byte_at l k hlt
      have HD := Lib.hid hd
      clear hd
      by_cases he : l[k] = c
      · have hp := Asc.pos_eq hlt he (fun j hj => HA.out j (by omega) hj)
        have F1 := Lib.hid (show Asc.cutA l c = l.take k by unfold Asc.cutA; rw [hp])
        have F2 := Lib.hid (show Asc.cutB l c = l.drop (k + 1) by unfold Asc.cutB; rw [hp])
        have F3 := Lib.hid (show Asc.has l c = true by unfold Asc.has; rw [hp]; simpa using hlt)
        have hq : ((d : Int) == (c.toNat : Int)) = true := by rw [beq_iff_eq, ← HD.out, he]
        clear hp he
        go_wp2_with fail
        go_quiet (fail)
        go_wp2_with fail
        go_ret3
        refine ⟨?_, below_drewN (Below.refl _ _) nq⟩
        rw [F1.out, F2.out, F3.out, ← ext_take, ← ext_drop]
        rfl
      · have HE := Lib.hid he
        have hq : ((d : Int) == (c.toNat : Int)) = false := by
          rw [beq_eq_false_iff_ne]
          intro e
          apply he
          apply UInt8.toNat_inj.1
          rw [HD.out]
          exact_mod_cast e
        clear he
        go_wp2_with fail
        go_round
        case rel => exact ⟨k + 1, by omega, by go_num, fun j hj h => by rcases Nat.lt_or_ge j k with c | c; exact HA.out j hj c; (obtain rfl : j = k := by omega); exact HE.out⟩
        case measure => simp [intOf]; omega
    · have hp := Asc.pos_none (l := l) (c := c) (fun j hj => HA.out j hj (by omega))
      have F := Lib.hid (Asc.cutA_none hp)
      have F3 := Lib.hid (show Asc.has l c = false by unfold Asc.has; simpa using hp)
      clear hp
      go_wp2_with fail
      go_ret3
      refine ⟨?_, Below.refl _ _⟩
      rw [F.out.1, F.out.2, F3.out]
      rfl

theorem cut_any (l : List UInt8) (c : UInt8) (w : World) (hs : l.length ≤ 140737488351232) :
    Calls Tryd.prog 20 #[.string ⟨l.toArray⟩, .int .u8 c.toNat] w fun e w' =>
      e = .returned (.tuple #[.string ⟨(Asc.cutA l c).toArray⟩, .string ⟨(Asc.cutB l c).toArray⟩, .bool (Asc.has l c)]) ∧ Below w.heap.size w w' := by
  by_cases h : Asc.pos l c < l.length
  · rw [show Asc.has l c = true by unfold Asc.has; simpa using h]
    exact cut_yes l c w hs h
  · rw [show Asc.has l c = false by unfold Asc.has; simpa using h, (Asc.cutA_none h).1, (Asc.cutA_none h).2]
    exact (cut_no l c w h).mono fun e w' ⟨h1, h2⟩ => ⟨h1, h2 ▸ Below.refl _ _⟩

/-! ### Fields -/
/-- A slice of strings that reads as a list. -/
def SS (w : World) (v : Value) (fs : List (List UInt8)) : Prop :=
  ∃ a cap, v = .slice a fs.length cap ∧ (0 < fs.length → ∃ g, a = some ⟨g, 0, none⟩ ∧ g < w.heap.size ∧ ∀ i (hi : i < fs.length), w.cell? ⟨g, i, none⟩ = some (.string ⟨(fs[i]).toArray⟩))
theorem SS.below {w w' : World} {v : Value} {fs : List (List UInt8)} (h : SS w v fs) (hb : Below w.heap.size w w') : SS w' v fs := by
  obtain ⟨a, cap, rfl, h⟩ := h
  refine ⟨a, cap, rfl, fun h0 => ?_⟩
  obtain ⟨g, rfl, hl, hc⟩ := h h0
  exact ⟨g, rfl, Nat.lt_of_lt_of_le hl hb.size, fun i hi => (hb.cell (p := ⟨g, i, none⟩) hl).trans (hc i hi)⟩
def strCellsL (fs : List (List UInt8)) : List Value := fs.map fun f => Value.string ⟨f.toArray⟩
theorem ss_own {w : World} {B : Nat} {v : Value} {fs : List (List UInt8)} (h : w.ownsRow B 9 1 v fs.length (strCellsL fs)) : SS w v fs := by
  obtain ⟨hl, ⟨rfl, h0⟩ | ⟨g, cap, cur, rfl, _, hg, hn, _, hsz, htk⟩⟩ := h
  · exact ⟨none, 0, by rw [h0], fun h => by omega⟩
  · refine ⟨_, cap, rfl, fun _ => ⟨g, rfl, ?_, fun i hi => ?_⟩⟩
    · rcases Nat.lt_or_ge g w.heap.size with c | c
      · exact c
      · rw [Array.getElem?_eq_none c] at hg; cases hg
    · rw [Lib.cell_of_heap hg]
      have e : (cur.toList.take (fs.length * 1))[i]? = (strCellsL fs)[i]? := by rw [htk]
      rw [List.getElem?_take_of_lt (by omega)] at e
      simp only [Array.getElem?_toList] at e
      rw [e]
      unfold strCellsL
      simp [hi]

theorem sp_any (x : Nat) (w : World) (hx : x ≤ 1114111) : Calls Tryd.prog 43 #[.int .i32 x] w fun e w' => e = .returned (.bool (Asc.spR x)) ∧ w = w' := by
  have hf := Lib.hid (show Asc.spR x = decide (x = 32 ∨ x = 9) from rfl)
  go_enter Tryd.func43, Tryd.ntmps43
  go_wp2_with fail
  all_goals
    go_ret
    exact ⟨ret_bool (by rw [hf.out, Bool.eq_iff_iff]; simp; omega), rfl⟩

theorem fields_any (l : List UInt8) (w : World) (hs : l.length ≤ 4000000000) :
    Calls Tryd.prog 25 #[.string ⟨l.toArray⟩] w fun e w' => ∃ v, e = .returned v ∧ SS w' v (Asc.fields l) ∧ Below w.heap.size w w' := by
  have HF := Lib.hid (Tryd.strings_FieldsFunc_runes 43 #[] (enters_of Tryd.func43 (by kernel_rfl) rfl) Asc.spR ⟨l.toArray⟩ w (by rw [ba_size]; omega) (fun W x hx _ => (sp_any x W hx).mono fun e w' ⟨h1, h2⟩ => ⟨h1, 0, h2.symm⟩))
  go_enter Tryd.func25, Tryd.ntmps25
  go_wp2_with (go_at_call 42; refine HF.out.mono ?_)
  rintro e w1 ⟨A, rfl, hA, hown, hb⟩
  have hss : SS w1 (.slice (some ⟨A, 0, none⟩) (Lib.goFieldsP Asc.spR ⟨l.toArray⟩).length (Lib.goFieldsP Asc.spR ⟨l.toArray⟩).length) (Asc.fields l) := by
    have e1 : (Lib.goFieldsP Asc.spR ⟨l.toArray⟩).map Value.string = strCellsL (Asc.fields l) := by rw [Asc.goFields_eq, List.map_map]; rfl
    have e2 : (Lib.goFieldsP Asc.spR ⟨l.toArray⟩).length = (Asc.fields l).length := by rw [Asc.goFields_eq, List.length_map]
    rw [e1, e2] at hown
    rw [e2]
    exact ss_own hown
  have HS := Lib.hid hss
  clear hss hown
  go_wp2_with fail
  go_ret
  exact ⟨_, rfl, HS.out, hb⟩

end Go.Proofs.YtloilffkggkgdaaDoor

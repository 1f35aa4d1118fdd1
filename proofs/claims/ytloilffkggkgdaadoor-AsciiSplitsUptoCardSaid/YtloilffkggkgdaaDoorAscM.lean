/-
  Repair of package ascii at any slice, nil included; the reference's Repair; the walk of AsciiRepairs.
-/
import Derived.Test.YtloilffkggkgdaaDoorAscL
namespace Go.Proofs.YtloilffkggkgdaaDoor
open Go.RowKit Go.Shelf
attribute [local go_sem] Oper.semAt_some

set_option maxRecDepth 100000 in
set_option maxHeartbeats 4000000 in
theorem repair_gen (blk off cap : Nat) (a : Option Addr) (bs : List UInt8) (w : World) (hcap : bs.length ≤ cap) (hlen : bs.length ≤ 140737488351232) (hblk : blk < w.heap.size) (hc : BA w blk off bs) (ha : 0 < bs.length → a = some ⟨blk, off, none⟩) :
    CallsIn Fence.wide 10 Tryd.prog 10 #[.slice a bs.length cap] w fun e w' => e = .returned (.tuple #[.string ⟨(Asc.repL bs).toArray⟩, .int .i64 (Asc.badL bs : Nat)]) ∧ Below w.heap.size w w' := by
  refine callsIn_of_wp_marks Tryd.func10 rfl trivial ?_ rfl
  simp only [Tryd.ntmps10, List.size_toArray, List.length_cons, List.length_nil, Nat.reduceAdd, Nat.reduceSub, Array.replicate_succ, Array.replicate_zero, List.push_toArray, List.append_toArray, List.nil_append, List.cons_append]
  gi_wp2_with (refine ⟨trivial, ?_⟩; gi_at_call 33; refine (callsIn_wide.2 (seq_in _ _ _ _)).mono ?_; rintro e w' ⟨rfl, rfl⟩)
  refine range_box (m := 8) (gf := 45) (lb := #[.pointer (some ⟨w.heap.size + 1 + 1, 0, none⟩)]) rfl (enters_of Tryd.func45 (by kernel_rfl) rfl)
    (w.heap.size + 2) w.heap.size bs.length 22 ?n0 (fun k => #[.slice (some ⟨blk, off + k, none⟩) (stepN bs k) (cap - k), .bool (decide (0 < Asc.vlen (bs.drop k)))]) (fun k => k + stepN bs k) (fun _ => rfl)
    (fun k W => ∃ out c, RepI w bs k out c W) ?set ?put ?h0 ?seq
    (fun k => { tmps := #[.slice a bs.length cap, undef, .string { data := #[] }, .int .i64 0, .pointer (some ⟨w.heap.size, 0, none⟩), .pointer (some ⟨w.heap.size + 1, 0, none⟩),
      .slice (some ⟨blk, off + k, none⟩) (stepN bs k) (cap - k), .bool (decide (0 < Asc.vlen (bs.drop k))), .slice a bs.length cap, .func (.func 45) #[] #[.pointer (some ⟨w.heap.size + 1 + 1, 0, none⟩)],
      .slice (some ⟨blk, off + k, none⟩) (stepN bs k) (cap - k), .bool (decide (0 < Asc.vlen (bs.drop k))), undef, undef, undef, undef, undef, undef, undef, undef, undef], defers := [] }) ?assign ?body ?done
  case n0 => simp; omega
  case set => rintro k W v ⟨out, c, h⟩; exact ⟨out, c, h.set v⟩
  case put =>
    rintro k W l o o' ⟨out, c, h⟩ hl ho hoc
    exact ⟨out, c, h.grown (grownBy_putObj' W l o') (by simp at hl; omega) (fun c fz e => by rw [ho] at e; cases e; cases hoc)⟩
  case h0 =>
    intro o
    refine ⟨[], 0, ?_, ?_, ⟨.slice a bs.length cap, ?_⟩, rfl, by simp, rfl, by omega, ?_⟩
    · exact ((((Bld.new w).alloc _).alloc _).alloc _).alloc _
    · exact (((box_at1 w _ _ _).alloc _).alloc _).alloc _
    · exact ((box_at2 w _ _ _ _).alloc _).alloc _
    · exact below5 w _ _ _ _ _
  case seq =>
    intro l R h1 h2 o h3
    refine iter_in 8 l (w.heap.size + 2) w.heap.size blk off cap bs R hblk hcap (by omega) h1 (by omega) h2 _ ?_ ?_ h3
    · exact ⟨_, ((box_at2 w _ _ _ _).alloc _).alloc _, ha⟩
    · exact hc.below fun i _ => (below5 w _ _ _ _ _).cell (p := ⟨blk, off + i, none⟩) hblk
  case assign =>
    intro l k W K hK
    gi_wp2
    exact hK
  case body =>
    rintro l k W ⟨out, c, h⟩ hk
    obtain ⟨o, ho, hoc⟩ := h.bld.isCells
    have hs := stepN_le bs k hk
    have hsz := h.below.size
    have hcnt := h.cnt.cell
    have hl1 : (Lib.byteCells out).length = k := by rw [Lib.byteCells_length]; exact h.len
    by_cases hv : Asc.vlen (bs.drop k) = 0
    · have hd : decide (0 < Asc.vlen (bs.drop k)) = false := by rw [hv]; rfl
      have hst : stepN bs k = 1 := by unfold stepN; rw [hv]; rfl
      have hm := rep_bad h hk hv
      rw [hd]
      have HW := Lib.hid (writeByte_any w.heap.size w.heap.size (Lib.byteCells out) 63 W h.bld (by omega) (by omega))
      have H := Lib.hid h
      gi_wp2_with (refine ⟨trivial, ?_⟩; gi_at_call 34; refine (CallsIn.inRound l (callsIn_wide.2 HW.out)).mono ?_)
      rintro e W1 ⟨rfl, hu, hb1, ho1⟩
      have hc1 := Oth.box ho1 H.out.cnt (by omega) (by decide)
      obtain ⟨sv, hsv⟩ := H.out.sbox
      have hs1 := Oth.box ho1 hsv (by omega) (by decide)
      have cc := hc1.cell
      have cf := hc1.frozen
      have hwr : wrap64 ((c : Int) + 1) = (c : Int) + 1 := by have := H.out.cle; unfold wrap64; omega
      have HU := Lib.hid hu
      clear hu
      gi_wp2
      refine ⟨?_, ?_, ?_, ?_⟩
      · exact (ho1.keeps hb1.size ho hoc).trans (KeepsOthers.setCell _ _ _)
      · exact hb1.setCell (p := ⟨w.heap.size + 1, 0, none⟩) (by simp) _
      · intro v hv
        exact (Oth.box ho1 hv (by omega) (by decide)).other (by omega) _
      · refine ⟨out ++ [63], c + 1, ?_, ?_, ⟨sv, hs1.other (by omega) _⟩, ?_, ?_, ?_, ?_, ?_⟩
        · have := (show Bld _ _ _ _ from .inr HU.out).kept (grownBy_setCell' W1 (w.heap.size + 1) (.int .i64 ((c : Int) + 1))) (fun e => by have := Option.some.inj e; omega) (fun r e => by cases e; intro c fz he; rw [show W1.heap[w.heap.size + 1]? = _ from hc1] at he; cases he)
          simpa [Lib.byteCells] using this
        · exact_mod_cast hc1.set (.int .i64 ((c : Int) + 1))
        · exact hm.1
        · exact hm.2
        · rw [List.length_append, H.out.len]; rfl
        · exact Nat.succ_le_succ H.out.cle
        · exact (H.out.below.trans hb1).setCell (p := ⟨w.heap.size + 1, 0, none⟩) (by simp) _
    · have hv1 : 1 ≤ Asc.vlen (bs.drop k) := by omega
      have hd : decide (0 < Asc.vlen (bs.drop k)) = true := by simp; omega
      have hst : stepN bs k = Asc.vlen (bs.drop k) := by unfold stepN; omega
      have hm := rep_good h hk hv
      rw [← hst] at hm
      rw [hd]
      have HW := Lib.hid (write_any w.heap.size w.heap.size (Lib.byteCells out) ⟨blk, off + k, none⟩ (stepN bs k) (cap - k) (Lib.byteCells ((bs.drop k).take (stepN bs k))) W h.bld
        (by rw [Lib.byteCells_length, List.length_take, List.length_drop]; omega) (news_of hc h.below hblk k (stepN bs k)) hblk (one_of _) (by omega) (by omega) (by omega))
      have H := Lib.hid h
      clear hd hst hv hv1 h
      generalize stepN bs k = st at *
      gi_wp2_with (refine ⟨trivial, ?_⟩; gi_at_call 35; refine (CallsIn.inRound l (callsIn_wide.2 HW.out)).mono ?_)
      rintro e W1 ⟨rfl, hu, hb1, ho1⟩
      obtain ⟨sv, hsv⟩ := H.out.sbox
      have HU := Lib.hid hu
      clear hu
      gi_wp2
      refine ⟨ho1.keeps hb1.size ho hoc, fun v hv => Oth.box ho1 hv (by omega) (by decide), out ++ (bs.drop k).take st, c, ?_, Oth.box ho1 H.out.cnt (by omega) (by decide), ⟨sv, Oth.box ho1 hsv (by omega) (by decide)⟩, hm.1, hm.2, ?_, ?_, H.out.below.trans hb1⟩
      · have := (show Bld _ _ _ _ from .inr HU.out)
        simpa [Lib.byteCells] using this
      · rw [List.length_append, H.out.len, List.length_take, List.length_drop]; omega
      · exact Nat.le_add_right_of_le H.out.cle
  case done =>
    rintro W ⟨out, c, h⟩ hK
    have hz : bs.drop bs.length = [] := by simp
    have e1 : Asc.repL bs = out := by have := h.e1; rw [hz, Asc.repL_nil, List.append_nil] at this; exact this
    have e2 : Asc.badL bs = c := by have := h.e2; rw [hz, Asc.badL_nil] at this; exact this
    have HS := Lib.hid fun (W' : World) (e : W'.heap = W.heap) => Tryd.Builder_String_any_k w.heap.size w.heap.size out W' (bldF_same h.bld e) (by rw [e]; exact h.below.size)
    have hcnt := h.cnt.cell
    have H := Lib.hid h
    clear h
    gi_wp2
    refine then_false ?_
    gi_region_with (refine ⟨trivial, ?_⟩; gi_at_call 36; refine (callsIn_wide.2 (HS.out W.drew rfl)).mono ?_; rintro e W1 ⟨rfl, hbF, hb1, ho1⟩; have hc1 : W1.cell? ⟨w.heap.size + 1, 0, none⟩ = some (.int .i64 c) := Boxed.cell (Oth.box (W := W.drew) ho1 H.out.cnt (by omega) (by decide)))
    all_goals gi_wp2
    all_goals
      obtain ⟨o, ho, hoc⟩ := H.out.bld.isCells
      have hK' := (Oth.keeps (W := W.drew) ho1 hb1.size ho hoc).same _ _ hK rfl
      simp only [World.size_alloc] at hK'
      refine ⟨by simp, .inl ⟨_, _, rfl, run_takeDeferred hK', ?_⟩⟩
      refine ⟨_, results_tmp2 rfl _ _ _, ?_⟩
      rw [e1, e2]
      refine ⟨rfl, ?_⟩
      have hb2 : Below w.heap.size w W1 := H.out.below.trans (show Below w.heap.size W W1 from ((Below.refl _ W).drew).trans hb1)
      exact hb2.trans (belowK_b (w := w) (Nat.le_refl _) _ _ _ _ (by omega) hK' rfl rfl)


/-- A slice of bytes that reads as a list: nil, or cells. -/
def BS (w : World) (v : Value) (bs : List UInt8) : Prop :=
  ∃ a cap, v = .slice a bs.length cap ∧ bs.length ≤ cap ∧ (0 < bs.length → ∃ blk off, a = some ⟨blk, off, none⟩ ∧ blk < w.heap.size ∧ BA w blk off bs)
theorem BS.below {w w' : World} {v : Value} {bs : List UInt8} (h : BS w v bs) (hb : Below w.heap.size w w') : BS w' v bs := by
  obtain ⟨a, cap, rfl, hc, h⟩ := h
  refine ⟨a, cap, rfl, hc, fun h0 => ?_⟩
  obtain ⟨blk, off, rfl, hl, hba⟩ := h h0
  exact ⟨blk, off, rfl, Nat.lt_of_lt_of_le hl hb.size, hba.below fun i _ => hb.cell (p := ⟨blk, off + i, none⟩) hl⟩

theorem repair_any (v : Value) (bs : List UInt8) (w : World) (hk : 0 < w.heap.size) (hlen : bs.length ≤ 140737488351232) (h : BS w v bs) :
    Calls Tryd.prog 10 #[v] w fun e w' => e = .returned (.tuple #[.string ⟨(Asc.repL bs).toArray⟩, .int .i64 (Asc.badL bs : Nat)]) ∧ Below w.heap.size w w' := by
  obtain ⟨a, cap, rfl, hcap, h⟩ := h
  rcases Nat.eq_zero_or_pos bs.length with h0 | h0
  · exact callsIn_wide.1 (repair_gen 0 0 cap a bs w hcap hlen hk (fun i hi => by omega) (fun h => by omega))
  · obtain ⟨blk, off, rfl, hl, hba⟩ := h h0
    exact callsIn_wide.1 (repair_gen blk off cap _ bs w hcap hlen hl hba (fun _ => rfl))

end Go.Proofs.YtloilffkggkgdaaDoor

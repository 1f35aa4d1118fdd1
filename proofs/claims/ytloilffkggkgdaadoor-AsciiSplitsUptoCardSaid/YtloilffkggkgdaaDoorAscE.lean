/-
  Repair of package ascii: the string and the number of damaged bytes, for every slice of bytes.
-/
import Derived.Test.YtloilffkggkgdaaDoorAscD
namespace Go.Proofs.YtloilffkggkgdaaDoor
open Go.RowKit Go.Shelf
attribute [local go_sem] Oper.semAt_some

theorem RepI.grown {w : World} {bs : List UInt8} {k : Nat} {out : List UInt8} {c : Nat} {W W' : World} {l : Nat} (h : RepI w bs k out c W) (hg : W.grownBy W' (some l)) (hl : w.heap.size + 3 ≤ l) (hn : ∀ c fz, W.heap[l]? ≠ some (.cells c 5 fz)) : RepI w bs k out c W' := by
  obtain ⟨v, hv⟩ := h.sbox
  exact ⟨h.bld.kept hg (fun e => by cases e; omega) (fun r e => by cases e; exact hn), h.cnt.kept hg (fun e => by cases e; omega), ⟨v, hv.kept hg (fun e => by cases e; omega)⟩, h.e1, h.e2, h.len, h.cle,
    h.below.trans ((Below.refl _ W).grown hg h.below.size (fun r e => by cases e; omega))⟩

theorem RepI.set {w : World} {bs : List UInt8} {k : Nat} {out : List UInt8} {c : Nat} {W : World} (v : Value) (h : RepI w bs k out c W) : RepI w bs k out c (W.setCell ⟨w.heap.size + 2, 0, none⟩ v) := by
  obtain ⟨u, hu⟩ := h.sbox
  have hg := grownBy_setCell' W (w.heap.size + 2) v
  exact ⟨h.bld.kept hg (fun e => by have := Option.some.inj e; omega) (fun r e => by cases e; intro c fz he; rw [show W.heap[w.heap.size + 2]? = _ from hu] at he; cases he), h.cnt.kept hg (fun e => by have := Option.some.inj e; omega), ⟨v, hu.set v⟩, h.e1, h.e2, h.len, h.cle,
    h.below.trans ((Below.refl _ W).grown hg h.below.size (fun r e => by cases e; omega))⟩

theorem Oth.box {b B : Nat} {t : TypeId} {v : Value} {W W' : World} (h : Oth b W W') (hb : Boxed W B t v) (hne : B ≠ b) (ht : t ≠ 5) : Boxed W' B t v :=
  h B _ hb (fun e => hne (Option.some.inj e)) (fun c fz e => ht (by cases e; rfl))
theorem Oth.keeps {b : Nat} {W W' : World} {o : Obj} (h : Oth b W W') (hs : W.heap.size ≤ W'.heap.size) (hb : W.heap[b]? = some o) (hc : o.isCells = true) : KeepsOthers W W' :=
  ⟨hs, fun k x hk hx => h k x hk (fun e => by cases e; rw [hb] at hk; cases hk; rw [hc] at hx; cases hx) (fun c fz e => by subst e; cases hx)⟩
theorem Bld.isCells {B b : Nat} {bs : List Value} {W : World} (h : Bld B b bs W) : ∃ o, W.heap[b]? = some o ∧ o.isCells = true := by
  rcases h with ⟨_, v, hb, _⟩ | ⟨_, v, hb, _⟩ <;> exact ⟨_, hb, rfl⟩

theorem byteCells_take {l : List UInt8} {v : Nat} : Lib.byteCells (l.take v) = (Lib.byteCells l).take v := by simp [Lib.byteCells, List.map_take]

theorem box_at1 (w : World) (o1 : Obj) (t : TypeId) (v : Value) : Boxed ((w.alloc o1).alloc (.cells #[v] t)) (w.heap.size + 1) t v := by
  have := Boxed.new (w.alloc o1) t v
  rwa [World.size_alloc] at this
theorem box_at2 (w : World) (o1 o2 : Obj) (t : TypeId) (v : Value) : Boxed (((w.alloc o1).alloc o2).alloc (.cells #[v] t)) (w.heap.size + 2) t v := by
  have := Boxed.new ((w.alloc o1).alloc o2) t v
  rwa [World.size_alloc, World.size_alloc] at this
theorem Bld.alloc {B b : Nat} {bs : List Value} {W : World} (h : Bld B b bs W) (o : Obj) : Bld B b bs (W.alloc o) := h.kept (World.grownBy_alloc W o none) (by simp) (by simp)
theorem Bld.new (w : World) : Bld w.heap.size w.heap.size [] (w.alloc (.cells #[.pointer none, .slice none 0 0] 43)) :=
  .inl ⟨Nat.le_refl _, _, World.alloc_heap_new w _, ⟨rfl, .inl ⟨rfl, rfl⟩⟩, by simp [Value.ownBlock]⟩
theorem below5 (w : World) (o1 o2 o3 o4 o5 : Obj) : Below w.heap.size w (((((w.alloc o1).alloc o2).alloc o3).alloc o4).alloc o5) :=
  (((((Below.refl _ w).alloc (by simp) _).alloc (by simp) _).alloc (by simp; omega) _).alloc (by simp; omega) _).alloc (by simp; omega) _

theorem bldF_same {B b : Nat} {bs : List Value} {W W' : World} (h : Bld B b bs W) (e : W'.heap = W.heap) : Lib.IsBuilderF 43 5 B b bs W' := by
  have key : ∀ p, Lib.BuilderAt 43 5 B b p bs W → Lib.BuilderAtF 43 5 B b p bs W' := fun p hp => by
    have := Lib.BuilderAtF.of hp
    unfold Lib.BuilderAtF World.ownsRowF at this ⊢
    rw [e]
    exact this
  exact h.elim (fun x => .inl (key _ x)) (fun x => .inr (key _ x))
theorem news_of {w W : World} {blk off : Nat} {bs : List UInt8} (hc : BA w blk off bs) (hb : Below w.heap.size w W) (hblk : blk < w.heap.size) (k st : Nat) :
    ∀ j u, (Lib.byteCells ((bs.drop k).take st))[j]? = some u → W.cell? ((⟨blk, off + k, none⟩ : Addr).add j) = some u := by
  intro j u hj
  unfold Lib.byteCells at hj
  rw [List.getElem?_map] at hj
  obtain ⟨x, hx, rfl⟩ := Option.map_eq_some_iff.1 hj
  rw [List.getElem?_take] at hx
  split at hx
  · rw [List.getElem?_drop] at hx
    obtain ⟨hlt, hxx⟩ := List.getElem?_eq_some_iff.1 hx
    have := hc (k + j) hlt
    rw [Asc.at_of hlt, hxx] at this
    rw [show (⟨blk, off + k, none⟩ : Addr).add j = ⟨blk, off + k + j, none⟩ by simp [Addr.add]]
    rw [hb.cell (p := ⟨blk, off + k + j, none⟩) hblk, Nat.add_assoc]
    exact this
  · cases hx
theorem one_of (l : List UInt8) : ∀ u ∈ Lib.byteCells l, u.oneCell' = true := by
  intro u hu
  unfold Lib.byteCells at hu
  obtain ⟨x, _, rfl⟩ := List.mem_map.1 hu
  rfl

theorem then_false {F : Fence} {n : Nat} {P : Program} {c : Code} {K : Act → World → Prop} {Q : Exit → Act → World → Prop} {a : Act} {w : World} (h : c.wpIn F n P (Exit.then K (fun _ _ _ => False)) a w) : c.wpIn F n P (Exit.then K Q) a w :=
  wpIn_mono h (by intro e a W h; cases e <;> first | exact h | exact h.elim)

/-- The step at damaged bytes. -/
theorem rep_bad {w : World} {bs : List UInt8} {k : Nat} {out : List UInt8} {c : Nat} {W : World} (h : RepI w bs k out c W) (hk : k < bs.length) (hv : Asc.vlen (bs.drop k) = 0) :
    Asc.repL bs = (out ++ [63]) ++ Asc.repL (bs.drop (k + 1)) ∧ Asc.badL bs = (c + 1) + Asc.badL (bs.drop (k + 1)) := by
  have h0 : bs.drop k ≠ [] := fun e => by have := congrArg List.length e; simp at this; omega
  obtain ⟨a1, a2⟩ := Asc.repL_bad h0 hv
  rw [List.drop_drop] at a1 a2
  exact ⟨by rw [h.e1, a1]; simp, by rw [h.e2, a2]; omega⟩
theorem rep_good {w : World} {bs : List UInt8} {k : Nat} {out : List UInt8} {c : Nat} {W : World} (h : RepI w bs k out c W) (hk : k < bs.length) (hv : Asc.vlen (bs.drop k) ≠ 0) :
    Asc.repL bs = (out ++ (bs.drop k).take (Asc.vlen (bs.drop k))) ++ Asc.repL (bs.drop (k + Asc.vlen (bs.drop k))) ∧ Asc.badL bs = c + Asc.badL (bs.drop (k + Asc.vlen (bs.drop k))) := by
  have h0 : bs.drop k ≠ [] := fun e => by have := congrArg List.length e; simp at this; omega
  obtain ⟨a1, a2⟩ := Asc.repL_good h0 hv
  rw [List.drop_drop] at a1 a2
  exact ⟨by rw [h.e1, a1]; simp, by rw [h.e2, a2]⟩

set_option maxRecDepth 100000 in
set_option maxHeartbeats 4000000 in
theorem repair_in (blk off cap : Nat) (bs : List UInt8) (w : World) (hcap : bs.length ≤ cap) (hlen : bs.length ≤ 140737488351232) (hblk : blk < w.heap.size) (hc : BA w blk off bs) :
    CallsIn Fence.wide 10 Tryd.prog 10 #[.slice (some ⟨blk, off, none⟩) bs.length cap] w fun e w' => e = .returned (.tuple #[.string ⟨(Asc.repL bs).toArray⟩, .int .i64 (Asc.badL bs : Nat)]) ∧ Below w.heap.size w w' := by
  refine callsIn_of_wp_marks Tryd.func10 rfl trivial ?_ rfl
  simp only [Tryd.ntmps10, List.size_toArray, List.length_cons, List.length_nil, Nat.reduceAdd, Nat.reduceSub, Array.replicate_succ, Array.replicate_zero, List.push_toArray, List.append_toArray, List.nil_append, List.cons_append]
  gi_wp2_with (refine ⟨trivial, ?_⟩; gi_at_call 33; refine (callsIn_wide.2 (seq_in _ _ _ _)).mono ?_; rintro e w' ⟨rfl, rfl⟩)
  refine range_box (m := 8) (gf := 45) (lb := #[.pointer (some ⟨w.heap.size + 1 + 1, 0, none⟩)]) rfl (enters_of Tryd.func45 (by kernel_rfl) rfl)
    (w.heap.size + 2) w.heap.size bs.length 22 ?n0 (fun k => #[.slice (some ⟨blk, off + k, none⟩) (stepN bs k) (cap - k), .bool (decide (0 < Asc.vlen (bs.drop k)))]) (fun k => k + stepN bs k) (fun _ => rfl)
    (fun k W => ∃ out c, RepI w bs k out c W) ?set ?put ?h0 ?seq
    (fun k => { tmps := #[.slice (some ⟨blk, off, none⟩) bs.length cap, undef, .string { data := #[] }, .int .i64 0, .pointer (some ⟨w.heap.size, 0, none⟩), .pointer (some ⟨w.heap.size + 1, 0, none⟩),
      .slice (some ⟨blk, off + k, none⟩) (stepN bs k) (cap - k), .bool (decide (0 < Asc.vlen (bs.drop k))), .slice (some ⟨blk, off, none⟩) bs.length cap, .func (.func 45) #[] #[.pointer (some ⟨w.heap.size + 1 + 1, 0, none⟩)],
      .slice (some ⟨blk, off + k, none⟩) (stepN bs k) (cap - k), .bool (decide (0 < Asc.vlen (bs.drop k))), undef, undef, undef, undef, undef, undef, undef, undef, undef], defers := [] }) ?assign ?body ?done
  case n0 => simp; omega
  case set => rintro k W v ⟨out, c, h⟩; exact ⟨out, c, h.set v⟩
  case put =>
    rintro k W l o o' ⟨out, c, h⟩ hl ho hoc
    exact ⟨out, c, h.grown (grownBy_putObj' W l o') (by simp at hl; omega) (fun c fz e => by rw [ho] at e; cases e; cases hoc)⟩
  case h0 =>
    intro o
    refine ⟨[], 0, ?_, ?_, ⟨.slice (some ⟨blk, off, none⟩) bs.length cap, ?_⟩, rfl, by simp, rfl, by omega, ?_⟩
    · exact ((((Bld.new w).alloc _).alloc _).alloc _).alloc _
    · exact (((box_at1 w _ _ _).alloc _).alloc _).alloc _
    · exact ((box_at2 w _ _ _ _).alloc _).alloc _
    · exact below5 w _ _ _ _ _
  case seq =>
    intro l R h1 h2 o h3
    refine iter_in 8 l (w.heap.size + 2) w.heap.size blk off cap bs R hblk hcap (by omega) h1 (by omega) h2 _ ?_ ?_ h3
    · exact ⟨_, ((box_at2 w _ _ _ _).alloc _).alloc _, fun _ => rfl⟩
    · exact hc.below fun i _ => (below5 w _ _ _ _ _).cell (p := ⟨blk, off + i, none⟩) hblk
  case assign =>
    intro l k W K hK
    gi_wp2
    exact hK
  case body =>
    rintro l k W ⟨out, c, h⟩ hk
    obtain ⟨o, ho, hoc⟩ := h.bld.isCells
    have hs := stepN_le bs k hk
    have hsz := h.below.size
    have hcnt := h.cnt.cell
    have hl1 : (Lib.byteCells out).length = k := by rw [Lib.byteCells_length]; exact h.len
    by_cases hv : Asc.vlen (bs.drop k) = 0
    · have hd : decide (0 < Asc.vlen (bs.drop k)) = false := by rw [hv]; rfl
      have hst : stepN bs k = 1 := by unfold stepN; rw [hv]; rfl
      have hm := rep_bad h hk hv
      rw [hd]
      have HW := Lib.hid (writeByte_any w.heap.size w.heap.size (Lib.byteCells out) 63 W h.bld (by omega) (by omega))
      have H := Lib.hid h
      gi_wp2_with (refine ⟨trivial, ?_⟩; gi_at_call 34; refine (CallsIn.inRound l (callsIn_wide.2 HW.out)).mono ?_)
      rintro e W1 ⟨rfl, hu, hb1, ho1⟩
      have hc1 := Oth.box ho1 H.out.cnt (by omega) (by decide)
      obtain ⟨sv, hsv⟩ := H.out.sbox
      have hs1 := Oth.box ho1 hsv (by omega) (by decide)
      have cc := hc1.cell
      have cf := hc1.frozen
      have hwr : wrap64 ((c : Int) + 1) = (c : Int) + 1 := by have := H.out.cle; unfold wrap64; omega
      have HU := Lib.hid hu
      clear hu
      gi_wp2
      refine ⟨?_, ?_, ?_, ?_⟩
      · exact (ho1.keeps hb1.size ho hoc).trans (KeepsOthers.setCell _ _ _)
      · exact hb1.setCell (p := ⟨w.heap.size + 1, 0, none⟩) (by simp) _
      · intro v hv
        exact (Oth.box ho1 hv (by omega) (by decide)).other (by omega) _
      · refine ⟨out ++ [63], c + 1, ?_, ?_, ⟨sv, hs1.other (by omega) _⟩, ?_, ?_, ?_, ?_, ?_⟩
        · have := (show Bld _ _ _ _ from .inr HU.out).kept (grownBy_setCell' W1 (w.heap.size + 1) (.int .i64 ((c : Int) + 1))) (fun e => by have := Option.some.inj e; omega) (fun r e => by cases e; intro c fz he; rw [show W1.heap[w.heap.size + 1]? = _ from hc1] at he; cases he)
          simpa [Lib.byteCells] using this
        · exact_mod_cast hc1.set (.int .i64 ((c : Int) + 1))
        · exact hm.1
        · exact hm.2
        · rw [List.length_append, H.out.len]; rfl
        · exact Nat.succ_le_succ H.out.cle
        · exact (H.out.below.trans hb1).setCell (p := ⟨w.heap.size + 1, 0, none⟩) (by simp) _
    · have hv1 : 1 ≤ Asc.vlen (bs.drop k) := by omega
      have hd : decide (0 < Asc.vlen (bs.drop k)) = true := by simp; omega
      have hst : stepN bs k = Asc.vlen (bs.drop k) := by unfold stepN; omega
      have hm := rep_good h hk hv
      rw [← hst] at hm
      rw [hd]
      have HW := Lib.hid (write_any w.heap.size w.heap.size (Lib.byteCells out) ⟨blk, off + k, none⟩ (stepN bs k) (cap - k) (Lib.byteCells ((bs.drop k).take (stepN bs k))) W h.bld
        (by rw [Lib.byteCells_length, List.length_take, List.length_drop]; omega) (news_of hc h.below hblk k (stepN bs k)) hblk (one_of _) (by omega) (by omega) (by omega))
      have H := Lib.hid h
      clear hd hst hv hv1 h
      generalize stepN bs k = st at *
      gi_wp2_with (refine ⟨trivial, ?_⟩; gi_at_call 35; refine (CallsIn.inRound l (callsIn_wide.2 HW.out)).mono ?_)
      rintro e W1 ⟨rfl, hu, hb1, ho1⟩
      obtain ⟨sv, hsv⟩ := H.out.sbox
      have HU := Lib.hid hu
      clear hu
      gi_wp2
      refine ⟨ho1.keeps hb1.size ho hoc, fun v hv => Oth.box ho1 hv (by omega) (by decide), out ++ (bs.drop k).take st, c, ?_, Oth.box ho1 H.out.cnt (by omega) (by decide), ⟨sv, Oth.box ho1 hsv (by omega) (by decide)⟩, hm.1, hm.2, ?_, ?_, H.out.below.trans hb1⟩
      · have := (show Bld _ _ _ _ from .inr HU.out)
        simpa [Lib.byteCells] using this
      · rw [List.length_append, H.out.len, List.length_take, List.length_drop]; omega
      · exact Nat.le_add_right_of_le H.out.cle
  case done =>
    rintro W ⟨out, c, h⟩ hK
    have hz : bs.drop bs.length = [] := by simp
    have e1 : Asc.repL bs = out := by have := h.e1; rw [hz, Asc.repL_nil, List.append_nil] at this; exact this
    have e2 : Asc.badL bs = c := by have := h.e2; rw [hz, Asc.badL_nil] at this; exact this
    have HS := Lib.hid fun (W' : World) (e : W'.heap = W.heap) => Tryd.Builder_String_any_k w.heap.size w.heap.size out W' (bldF_same h.bld e) (by rw [e]; exact h.below.size)
    have hcnt := h.cnt.cell
    have H := Lib.hid h
    clear h
    gi_wp2
    refine then_false ?_
    gi_region_with (refine ⟨trivial, ?_⟩; gi_at_call 36; refine (callsIn_wide.2 (HS.out W.drew rfl)).mono ?_; rintro e W1 ⟨rfl, hbF, hb1, ho1⟩; have hc1 : W1.cell? ⟨w.heap.size + 1, 0, none⟩ = some (.int .i64 c) := Boxed.cell (Oth.box (W := W.drew) ho1 H.out.cnt (by omega) (by decide)))
    all_goals gi_wp2
    all_goals
      obtain ⟨o, ho, hoc⟩ := H.out.bld.isCells
      have hK' := (Oth.keeps (W := W.drew) ho1 hb1.size ho hoc).same _ _ hK rfl
      simp only [World.size_alloc] at hK'
      refine ⟨by simp, .inl ⟨_, _, rfl, run_takeDeferred hK', ?_⟩⟩
      refine ⟨_, results_tmp2 rfl _ _ _, ?_⟩
      rw [e1, e2]
      refine ⟨rfl, ?_⟩
      have hb2 : Below w.heap.size w W1 := H.out.below.trans (show Below w.heap.size W W1 from ((Below.refl _ W).drew).trans hb1)
      exact hb2.trans (belowK_b (w := w) (Nat.le_refl _) _ _ _ _ (by omega) hK' rfl rfl)

end Go.Proofs.YtloilffkggkgdaaDoor

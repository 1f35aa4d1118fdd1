/-
  The walk of AsciiRepairs.
-/
import Derived.Test.YtloilffkggkgdaaDoorAscN
import Derived.Lib.AppendStr
namespace Go.Proofs.YtloilffkggkgdaaDoor
open Go.RowKit Go.Shelf

theorem rrepair_any (v : Value) (bs : List UInt8) (w : World) (hk : 0 < w.heap.size) (hlen : bs.length ≤ 140737488351232) (h : BS w v bs) :
    Calls Tryd.prog 11 #[v] w fun e w' => e = .returned (.tuple #[.string ⟨(Asc.repL bs).toArray⟩, .int .i64 (Asc.badL bs : Nat)]) ∧ Below w.heap.size w w' := by
  obtain ⟨a, cap, rfl, hcap, h⟩ := h
  rcases Nat.eq_zero_or_pos bs.length with h0 | h0
  · exact rrepair_gen 0 0 cap a bs w hcap hlen hk (fun i hi => by omega) (fun h => by omega)
  · obtain ⟨blk, off, rfl, hl, hba⟩ := h h0
    exact rrepair_gen blk off cap _ bs w hcap hlen hl hba (fun _ => rfl)

theorem addp (b o i : Nat) : (⟨b, o, none⟩ : Addr).add i = ⟨b, o + i, none⟩ := by unfold Addr.add; split <;> simp_all
/-- A slice of bytes as it came in: nil, or an address with its cells. -/
def BSI (w : World) (v : Value) (bs : List UInt8) : Prop :=
  (v = .slice none 0 0 ∧ bs = []) ∨ ∃ ad cap, v = .slice (some ad) bs.length cap ∧ bs.length ≤ cap ∧ ∀ j u, (Lib.byteCells bs)[j]? = some u → w.cell? (ad.add j) = some u
theorem byteCells_at {bs : List UInt8} {i : Nat} (h : i < bs.length) : (Lib.byteCells bs)[i]? = some (.int .u8 (Asc.at_ bs i : Nat)) := by
  unfold Lib.byteCells
  rw [Asc.at_of h]
  simp [h]
theorem BSI.bs {w : World} {v : Value} {bs : List UInt8} (h : BSI w v bs) : BS w v bs := by
  rcases h with ⟨rfl, rfl⟩ | ⟨ad, cap, rfl, hc, h⟩
  · exact ⟨none, 0, rfl, Nat.le_refl _, fun h => by simp at h⟩
  · refine ⟨some ad, cap, rfl, hc, fun h0 => ?_⟩
    have h1 := h 0 _ (byteCells_at h0)
    have hp : ad = ⟨ad.block, ad.off, none⟩ := by
      have e0 : ad.add 0 = ad := by unfold Addr.add; simp
      rw [e0] at h1
      have := World.cell?_spot h1
      cases ad
      simp_all
    refine ⟨ad.block, ad.off, congrArg some hp, ?_, fun i hi => ?_⟩
    · have := World.block_lt_of_cell? w _ h1
      rw [hp] at this
      simpa [Addr.add] using this
    · have := h i _ (byteCells_at hi)
      rw [hp, addp] at this
      exact this
theorem BSI.below {w w' : World} {v : Value} {bs : List UInt8} (h : BSI w v bs) (hb : Below w.heap.size w w') : BSI w' v bs := by
  rcases h with ⟨rfl, rfl⟩ | ⟨ad, cap, rfl, hc, h⟩
  · exact .inl ⟨rfl, rfl⟩
  · exact .inr ⟨ad, cap, rfl, hc, fun j u hj => (hb.cell (World.block_lt_of_cell? w _ (h j u hj))).trans (h j u hj)⟩

theorem wpList_append_bs {w : World} {ops : Array Oper} {rest : List Oper} {o : Oper} {a : Act} {Q : Exit → Act → World → Prop} (hgd : o.guard = none) (s x : Operand)
    (ho : o.op = .call { callee := .builtin .append, args := #[s, x], argTypes := #[22, 22] }) (B : Nat)
    (v : Value) (n : Nat) (xs : List Value) (hs : a.eval s = v) (hown : w.ownsRow B 5 1 v n xs) (vb : Value) (bs : List UInt8) (hx : a.eval x = vb) (hbs : BSI w vb bs)
    (hn : n + bs.length ≤ 140737488355328) (hB : B ≤ w.heap.size)
    (h : ∀ v' w', w'.ownsRow B 5 1 v' (n + bs.length) (xs ++ Lib.byteCells bs) → w.grownBy w' v.ownBlock → wpList Tryd.prog ops Q rest (a.put o.dst v') w') : wpList Tryd.prog ops Q (o :: rest) a w := by
  obtain ⟨i0, hi, hz0, hz1, hz2⟩ := info_parts info5
  rcases hbs with ⟨rfl, rfl⟩ | ⟨ad, cap, rfl, hc, hcell⟩
  · refine wpList_append_own_none hgd s x 22 ho B 5 i0 1 Tryd.underlying22 hi v n xs hs hown hx (h v w ?_ (World.grownBy.refl _ _))
    simpa [Lib.byteCells] using hown
  · refine wpList_append_own w hgd s x 22 ho B 5 i0 (.int .u8 0) 1 1 Tryd.underlying22 hi hz0 hz1 hz2 rfl (by decide) v n xs hs hown ad bs.length cap (Lib.byteCells bs) hx (by rw [Lib.byteCells_length, Nat.mul_one]) hcell (one_of bs) (by unfold maxLen; omega) (by omega) hB ?_
    intro v' w' h1 h2 _
    exact h v' w' h1 h2

/-- A row of bytes of the call's own reads as a slice of bytes. -/
theorem bsi_own {w : World} {B : Nat} {v : Value} {out : List UInt8} (h : w.ownsRow B 5 1 v out.length (Lib.byteCells out)) : BSI w v out := by
  obtain ⟨hl, ⟨rfl, h0⟩ | ⟨g, cap, cur, rfl, _, hg, hn, _, hsz, htk⟩⟩ := h
  · exact .inl ⟨rfl, List.length_eq_zero_iff.1 h0⟩
  · refine .inr ⟨⟨g, 0, none⟩, cap, rfl, hn, fun j u hj => ?_⟩
    have hj2 : j < out.length := by
      have := (List.getElem?_eq_some_iff.1 hj).1
      rwa [Lib.byteCells_length] at this
    rw [show (⟨g, 0, none⟩ : Addr).add j = ⟨g, j, none⟩ by simp [Addr.add]; exact fun e => e.symm, Lib.cell_of_heap hg]
    have e : (cur.toList.take (out.length * 1))[j]? = (Lib.byteCells out)[j]? := by rw [htk]
    rw [List.getElem?_take_of_lt (by omega)] at e
    simp only [Array.getElem?_toList] at e
    rw [e]
    exact hj

/-- A store into a row of bytes of the call's own. -/
theorem own_set {w : World} {B g cap : Nat} {out : List UInt8} (h : w.ownsRow B 5 1 (.slice (some ⟨g, 0, none⟩) out.length cap) out.length (Lib.byteCells out)) (k : Nat) (hk : k < out.length) (c : UInt8) :
    BSI (w.setCell ⟨g, k, none⟩ (.int .u8 (c.toNat : Int))) (.slice (some ⟨g, 0, none⟩) out.length cap) (out.set k c) := by
  have hb := bsi_own h
  rcases hb with ⟨hv, _⟩ | ⟨ad, cp, hv, hc, hcell⟩
  · cases hv
  · cases hv
    refine .inr ⟨⟨g, 0, none⟩, cap, by rw [List.length_set], by rw [List.length_set]; exact hc, fun j u hj => ?_⟩
    have hj2 : j < out.length := by
      have := (List.getElem?_eq_some_iff.1 hj).1
      rwa [Lib.byteCells_length, List.length_set] at this
    have h0 := hcell j _ (byteCells_at hj2)
    have hk0 := hcell k _ (byteCells_at hk)
    rw [addp, Nat.zero_add] at h0 hk0 ⊢
    unfold Lib.byteCells at hj
    rw [List.getElem?_map, List.getElem?_set] at hj
    by_cases e : k = j
    · subst e
      rw [if_pos rfl, if_pos hk] at hj
      rw [World.cell?_setCell_same _ _ _ hk0]
      exact hj
    · rw [if_neg e, ← List.getElem?_map] at hj
      rw [World.cell?_setCell_other _ _ _ _ (by intro h; simp only [Addr.mk.injEq] at h; omega), h0]
      rw [← byteCells_at hj2]
      exact hj

/-- A row of the call's own, whatever its form. -/
structure Mix (B : Nat) (ms : List UInt8) (a : Option Addr) (cap : Nat) (w : World) : Prop where
  own : w.ownsRow B 5 1 (.slice a ms.length cap) ms.length (Lib.byteCells ms)
  addr : 0 < ms.length → ∃ g, a = some ⟨g, 0, none⟩ ∧ B ≤ g ∧ (∀ i, i < ms.length → w.frozen? ⟨g, i, none⟩ = false)
theorem mix_of {B : Nat} {v : Value} {l bs ms : List UInt8} {w : World} (h : w.ownsRow B 5 1 v (0 + (ByteArray.mk l.toArray).size + bs.length) ([] ++ Lib.strCells ⟨l.toArray⟩ ++ Lib.byteCells bs)) (hm : ms = l ++ bs) :
    ∃ a cap, v = .slice a ms.length cap ∧ Mix B ms a cap w := by
  have e1 : 0 + (ByteArray.mk l.toArray).size + bs.length = ms.length := by rw [ba_size, hm, List.length_append]; omega
  have e2 : [] ++ Lib.strCells ⟨l.toArray⟩ ++ Lib.byteCells bs = Lib.byteCells ms := by rw [hm]; simp [Lib.strCells, Lib.byteCells]
  rw [e1, e2] at h
  obtain ⟨hl, ⟨rfl, h0⟩ | ⟨g, cap, cur, rfl, hB, hg, hn, hx, hsz, htk⟩⟩ := h
  · refine ⟨none, 0, by rw [h0], ⟨⟨hl, .inl ⟨by rw [h0], h0⟩⟩, fun h => by omega⟩⟩
  · exact ⟨some ⟨g, 0, none⟩, cap, rfl, ⟨hl, .inr ⟨g, cap, cur, rfl, hB, hg, hn, hx, hsz, htk⟩⟩, fun _ => ⟨g, rfl, hB, fun i _ => Lib.frozen_of_heap hg i⟩⟩

theorem mix_cell {B : Nat} {ms : List UInt8} {g cap : Nat} {w : World} (h : Mix B ms (some ⟨g, 0, none⟩) cap w) (i : Nat) (hi : i < ms.length) : w.cell? ⟨g, i, none⟩ = some (.int .u8 (Asc.at_ ms i : Nat)) := by
  rcases bsi_own h.own with ⟨hv, _⟩ | ⟨ad, cp, hv, _, hc⟩
  · cases hv
  · cases hv
    have := hc i _ (byteCells_at hi)
    rwa [addp, Nat.zero_add] at this

theorem i64_succ (k : Nat) : Value.int .i64 ((k : Int) + 1) = .int .i64 ((k + 1 : Nat) : Int) := rfl
theorem xor_u8 (x : Int) : ∃ c : UInt8, bits BinOp.xor IntKind.u8 x 128 = (c.toNat : Int) := by
  have h : 0 ≤ bits BinOp.xor IntKind.u8 x 128 ∧ bits BinOp.xor IntKind.u8 x 128 < 256 := by
    show 0 ≤ IntKind.u8.wrap _ ∧ IntKind.u8.wrap _ < 256
    rw [IntKind.wrap_u8]
    omega
  refine ⟨UInt8.ofNat (bits BinOp.xor IntKind.u8 x 128).toNat, ?_⟩
  rw [Asc.ofNat_toNat8 (by omega)]
  omega
theorem BSI.form {w : World} {v : Value} {bs : List UInt8} (h : BSI w v bs) : ∃ a cap, v = .slice a bs.length cap := by
  rcases h with ⟨rfl, rfl⟩ | ⟨ad, cap, rfl, _, _⟩
  · exact ⟨none, 0, rfl⟩
  · exact ⟨_, _, rfl⟩
theorem NewBytes.bs {w : World} {l : List UInt8} {cap : Nat} {w' : World} (h : NewBytes w l cap w') : BS w' (.slice (some ⟨w.heap.size, 0, none⟩) l.length cap) l :=
  ⟨_, _, rfl, h.room, fun _ => ⟨w.heap.size, 0, rfl, by rw [h.size]; omega, h.cells⟩⟩
/-- The three slices that the law looks at. -/
def Three (B : Nat) (w : World) : Prop := ∀ k, k < 3 → ∃ a cap xs, w.cell? ⟨B, k, none⟩ = some (.slice a xs.length cap) ∧ BS w (.slice a xs.length cap) xs ∧ xs.length ≤ 2097152
theorem three_mk {w : World} {v1 v2 v3 : Value} {x1 x2 x3 : List UInt8} (h1 : BSI w v1 x1) (h2 : BSI w v2 x2) (h3 : BS w v3 x3) (l1 : x1.length ≤ 2097152) (l2 : x2.length ≤ 2097152) (l3 : x3.length ≤ 2097152) (t : TypeId) :
    Three w.heap.size (w.alloc (.cells #[v1, v2, v3] t)) := by
  have hb : Below w.heap.size w (w.alloc (.cells #[v1, v2, v3] t)) := (Below.refl _ _).alloc (Nat.le_refl _) _
  have hc : ∀ k v, #[v1, v2, v3][k]? = some v → (w.alloc (.cells #[v1, v2, v3] t)).cell? ⟨w.heap.size, k, none⟩ = some v := fun k v h => by
    rw [Lib.cell_of_heap (World.alloc_heap_new w _)]; exact h
  have key : ∀ k v xs, #[v1, v2, v3][k]? = some v → BS w v xs → xs.length ≤ 2097152 → ∃ a cap xs, (w.alloc (.cells #[v1, v2, v3] t)).cell? ⟨w.heap.size, k, none⟩ = some (.slice a xs.length cap) ∧ BS (w.alloc (.cells #[v1, v2, v3] t)) (.slice a xs.length cap) xs ∧ xs.length ≤ 2097152 := fun k v xs hk hbs hl => by
    have hbs' := hbs.below hb
    obtain ⟨a, cap, rfl, _, _⟩ := hbs
    exact ⟨a, cap, xs, hc k _ hk, hbs', hl⟩
  intro k hk
  obtain rfl | rfl | rfl : k = 0 ∨ k = 1 ∨ k = 2 := by omega
  · exact key 0 v1 x1 rfl h1.bs l1
  · exact key 1 v2 x2 rfl h2.bs l2
  · exact key 2 v3 x3 rfl h3 l3
theorem Three.below {B : Nat} {w w' : World} (h : Three B w) (hB : B < w.heap.size) (hb : Below w.heap.size w w') : Three B w' := fun k hk => by
  obtain ⟨a, cap, xs, hc, hbs, hl⟩ := h k hk
  exact ⟨a, cap, xs, (hb.cell (p := ⟨B, k, none⟩) hB).trans hc, hbs.below hb, hl⟩

set_option maxRecDepth 100000 in
set_option maxHeartbeats 4000000 in
theorem repairs_core (vb : Value) (bs l : List UInt8) (c : Nat) (hc : c < 256) (w : World) (hk : Kinds w) (hbs : BSI w vb bs) (h1 : bs.length ≤ 1048576) (h2 : l.length ≤ 1048576) :
    Calls Tryd.prog 3 #[vb, .string ⟨l.toArray⟩, .int .u8 c] w fun e w' => e = .returned (.bool true) ∧ Below w.heap.size w w' := by
  obtain ⟨i0, hi, hz0, hz1, hz2⟩ := info_parts info5
  obtain ⟨ab, cb, rfl⟩ := hbs.form
  have HA := Lib.hid (awake_any w hk)
  have HB := Lib.hid hbs
  have HK := Lib.hid hk
  have hl0 : (ByteArray.mk l.toArray).size ≤ 1048576 := by rw [ba_size]; exact h2
  have q1 : Hid (0 + (ByteArray.mk l.toArray).size ≤ maxLen) := (show 0 + (ByteArray.mk l.toArray).size ≤ maxLen by unfold maxLen; omega)
  have q2 : Hid (0 + (ByteArray.mk l.toArray).size ≤ 140737488355328) := (show 0 + (ByteArray.mk l.toArray).size ≤ 140737488355328 by omega)
  have q3 : Hid (0 + (ByteArray.mk l.toArray).size + bs.length ≤ 140737488355328) := (show 0 + (ByteArray.mk l.toArray).size + bs.length ≤ 140737488355328 by omega)
  obtain ⟨ms, hms⟩ : ∃ ms, ms = l ++ bs := ⟨_, rfl⟩
  have hml : ms.length ≤ 2097152 := by rw [hms, List.length_append]; omega
  have HM := Lib.hid hms
  clear hk hbs hms
  have hr1 : 0 < ms.length → 0 ≤ (c : Int) % (ms.length : Int) := fun h => Int.emod_nonneg _ (by omega)
  have hr2 : 0 < ms.length → (c : Int) % (ms.length : Int) < (ms.length : Int) := fun h => Int.emod_lt_of_pos _ (by omega)
  by_cases h0 : 0 < ms.length
  · have hr3 := hr1 h0
    have hr4 := hr2 h0
    clear hr1 hr2
    go_enter Tryd.func3, Tryd.ntmps3
    go_wp2_with (first | (go_at_call 9; refine HA.out.mono ?_; rintro e w1 ⟨rfl, hb1⟩) | (at_builtin; refine Lib.wpList_append_own_string _ rfl (.const (.slice none 0 0)) (.tmp 18) 22 9 rfl w.heap.size 5 i0 Tryd.underlying22 Tryd.underlying9 hi hz0 hz1 hz2 (.slice none 0 0) 0 [] rfl ⟨rfl, .inl ⟨rfl, rfl⟩⟩ ⟨l.toArray⟩ rfl q1.out q2.out hb1.size ?_; intro v1 w2 hown1 hg1 _; have hb2 : Below w.heap.size w w2 := hb1.grown hg1 hb1.size (fun k hk => by cases hk)) | (at_builtin; refine wpList_append_bs rfl (.tmp 19) (.tmp 20) rfl w.heap.size v1 _ _ rfl hown1 _ bs rfl (HB.out.below hb2) q3.out hb2.size ?_; intro v2 w3 hown2 hg2; have hb3 : Below w.heap.size w w3 := hb2.grown hg2 hb2.size (fun k hk => (hown1.lt k hk).1); obtain ⟨a2, cap2, hv2, hmix⟩ := mix_of hown2 HM.out; obtain ⟨g, hga, hgB, hgf⟩ := hmix.addr h0; subst hga; subst hv2; have HX := Lib.hid hmix; have hcell := mix_cell hmix (c % ms.length) (Nat.mod_lt _ h0); have hfr := hgf (c % ms.length) (Nat.mod_lt _ h0); obtain ⟨c2, hxor⟩ := xor_u8 (Asc.at_ ms (c % ms.length) : Nat); clear hown1 hown2 hg1 hg2 hmix hgf))
    generalize hW4 : w3.setCell ⟨g, c % ms.length, none⟩ (.int .u8 (c2.toNat : Int)) = w4
    have hb4 : Below w.heap.size w w4 := by rw [← hW4]; exact hb3.setCell (p := ⟨g, c % ms.length, none⟩) hgB _
    have HBM : Hid (BSI w4 (.slice (some ⟨g, 0, none⟩) ms.length cap2) (ms.set (c % ms.length) c2)) := (show BSI _ _ _ by rw [← hW4]; exact own_set HX.out.own _ (Nat.mod_lt _ h0) c2)
    have HBV := Lib.hid (HB.out.below hb4)
    have hsl : (ms.set (c % ms.length) c2).length ≤ 2097152 := by rw [List.length_set]; exact hml
    clear hW4 hcell hfr hxor
    obtain ⟨cap3, w5, nb⟩ := conv_bytes w4 l
    rw [nb.run]
    have NB := Lib.hid nb
    have hb5 : Below w.heap.size w w5 := hb4.trans (nb.below.mono hb4.size)
    clear nb
    simp only [Result.andThen]
    rw [Oper.upon_value]
    go_wp2_with fail
    have HT := Lib.hid (three_mk (HBV.out.below NB.out.below) (HBM.out.below NB.out.below) NB.out.bs (by omega) (by omega) (by omega) 22)
    have hz5 : w5.heap.size < (w5.alloc (.cells #[.slice ab bs.length cb, (.slice (some ⟨g, 0, none⟩) ms.length cap2), .slice (some ⟨w4.heap.size, 0, none⟩) l.length cap3] 22)).heap.size := by simp
    have hb6 : Below w.heap.size w (w5.alloc (.cells #[.slice ab bs.length cb, (.slice (some ⟨g, 0, none⟩) ms.length cap2), .slice (some ⟨w4.heap.size, 0, none⟩) l.length cap3] 22)) := hb5.alloc hb5.size _
    generalize hW6 : w5.alloc (.cells #[.slice ab bs.length cb, (.slice (some ⟨g, 0, none⟩) ms.length cap2), .slice (some ⟨w4.heap.size, 0, none⟩) l.length cap3] 22) = w6 at *
    have HW6 := Lib.hid hW6
    clear hW6
    go_loopw [41] (fun i wr => ∃ k : Nat, k ≤ 3 ∧ i = .int .i64 k ∧ Below w6.heap.size w6 wr) (fun i _ => 3 - (intOf i).toNat)
    case atStart => exact ⟨0, by omega, rfl, Below.refl _ _⟩
    case round =>
      obtain ⟨k, hk3, rfl, hbr⟩ := hrel
      by_cases hlt : k < 3
      · obtain ⟨ax, cx, xs, hcx, hbx, hxl⟩ := (HT.out.below hz5 hbr) k hlt
        have hsz : w6.heap.size ≤ wr.heap.size := hbr.size
        have HR1 := Lib.hid (repair_any _ xs wr (by omega) (by omega) hbx)
        have HR2 := Lib.hid fun w (h0 : 0 < w.heap.size) h => rrepair_any _ xs w h0 (by omega) (h : BS w (.slice ax xs.length cx) xs)
        have HBX := Lib.hid hbx
        have HPL := Lib.hid (Asc.repL_length xs)
        have hPb : (Asc.repL xs).length ≤ 2097152 := by rw [HPL.out]; exact hxl
        have HAG := Lib.hid (Asc.repL_again xs)
        clear hbx
        generalize hP : Asc.repL xs = P at *
        clear hP
        have hd3 : decide ((k : Int) < 3) = true := by simp; omega
        go_wp2_with (go_at_call 10; refine HR1.out.mono ?_; rintro e w7 ⟨rfl, hb7⟩)
        refine (HR2.out w7 (by have := hb7.size; omega) (HBX.out.below hb7)).mono ?_
        rintro e w8 ⟨rfl, hb8⟩
        go_wp2_with fail
        obtain ⟨cap9, w9, nb9⟩ := conv_bytes w8 P
        rw [nb9.run]
        have h8 : 0 < w8.heap.size := by have := hb7.size; have := hb8.size; omega
        have h9 : 0 < w9.heap.size := by have := nb9.size; omega
        have HR3 := Lib.hid (repair_any _ P w9 h9 (by omega) nb9.bs)
        have hb9 := nb9.below
        rw [HAG.out.1, HAG.out.2] at HR3
        clear nb9
        simp only [Result.andThen]
        rw [Oper.upon_value]
        go_wp2_with (go_at_call 10; refine HR3.out.mono ?_; rintro e w10 ⟨rfl, hb10⟩; have hPl := HPL.out)
        go_roundw
        case rel => exact ⟨k + 1, hlt, i64_succ k, hbr.trans ((below_seq (below_seq (below_seq hb7 hb8) hb9) hb10).mono hbr.size)⟩
        case measure => simp [intOf]; omega
      · go_wp2_with fail
        go_ret
        exact ⟨rfl, hb6.trans (hbr.mono hb6.size)⟩
  · have hm0 : ms.length ≤ 0 := by omega
    clear hr1 hr2 h0
    go_enter Tryd.func3, Tryd.ntmps3
    go_wp2_with (first | (go_at_call 9; refine HA.out.mono ?_; rintro e w1 ⟨rfl, hb1⟩) | (at_builtin; refine Lib.wpList_append_own_string _ rfl (.const (.slice none 0 0)) (.tmp 18) 22 9 rfl w.heap.size 5 i0 Tryd.underlying22 Tryd.underlying9 hi hz0 hz1 hz2 (.slice none 0 0) 0 [] rfl ⟨rfl, .inl ⟨rfl, rfl⟩⟩ ⟨l.toArray⟩ rfl q1.out q2.out hb1.size ?_; intro v1 w2 hown1 hg1 _; have hb2 : Below w.heap.size w w2 := hb1.grown hg1 hb1.size (fun k hk => by cases hk)) | (at_builtin; refine wpList_append_bs rfl (.tmp 19) (.tmp 20) rfl w.heap.size v1 _ _ rfl hown1 _ bs rfl (HB.out.below hb2) q3.out hb2.size ?_; intro v2 w3 hown2 hg2; have hb3 : Below w.heap.size w w3 := hb2.grown hg2 hb2.size (fun k hk => (hown1.lt k hk).1); obtain ⟨a2, cap2, hv2, hmix⟩ := mix_of hown2 HM.out; subst hv2; have HX := Lib.hid hmix; clear hown1 hown2 hg1 hg2 hmix))
    have hb4 : Below w.heap.size w w3 := hb3
    obtain ⟨w4, hw4⟩ : ∃ w4, w4 = w3 := ⟨_, rfl⟩
    subst hw4
    have HBM := Lib.hid (bsi_own HX.out.own)
    have HBV := Lib.hid (HB.out.below hb4)
    have hsl : ms.length ≤ 2097152 := hml
    obtain ⟨cap3, w5, nb⟩ := conv_bytes w4 l
    rw [nb.run]
    have NB := Lib.hid nb
    have hb5 : Below w.heap.size w w5 := hb4.trans (nb.below.mono hb4.size)
    clear nb
    simp only [Result.andThen]
    rw [Oper.upon_value]
    go_wp2_with fail
    have HT := Lib.hid (three_mk (HBV.out.below NB.out.below) (HBM.out.below NB.out.below) NB.out.bs (by omega) (by omega) (by omega) 22)
    have hz5 : w5.heap.size < (w5.alloc (.cells #[.slice ab bs.length cb, (.slice a2 ms.length cap2), .slice (some ⟨w4.heap.size, 0, none⟩) l.length cap3] 22)).heap.size := by simp
    have hb6 : Below w.heap.size w (w5.alloc (.cells #[.slice ab bs.length cb, (.slice a2 ms.length cap2), .slice (some ⟨w4.heap.size, 0, none⟩) l.length cap3] 22)) := hb5.alloc hb5.size _
    generalize hW6 : w5.alloc (.cells #[.slice ab bs.length cb, (.slice a2 ms.length cap2), .slice (some ⟨w4.heap.size, 0, none⟩) l.length cap3] 22) = w6 at *
    have HW6 := Lib.hid hW6
    clear hW6
    go_loopw [41] (fun i wr => ∃ k : Nat, k ≤ 3 ∧ i = .int .i64 k ∧ Below w6.heap.size w6 wr) (fun i _ => 3 - (intOf i).toNat)
    case atStart => exact ⟨0, by omega, rfl, Below.refl _ _⟩
    case round =>
      obtain ⟨k, hk3, rfl, hbr⟩ := hrel
      by_cases hlt : k < 3
      · obtain ⟨ax, cx, xs, hcx, hbx, hxl⟩ := (HT.out.below hz5 hbr) k hlt
        have hsz : w6.heap.size ≤ wr.heap.size := hbr.size
        have HR1 := Lib.hid (repair_any _ xs wr (by omega) (by omega) hbx)
        have HR2 := Lib.hid fun w (h0 : 0 < w.heap.size) h => rrepair_any _ xs w h0 (by omega) (h : BS w (.slice ax xs.length cx) xs)
        have HBX := Lib.hid hbx
        have HPL := Lib.hid (Asc.repL_length xs)
        have hPb : (Asc.repL xs).length ≤ 2097152 := by rw [HPL.out]; exact hxl
        have HAG := Lib.hid (Asc.repL_again xs)
        clear hbx
        generalize hP : Asc.repL xs = P at *
        clear hP
        have hd3 : decide ((k : Int) < 3) = true := by simp; omega
        go_wp2_with (go_at_call 10; refine HR1.out.mono ?_; rintro e w7 ⟨rfl, hb7⟩)
        refine (HR2.out w7 (by have := hb7.size; omega) (HBX.out.below hb7)).mono ?_
        rintro e w8 ⟨rfl, hb8⟩
        go_wp2_with fail
        obtain ⟨cap9, w9, nb9⟩ := conv_bytes w8 P
        rw [nb9.run]
        have h8 : 0 < w8.heap.size := by have := hb7.size; have := hb8.size; omega
        have h9 : 0 < w9.heap.size := by have := nb9.size; omega
        have HR3 := Lib.hid (repair_any _ P w9 h9 (by omega) nb9.bs)
        have hb9 := nb9.below
        rw [HAG.out.1, HAG.out.2] at HR3
        clear nb9
        simp only [Result.andThen]
        rw [Oper.upon_value]
        go_wp2_with (go_at_call 10; refine HR3.out.mono ?_; rintro e w10 ⟨rfl, hb10⟩; have hPl := HPL.out)
        go_roundw
        case rel => exact ⟨k + 1, hlt, i64_succ k, hbr.trans ((below_seq (below_seq (below_seq hb7 hb8) hb9) hb10).mono hbr.size)⟩
        case measure => simp [intOf]; omega
      · go_wp2_with fail
        go_ret
        exact ⟨rfl, hb6.trans (hbr.mono hb6.size)⟩

end Go.Proofs.YtloilffkggkgdaaDoor

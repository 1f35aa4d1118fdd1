/-
  The reference's Repair: the same string and the same number of damaged bytes.
-/
import Derived.Test.YtloilffkggkgdaaDoorAscM
namespace Go.Proofs.YtloilffkggkgdaaDoor
open Go.RowKit Go.Shelf

/-- 'string(b)' of a row of bytes of the call's own. -/
theorem conv_own {w : World} {B : Nat} {v : Value} {out : List UInt8} (h : w.ownsRow B 5 1 v out.length (Lib.byteCells out)) :
    (convert 22 9 v).run Tryd.prog w = .ok (.string ⟨out.toArray⟩) w := by
  obtain ⟨_, ⟨rfl, h0⟩ | ⟨g, cap, cur, rfl, _, hg, hn, _, hsz, htk⟩⟩ := h
  · obtain rfl := List.length_eq_zero_iff.1 h0
    exact run_convert_bytes_nil w 22 5 Tryd.underlying22 Tryd.underlying5 0 0 9 Tryd.underlying9
  · refine run_convert_bytes_back w 22 9 5 ⟨g, 0, none⟩ cap out Tryd.underlying22 Tryd.underlying5 Tryd.underlying9 fun j hj => ?_
    rw [show (⟨g, 0, none⟩ : Addr).add j = ⟨g, j, none⟩ by simp [Addr.add]; exact fun e => e.symm, Lib.cell_of_heap hg]
    have e : (cur.toList.take (out.length * 1))[j]? = (Lib.byteCells out)[j]? := by rw [htk]
    rw [List.getElem?_take_of_lt (by omega)] at e
    simp only [Array.getElem?_toList] at e
    rw [e]
    unfold Lib.byteCells
    simp [hj]

/-- What the reference's loop keeps. -/
structure RRI (w : World) (bs : List UInt8) (k : Nat) (out : List UInt8) (c : Nat) (v : Value) (W : World) : Prop where
  own : W.ownsRow w.heap.size 5 1 v out.length (Lib.byteCells out)
  e1 : Asc.repL bs = out ++ Asc.repL (bs.drop k)
  e2 : Asc.badL bs = c + Asc.badL (bs.drop k)
  len : out.length = k
  cle : c ≤ k
  below : Below w.heap.size w W

theorem RRI.bad {w : World} {bs : List UInt8} {k : Nat} {out : List UInt8} {c : Nat} {v : Value} {W : World} (h : RRI w bs k out c v W) (hk : k < bs.length) (hv : Asc.vlen (bs.drop k) = 0) {v' : Value} {W' : World} {o : Obj}
    (ho : W'.ownsRow w.heap.size 5 1 v' (out.length + 1) (Lib.byteCells out ++ [.int .u8 63])) (hg : (W.alloc o).grownBy W' v.ownBlock) : RRI w bs (k + 1) (out ++ [63]) (c + 1) v' W' := by
  have h0 : bs.drop k ≠ [] := fun e => by have := congrArg List.length e; simp at this; omega
  obtain ⟨a1, a2⟩ := Asc.repL_bad h0 hv
  rw [List.drop_drop] at a1 a2
  refine ⟨?_, by rw [h.e1, a1]; simp, by rw [h.e2, a2]; omega, by simp [h.len], by have := h.cle; omega, ?_⟩
  · have e : Lib.byteCells (out ++ [63]) = Lib.byteCells out ++ [.int .u8 63] := by simp [Lib.byteCells]
    rw [e, List.length_append]; exact ho
  · exact h.below.trans (((Below.refl _ W).alloc h.below.size _).grown hg (by have := h.below.size; simp; omega) (fun k hk => (h.own.lt k hk).1))
theorem RRI.good {w : World} {bs : List UInt8} {k : Nat} {out : List UInt8} {c : Nat} {v : Value} {W : World} (h : RRI w bs k out c v W) (hk : k < bs.length) (hv : Asc.vlen (bs.drop k) ≠ 0) {v' : Value} {W' : World}
    (ho : W'.ownsRow w.heap.size 5 1 v' (out.length + Asc.vlen (bs.drop k)) (Lib.byteCells out ++ Lib.byteCells ((bs.drop k).take (Asc.vlen (bs.drop k))))) (hg : W.grownBy W' v.ownBlock) :
    RRI w bs (k + Asc.vlen (bs.drop k)) (out ++ (bs.drop k).take (Asc.vlen (bs.drop k))) c v' W' := by
  have h0 : bs.drop k ≠ [] := fun e => by have := congrArg List.length e; simp at this; omega
  have hle := Asc.vlen_le (bs.drop k)
  obtain ⟨a1, a2⟩ := Asc.repL_good h0 hv
  rw [List.drop_drop] at a1 a2
  have hl : ((bs.drop k).take (Asc.vlen (bs.drop k))).length = Asc.vlen (bs.drop k) := by rw [List.length_take]; omega
  refine ⟨?_, by rw [h.e1, a1]; simp, by rw [h.e2, a2], by rw [List.length_append, hl, h.len], by have := h.cle; omega, ?_⟩
  · have e : Lib.byteCells (out ++ (bs.drop k).take (Asc.vlen (bs.drop k))) = Lib.byteCells out ++ Lib.byteCells ((bs.drop k).take (Asc.vlen (bs.drop k))) := by simp [Lib.byteCells]
    rw [e, List.length_append, hl]; exact ho
  · exact h.below.trans ((Below.refl _ W).grown hg h.below.size (fun k hk => (h.own.lt k hk).1))

set_option maxRecDepth 100000 in
set_option maxHeartbeats 2000000 in
theorem rrepair_gen (blk off cap : Nat) (a : Option Addr) (bs : List UInt8) (w : World) (hcap : bs.length ≤ cap) (hlen : bs.length ≤ 140737488351232) (hblk : blk < w.heap.size) (hc : BA w blk off bs) (ha : 0 < bs.length → a = some ⟨blk, off, none⟩) :
    Calls Tryd.prog 11 #[.slice a bs.length cap] w fun e w' => e = .returned (.tuple #[.string ⟨(Asc.repL bs).toArray⟩, .int .i64 (Asc.badL bs : Nat)]) ∧ Below w.heap.size w w' := by
  obtain ⟨i0, hi, hz0, hz1, hz2⟩ := info_parts info5
  have HC := Lib.hid hc
  have HA := Lib.hid ha
  clear hc ha
  go_enter Tryd.func11, Tryd.ntmps11
  go_wp2_with fail
  go_loopw [4, 5, 6] (fun v n i wr => ∃ k out c, k ≤ bs.length ∧ i = .int .i64 (k : Nat) ∧ n = .int .i64 (c : Nat) ∧ RRI w bs k out c v wr) (fun _ _ i _ => bs.length - (intOf i).toNat)
  case atStart => exact ⟨0, [], 0, by omega, rfl, rfl, ⟨⟨rfl, .inl ⟨rfl, rfl⟩⟩, rfl, by simp, rfl, by omega, Below.refl _ _⟩⟩
  case round =>
    obtain ⟨k, out, c, hk, rfl, rfl, hr⟩ := hrel
    by_cases hlt : k < bs.length
    · have hw := hr.below
      have hcl := hr.cle
      have hln := Nat.le_of_eq hr.len
      have ea := HA.out (by omega)
      subst ea
      have hcw : BA wr blk off bs := HC.out.below fun i _ => hw.cell (p := ⟨blk, off + i, none⟩) hblk
      have HS := Lib.hid (seq_any blk off cap k bs wr hcw hlt hlen)
      have HR := Lib.hid hr
      have HW := Lib.hid hcw
      have hsz := hw.size
      clear hr hcw hw
      by_cases hv : Asc.vlen (bs.drop k) = 0
      · rw [hv] at HS
        have HV := Lib.hid hv
        have hwr : wrap64 ((c : Int) + 1) = (c : Int) + 1 := by unfold wrap64; omega
        have hown := HR.out.own
        clear hv
        go_wp2_with (first | (go_at_call 37; refine HS.out.mono ?_; rintro e w' ⟨rfl, rfl⟩) | (at_builtin; refine wpList_append_own _ rfl _ _ 22 rfl w.heap.size 5 i0 (.int .u8 0) 1 1 Tryd.underlying22 hi hz0 hz1 hz2 rfl (by decide) _ _ _ rfl (hown.alloc _) ⟨wr.heap.size, 0, none⟩ 1 1 [.int .u8 63] rfl rfl ?c1 ?c2 ?c3 ?c4 ?c5 ?_))
        case c1 =>
          intro j u hj
          match j, hj with
          | 0, hj => simp at hj; subst hj; simp [Addr.add]
        case c2 => intro u hu; simp at hu; subst hu; rfl
        case c3 => unfold maxLen; omega
        case c4 => omega
        case c5 => simp; omega
        intro v' w2 hown' hgrow _
        have HN := Lib.hid (HR.out.bad hlt HV.out hown' hgrow)
        clear hown hown' hgrow
        go_wp2_with fail
        go_roundw
        case rel => exact ⟨k + 1, out ++ [63], c + 1, by omega, by go_num, by go_num, HN.out⟩
        case measure => simp [intOf]; omega
      · have hle := Asc.vlen_le (bs.drop k)
        rw [List.length_drop] at hle
        have HV := Lib.hid hv
        have HG := Lib.hid fun v' W' => HR.out.good hlt hv (v' := v') (W' := W')
        have HNW := Lib.hid (news_of (w := w) (W := wr) HC.out HR.out.below hblk k (Asc.vlen (bs.drop k)))
        have HL := Lib.hid (show (Lib.byteCells ((bs.drop k).take (Asc.vlen (bs.drop k)))).length = Asc.vlen (bs.drop k) by rw [Lib.byteCells_length, List.length_take, List.length_drop]; omega)
        have HO := Lib.hid (one_of ((bs.drop k).take (Asc.vlen (bs.drop k))))
        have hown := HR.out.own
        generalize Asc.vlen (bs.drop k) = vl at *
        have hv1 : 1 ≤ vl := by omega
        have hv2 : ((vl : Int) == 0) = false := by rw [beq_eq_false_iff_ne]; omega
        clear hv
        go_wp2_with (first | (go_at_call 37; refine HS.out.mono ?_; rintro e w' ⟨rfl, rfl⟩) | (at_builtin; refine wpList_append_own _ rfl _ _ 22 rfl w.heap.size 5 i0 (.int .u8 0) 1 1 Tryd.underlying22 hi hz0 hz1 hz2 rfl (by decide) _ _ _ rfl hown ⟨blk, off + k, none⟩ (k + vl - k) (cap - k) (Lib.byteCells ((bs.drop k).take vl)) rfl ?d0 ?d1 ?d2 ?d3 ?d4 ?d5 ?_))
        case d0 => rw [HL.out]; omega
        case d1 => exact HNW.out
        case d2 => exact HO.out
        case d3 => unfold maxLen; omega
        case d4 => omega
        case d5 => omega
        intro v' w2 hown' hgrow _
        have HN := Lib.hid (HG.out v' w2 hown' hgrow)
        clear hown hown' hgrow
        go_wp2_with fail
        go_roundw
        case rel => exact ⟨k + vl, _, c, by omega, by go_num, rfl, HN.out⟩
        case measure => simp [intOf]; omega
    · have hke : k = bs.length := by omega
      subst hke
      have hz : bs.drop bs.length = [] := by simp
      have e1 : Asc.repL bs = out := by have := hr.e1; rw [hz, Asc.repL_nil, List.append_nil] at this; exact this
      have e2 : Asc.badL bs = c := by have := hr.e2; rw [hz, Asc.badL_nil] at this; exact this
      have hcv := conv_own hr.own
      have HB := Lib.hid hr.below
      have E1 := Lib.hid e1
      have E2 := Lib.hid e2
      clear e1 e2 hr hz
      go_wp2_with fail
      go_ret2
      exact ⟨by rw [E1.out, E2.out]; rfl, HB.out⟩

end Go.Proofs.YtloilffkggkgdaaDoor

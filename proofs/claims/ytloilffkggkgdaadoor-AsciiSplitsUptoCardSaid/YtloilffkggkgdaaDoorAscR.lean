/-
  Fields of the reference; SameStrings; the walk of AsciiSplits.
-/
import Derived.Test.YtloilffkggkgdaaDoorAscQ
namespace Go.Proofs.YtloilffkggkgdaaDoor
open Go.RowKit

namespace Asc
theorem flds_close {l : List UInt8} {k m : Nat} (hkm : k < m) (hm : m ≤ l.length) (hx : ∀ h : m < l.length, sp l[m] = true) : flds (l.drop m) (seg l k m) = seg l k m :: flds (l.drop m) [] := by
  have he := seg_isEmpty l hkm hm
  rcases Nat.lt_or_ge m l.length with c | c
  · rw [flds_sp c (hx c), flds_sp c (hx c)]
    simp [he]
  · obtain rfl : m = l.length := by omega
    rw [flds_end, flds_end]
    simp [he]
end Asc

theorem infoStr : (Tryd.prog.info? 9).map (fun i => (i.zero, i.size, i.bytes)) = some (some (.string ⟨#[]⟩), 1, 16) := by kernel_rfl

structure RFI (w : World) (l : List UInt8) (k : Nat) (out : List (List UInt8)) (v : Value) (W : World) : Prop where
  own : W.ownsRow w.heap.size 9 1 v out.length (strCellsL out)
  eq : out ++ Asc.flds (l.drop k) [] = Asc.fields l
  below : Below w.heap.size w W
  len : out.length ≤ k
theorem RFI.skip {w : World} {l : List UInt8} {k : Nat} {out : List (List UInt8)} {v : Value} {W : World} (h : RFI w l k out v W) (hk : k < l.length) (hs : Asc.sp l[k] = true) : RFI w l (k + 1) out v W :=
  ⟨h.own, by rw [← h.eq, Asc.flds_sp hk hs]; simp, h.below, by have := h.len; omega⟩
theorem RFI.take {w : World} {l : List UInt8} {k m : Nat} {out : List (List UInt8)} {v : Value} {W : World} (h : RFI w l k out v W) (hkm : k < m) (hm : m ≤ l.length) (hn : ∀ j (hj : j < l.length), k ≤ j → j < m → Asc.sp l[j] = false)
    (hx : ∀ h : m < l.length, Asc.sp l[m] = true) {v' : Value} {W' : World} {o : Obj} (ho : W'.ownsRow w.heap.size 9 1 v' (out.length + 1) (strCellsL out ++ [.string ⟨(Asc.seg l k m).toArray⟩])) (hg : (W.alloc o).grownBy W' v.ownBlock) :
    RFI w l m (out ++ [Asc.seg l k m]) v' W' := by
  refine ⟨?_, ?_, own_step h.below h.own hg, by have := h.len; simp; omega⟩
  · have e : strCellsL (out ++ [Asc.seg l k m]) = strCellsL out ++ [.string ⟨(Asc.seg l k m).toArray⟩] := by simp [strCellsL]
    rw [e, List.length_append]
    exact ho
  · rw [← h.eq]
    have e := Asc.flds_skip l (m - k) k [] (by omega) (fun j hj h1 h2 => hn j hj h1 (by omega))
    rw [show k + (m - k) = m by omega, List.nil_append, Asc.flds_close hkm hm hx] at e
    rw [e]
    simp

set_option maxRecDepth 100000 in
set_option maxHeartbeats 4000000 in
theorem rfields_any (l : List UInt8) (w : World) (hs : l.length ≤ 4000000000) :
    Calls Tryd.prog 28 #[.string ⟨l.toArray⟩] w fun e w' => ∃ v, e = .returned v ∧ SS w' v (Asc.fields l) ∧ Below w.heap.size w w' := by
  go_enter Tryd.func28, Tryd.ntmps28
  go_wp2_with fail
  go_loopw [3, 4] (fun v i wr => ∃ k out, k ≤ l.length ∧ i = .int .i64 (k : Nat) ∧ RFI w l k out v wr) (fun _ i _ => l.length - (intOf i).toNat)
  case atStart => exact ⟨0, [], by omega, rfl, ⟨⟨rfl, .inl ⟨rfl, rfl⟩⟩, rfl, Below.refl _ _, by simp⟩⟩
  case round =>
    obtain ⟨k, out, hk, rfl, hI⟩ := hrel
    have HI := Lib.hid hI
    by_cases hlt : k < l.length
    · obtain ⟨c, ⟨_, hx⟩, hc, hc2⟩ := byte_at l k hlt
      have HC := Lib.hid hc
      have HS := Lib.hid (rspace_any c wr hc2)
      clear hc
      cases hsp : Asc.isSpace c
      · rw [hsp] at HS
        have HP := Lib.hid (show Asc.sp l[k] = false by show Asc.isSpace (l[k]).toNat = _; rw [HC.out]; exact hsp)
        have hown := hI.own
        have hsz := hI.below.size
        have hln := hI.len
        clear hsp hI
        go_wp2_with (go_at_call 19; refine HS.out.mono ?_; rintro e w' ⟨rfl, rfl⟩)
        obtain ⟨wo, hwo⟩ : ∃ wo : World, wo = wr := ⟨_, rfl⟩
        subst hwo
        go_loop [4] (fun i => ∃ m : Nat, k ≤ m ∧ m ≤ l.length ∧ i = .int .i64 m ∧ ∀ j (hj : j < l.length), k ≤ j → j < m → Asc.sp l[j] = false) (fun i => l.length - (intOf i).toNat)
        case atStart => exact ⟨k, Nat.le_refl _, hk, rfl, fun j _ h1 h2 => by omega⟩
        case round =>
          obtain ⟨m, hkm, hm, rfl, hall⟩ := hrel
          have HA := Lib.hid hall
          clear hall
          by_cases hml : m < l.length
          · obtain ⟨d, ⟨_, hy⟩, hd, hd2⟩ := byte_at l m hml
            have HD := Lib.hid hd
            have HS2 := Lib.hid (rspace_any d wo hd2)
            clear hd
            cases hsp : Asc.isSpace d
            · rw [hsp] at HS2
              have HP2 := Lib.hid (show Asc.sp l[m] = false by show Asc.isSpace (l[m]).toNat = _; rw [HD.out]; exact hsp)
              clear hsp
              go_wp2_with (go_at_call 19; refine HS2.out.mono ?_; rintro e w' ⟨rfl, rfl⟩)
              go_round
              case rel => exact ⟨m + 1, by omega, by omega, by go_num, fun j hj h1 h2 => by rcases Nat.lt_or_ge j m with c | c; exact HA.out j hj h1 c; (obtain rfl : j = m := by omega); exact HP2.out⟩
              case measure => simp [intOf]; omega
            · rw [hsp] at HS2
              have hkm' : k < m := by
                rcases Nat.lt_or_ge k m with g | g
                · exact g
                · exfalso
                  obtain rfl : m = k := by omega
                  have e : d = c := by rw [← HD.out, ← HC.out]
                  have h1 := HP.out
                  unfold Asc.sp at h1
                  rw [HC.out, ← e, hsp] at h1
                  cases h1
              have HT := Lib.hid fun v' W' o => HI.out.take hkm' hm HA.out (fun _ => by show Asc.isSpace (l[m]).toNat = _; rw [HD.out]; exact hsp) (v' := v') (W' := W') (o := o)
              have hex := Asc.extract_seg l k m
              have q1 : out.length + 1 ≤ 140737488355328 := by omega
              have q2 : (out.length + 1) * 16 ≤ 140737488355328 := by omega
              clear hsp
              generalize Asc.seg l k m = sg at *
              go_wp2_with (first | (go_at_call 19; refine HS2.out.mono ?_; rintro e w' ⟨rfl, rfl⟩) | (at_builtin; refine wpList_append_1 rfl _ _ 37 9 (.string ⟨#[]⟩) 16 rfl Tryd.underlying37 infoStr rfl w.heap.size _ _ _ rfl hown (.string ⟨sg.toArray⟩) rfl rfl q1 q2 hsz ?_; intro v' w2 hown' hgrow; have HX := Lib.hid (HT.out v' w2 _ hown' hgrow); clear hown' hgrow))
              exact ⟨⟨m, _, hm, rfl, HX.out⟩, by simp [intOf]; omega⟩
          · have hkm' : k < m := by omega
            have HT := Lib.hid fun v' W' o => HI.out.take hkm' hm HA.out (fun h => by omega) (v' := v') (W' := W') (o := o)
            have hex := Asc.extract_seg l k m
            have q1 : out.length + 1 ≤ 140737488355328 := by omega
            have q2 : (out.length + 1) * 16 ≤ 140737488355328 := by omega
            generalize Asc.seg l k m = sg at *
            go_wp2_with (at_builtin; refine wpList_append_1 rfl _ _ 37 9 (.string ⟨#[]⟩) 16 rfl Tryd.underlying37 infoStr rfl w.heap.size _ _ _ rfl hown (.string ⟨sg.toArray⟩) rfl rfl q1 q2 hsz ?_; intro v' w2 hown' hgrow; have HX := Lib.hid (HT.out v' w2 _ hown' hgrow); clear hown' hgrow)
            exact ⟨⟨m, _, hm, rfl, HX.out⟩, by simp [intOf]; omega⟩
      · rw [hsp] at HS
        have HN := Lib.hid (hI.skip hlt (by show Asc.isSpace (l[k]).toNat = _; rw [HC.out]; exact hsp))
        clear hsp hI
        go_wp2_with (go_at_call 19; refine HS.out.mono ?_; rintro e w' ⟨rfl, rfl⟩)
        go_roundw
        case rel => exact ⟨k + 1, out, by omega, by go_num, HN.out⟩
        case measure => simp [intOf]; omega
    · obtain rfl : k = l.length := by omega
      have HF : Hid (SS wr u3 (Asc.fields l)) := (show SS wr u3 (Asc.fields l) by
        have e := hI.eq
        rw [Asc.flds_end] at e
        simp at e
        rw [← e]
        exact ss_own hI.own)
      clear hI
      go_wp2_with fail
      go_ret
      exact ⟨_, rfl, HF.out, HI.out.below⟩

/-- Two lists of strings that are the same. -/
theorem same_any (va vb : Value) (fs : List (List UInt8)) (w : World) (ha : SS w va fs) (hb : SS w vb fs) (hl : fs.length ≤ 140737488355328) :
    Calls Tryd.prog 27 #[va, vb] w fun e w' => e = .returned (.bool true) ∧ Below w.heap.size w w' := by
  obtain ⟨a, ca, rfl, ha⟩ := ha
  obtain ⟨b, cb, rfl, hb⟩ := hb
  have HA := Lib.hid ha
  have HB := Lib.hid hb
  clear ha hb
  go_enter Tryd.func27, Tryd.ntmps27
  go_wp2_with fail
  go_loopw [5] (fun i wr => ∃ k q : Nat, k ≤ fs.length ∧ i = .int .i64 k ∧ wr = w.drewN q) (fun i _ => fs.length - (intOf i).toNat)
  case atStart => exact ⟨0, 0, by omega, rfl, rfl⟩
  case round =>
    obtain ⟨k, q, hk, rfl, rfl⟩ := hrel
    by_cases hlt : k < fs.length
    · obtain ⟨g, rfl, _, hg⟩ := HA.out (by omega)
      obtain ⟨g2, rfl, _, hg2⟩ := HB.out (by omega)
      have c1 : (w.drewN q).cell? ⟨g, k, none⟩ = some (.string ⟨(fs[k]).toArray⟩) := hg k hlt
      have c2 : (w.drewN q).cell? ⟨g2, k, none⟩ = some (.string ⟨(fs[k]).toArray⟩) := hg2 k hlt
      have i1 : (k : Int) < (fs.length : Int) := by omega
      have i2 : (0 : Int) ≤ (k : Int) := by omega
      clear hg hg2
      generalize fs[k] = f at *
      generalize hW : w.drewN q = W at *
      go_wp2_with fail
      go_quiet (fail)
      go_wp2_with fail
      go_roundw
      case rel => exact ⟨k + 1, _, by omega, by go_num, by rw [← hW, World.drewN_drewN]⟩
      case measure => simp [intOf]; omega
    · go_wp2_with fail
      go_ret
      exact ⟨rfl, below_drewN (Below.refl _ _) q⟩

end Go.Proofs.YtloilffkggkgdaaDoor

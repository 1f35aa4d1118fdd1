/-
  Joined: LbV, LbW, LbY, LbX.
-/
import Derived.Test.YtgcpinnnfoanjaaGreatDoorRzN
import Derived.Test.YtgcpinnnfoanjaaGreatDoorRzB
import Derived.OwnWalk
import Derived.Test.YtgcpinnnfoanjaaGreatDoorRzL
/-
  Parse of a library's text.
-/
namespace Go.Proofs.YtgcpinnnfoanjaaGreatDoor
open Go.RowKit

namespace Lb
theorem splitK_len (sep : List UInt8) : ∀ (k : Nat) (s p : List UInt8), p ∈ Go.Lib.splitK sep 0 k s → p.length ≤ s.length
  | 0, s, p, h => by
    rw [Go.Lib.splitK, List.mem_singleton] at h
    rw [h]
    exact Nat.le_refl _
  | k + 1, s, p, h => by
    rw [Go.Lib.splitK] at h
    split at h
    · rw [List.mem_singleton] at h
      rw [h]
      exact Nat.le_refl _
    · rcases List.mem_cons.1 h with rfl | h
      · rw [List.length_take]
        exact Nat.min_le_right _ _
      · have := splitK_len sep k _ p h
        rw [List.length_drop] at this
        omega
theorem split_piece {s p : List UInt8} (h : p ∈ Go.Lib.split s [10]) : p.length ≤ s.length := splitK_len _ _ _ _ h
theorem split_count (s : List UInt8) : (Go.Lib.split s [10]).length ≤ s.length + 1 := by
  have hs : (Go.Lib.splitB ⟨#[10]⟩ 0 (Go.Lib.countB ⟨s.toArray⟩ ⟨#[10]⟩) ⟨s.toArray⟩).map (·.data.toList) = Go.Lib.split s [10] := by rw [Go.Lib.splitB_data]; rfl
  have hlen := Go.Lib.splitB_all ⟨#[10]⟩ (by decide) 0 _ ⟨s.toArray⟩ rfl
  have hle := Go.Lib.countB_le ⟨#[10]⟩ (by decide) _ ⟨s.toArray⟩ (Nat.le_refl _)
  rw [← hs, List.length_map, hlen]
  rw [show (ByteArray.mk s.toArray).size = s.length by simp [ByteArray.size]] at hle
  omega
theorem lineM_err {s : List UInt8} {e : Nat} (h : lineM s = .error e) : e = 1 := by
  unfold lineM at h
  repeat' split at h
  all_goals first
    | (cases h; done)
    | (injection h with h; exact h.symm)
theorem lineM_len {s : List UInt8} {d : Def} (h : lineM s = .ok (some d)) : d.1.length ≤ s.length ∧ d.2.length ≤ s.length := by
  unfold lineM at h
  repeat' split at h
  all_goals first
    | (cases h; done)
    | (injection h with h; injection h with h; subst h)
  have h1 := trimS_len s spL
  refine ⟨?_, ?_⟩
  · simp only [List.length_take]; omega
  · have h2 := trimS_len ((Go.Lib.trimS s spL).drop (nlen (Go.Lib.trimS s spL))) spL
    simp only [List.length_drop] at h2 ⊢
    omega
end Lb
end Go.Proofs.YtgcpinnnfoanjaaGreatDoor
/-
  Parse of a library's text: its walk.
-/
namespace Go.Proofs.YtgcpinnnfoanjaaGreatDoor
open Go.RowKit

theorem DfAt.orw {B : Nat} {w : World} {l : List Lb.Def} {v : Value} (h : OR B 47 2 DfR w l v) (hl : l.length ≤ 900000) : DfAt w l v := by
  obtain ⟨a, c, e, _, hk⟩ := h.rw (F := fun _ => True) (fun _ _ => trivial)
  refine ⟨a, c, e, hl, fun i hi => ?_⟩
  obtain ⟨blk, off, e1, hb, _, hc⟩ := hk (by omega)
  obtain ⟨us, _, hcell, hr⟩ := hc i hi
  unfold DfR at hr
  subst hr
  exact ⟨blk, off, e1, hb, hcell 0 (by omega), hcell 1 (by omega)⟩
/-- What Parse gives; ck: what Check says. -/
def LParseP (ck : List Lb.Def → Nat) (s : List UInt8) (w : World) (e : Ending) (w' : World) : Prop := Below w.heap.size w w' ∧ match Lb.plM (Lib.split s [10]) 0 [] with
  | .error x => e = .returned (.tuple #[.slice none 0 0, .int .i64 (x.1 : Int), .int .i64 (x.2 : Int)])
  | .ok l => if ck l = 0 then ∃ v, e = .returned (.tuple #[v, .int .i64 0, .int .i64 0]) ∧ DfAt w' l v else e = .returned (.tuple #[.slice none 0 0, .int .i64 0, .int .i64 (ck l : Int)])
set_option maxHeartbeats 16000000 in
set_option maxRecDepth 1000000 in
theorem lparse_any (ck : List Lb.Def → Nat) (s : List UInt8) (w : World) (hk : KM w) (hs : s.length ≤ 20000)
    (CK : ∀ l v W, l.length ≤ 40 → (∀ i (h : i < l.length), l[i].1.length ≤ 20000 ∧ l[i].2.length ≤ 20000) → KM W → DfAt W l v → Calls Tryz.prog 9 #[v] W fun e w' => e = .returned (.int .i64 (ck l : Int)) ∧ Below W.heap.size W w') :
    Calls Tryz.prog 23 #[.string ⟨s.toArray⟩] w (LParseP ck s w) := by
  obtain ⟨i0, hi, hz0, hz1, hz2⟩ := info_parts infoDf
  have HSP := Lib.hid (split_any s w hk.2 (by omega))
  have HPC := Lib.hid (fun p (h : p ∈ Lib.split s [10]) => Lb.split_piece h)
  have hcnt := Lb.split_count s
  obtain ⟨R, hR⟩ : ∃ R, Lb.plM (Lib.split s [10]) 0 [] = R := ⟨_, rfl⟩
  have HEND : Hid (∀ e w', Below w.heap.size w w' → (match R with
    | .error x => e = .returned (.tuple #[.slice none 0 0, .int .i64 (x.1 : Int), .int .i64 (x.2 : Int)])
    | .ok l => if ck l = 0 then ∃ v, e = .returned (.tuple #[v, .int .i64 0, .int .i64 0]) ∧ DfAt w' l v else e = .returned (.tuple #[.slice none 0 0, .int .i64 0, .int .i64 (ck l : Int)])) → LParseP ck s w e w') := Lib.hid (fun e w' h1 h2 => ⟨h1, by rw [hR]; exact h2⟩)
  obtain ⟨ls, hls⟩ : ∃ ls, Lib.split s [10] = ls := ⟨_, rfl⟩
  rw [hls] at HSP HPC hcnt hR
  have HR0 : Hid (Lb.plM (ls.drop 0) 0 [] = R) := Lib.hid hR
  have HK := Lib.hid hk
  have HCK := Lib.hid CK
  have z0 : decide ((20000 : Int) < (s.length : Int)) = false := decide_eq_false (by omega)
  have y0 : decide (20000 < s.length) = false := decide_eq_false (by omega)
  have HB0 := Lib.hid (alb w (.cells (ls.map fun p => Value.string ⟨p.toArray⟩).toArray 9))
  have HROW : Hid (∀ k (h : k < ls.length), (w.alloc (.cells (ls.map fun p => Value.string ⟨p.toArray⟩).toArray 9)).cell? ⟨w.heap.size, k, none⟩ = some (.string ⟨ls[k].toArray⟩)) := Lib.hid (fun k h => by simp [go_sem, h])
  have HGL : Hid (w.heap.size < (w.alloc (.cells (ls.map fun p => Value.string ⟨p.toArray⟩).toArray 9)).heap.size) := Lib.hid (by simp)
  clear hk CK hls hR
  go_enter Tryz.func23, Tryz.ntmps23
  go_wp2_with fail
  refine HSP.out.mono ?_
  rintro e w0 ⟨rfl, hw0⟩
  rw [hw0] at HB0 HROW HGL
  clear hw0 HSP
  go_wp2_with fail
  go_loopw [5, 20] (fun lv i wr => ∃ (k : Nat) (acc : List Lb.Def) (v : Value), v = lv ∧ i = .int .i64 k ∧ k ≤ ls.length ∧ acc.length ≤ 40 ∧ Hid (Lb.plM (ls.drop k) k acc = R) ∧ Hid (∀ i (h : i < acc.length), acc[i].1.length ≤ 20000 ∧ acc[i].2.length ≤ 20000) ∧ Hid (OR w0.heap.size 47 2 DfR wr acc v) ∧ Hid (Below w0.heap.size w0 wr)) (fun _ i _ => ls.length - (intOf i).toNat)
  case atStart => exact ⟨0, [], _, rfl, rfl, Nat.zero_le _, by simp, HR0, Lib.hid (fun i h => by simp at h), Lib.hid OR.nil, Lib.hid (Below.refl _ _)⟩
  case round =>
    obtain ⟨k, acc, v, rfl, rfl, hkl, hacc, HR, HSZ, HO, HB⟩ := hrel
    have HBL := Lib.hid (HB0.out.trans (HB.out.mono HB0.out.size))
    clear HR0
    by_cases hlt : k < ls.length
    · rw [List.drop_eq_getElem_cons hlt, Lb.plM] at HR
      have hcell : wr.cell? ⟨w.heap.size, k, none⟩ = some (.string ⟨ls[k].toArray⟩) := (HB.out.cell (p := ⟨w.heap.size, k, none⟩) HGL.out).trans (HROW.out k hlt)
      have i1 : (k : Int) < (ls.length : Int) := by omega
      have i2 : (0 : Int) ≤ (k : Int) := by omega
      have hw1 : IntKind.i64.wrap ((k : Int) + 1) = (k : Int) + 1 := IntWalk.i64_in _ (by omega)
      have hpl := HPC.out _ (List.getElem_mem hlt)
      obtain ⟨p, hp⟩ : ∃ p, ls[k] = p := ⟨_, rfl⟩
      rw [hp] at HR hcell hpl
      have HLN := Lib.hid (line_any p wr (HK.out.1.below HBL.out) (by omega))
      obtain ⟨va, vc, rfl, _⟩ := HO.out.rw (F := fun _ => True) (fun _ _ => trivial)
      clear hp
      go_wp2_with fail
      refine HLN.out.mono ?_
      rintro e w2 ⟨rfl, hb2⟩
      have HB2 := Lib.hid (HB.out.trans (hb2.mono HB.out.size))
      have HBL2 := Lib.hid (HB0.out.trans (HB2.out.mono HB0.out.size))
      have HO2 := Lib.hid (HO.out.keep (W' := w2) (fun j _ hj => hb2.block j hj) (fun _ _ h => h))
      clear hb2 HLN HB HBL HO hcell
      cases hlm : Lb.lineM p with
      | error e =>
        obtain rfl := Lb.lineM_err hlm
        rw [hlm] at HR
        clear hlm
        dsimp only [lineV] at HR ⊢
        have HB3 := Lib.hid (HBL2.out.trans ((alb w2 (.cells #[.string ⟨#[]⟩, .string ⟨#[]⟩] 47)).mono HBL2.out.size))
        go_wp2_with fail
        go_ret3
        refine HEND.out _ _ HB3.out ?_
        rw [← HR.out]
        rfl
      | ok o =>
        rw [hlm] at HR
        cases o with
        | none =>
          clear hlm
          dsimp only [lineV] at HR ⊢
          have hal := alb w2 (.cells #[.string ⟨#[]⟩, .string ⟨#[]⟩] 47)
          have HB3 := Lib.hid (HB2.out.trans (hal.mono HB2.out.size))
          have HO3 := Lib.hid (HO2.out.keep (fun j _ hj => hal.block j hj) (fun _ _ h => h))
          clear hal
          go_wp2_with fail
          refine ⟨⟨k + 1, acc, _, rfl, by go_num, by omega, hacc, HR, HSZ, HO3, HB3⟩, by simp [intOf]; omega⟩
        | some d =>
          have HDL := Lib.hid (Lb.lineM_len hlm)
          clear hlm
          obtain ⟨n1, s1⟩ := d
          dsimp only [lineV] at HR HDL ⊢
          have hal := alb w2 (.cells #[.string ⟨n1.toArray⟩, .string ⟨s1.toArray⟩] 47)
          have hnew := heap_alloc_new w2 (.cells #[.string ⟨n1.toArray⟩, .string ⟨s1.toArray⟩] 47)
          have HB3 := Lib.hid (HB2.out.trans (hal.mono HB2.out.size))
          have HO3 := Lib.hid (HO2.out.keep (fun j _ hj => hal.block j hj) (fun _ _ h => h))
          have HNEW := Lib.hid hnew
          have HQ : Hid (w2.heap.size < (w2.alloc (.cells #[.string ⟨n1.toArray⟩, .string ⟨s1.toArray⟩] 47)).heap.size) := Lib.hid (by simp)
          have HF := Lib.hid (find_any acc n1 _ _ (DfAt.orw HO3.out (by omega)))
          clear hal hnew HB2 HBL2 HO2
          go_wp2_with fail
          refine HF.out.mono ?_
          rintro e w3 ⟨rfl, hb3⟩
          have HB4 := Lib.hid (HB3.out.trans (hb3.mono HB3.out.size))
          have HBL4 := Lib.hid (HB0.out.trans (HB4.out.mono HB0.out.size))
          have HO4 := Lib.hid (HO3.out.keep (W' := w3) (fun j _ hj => hb3.block j hj) (fun _ _ h => h))
          have hbx := (hb3.block _ HQ.out).trans HNEW.out
          have b0 : w3.cell? ⟨w2.heap.size, 0, none⟩ = some (.string ⟨n1.toArray⟩) := Lib.cell_of_heap hbx 0
          have b1 : w3.cell? ⟨w2.heap.size, 1, none⟩ = some (.string ⟨s1.toArray⟩) := Lib.cell_of_heap hbx 1
          clear hb3 hbx HB3 HO3 HF
          cases hfm : Lb.findM acc n1 with
          | some j =>
            rw [hfm, if_pos (by rfl)] at HR
            clear hfm
            dsimp only [Option.getD_some, Option.isSome_some]
            go_wp2_with fail
            go_ret3
            refine HEND.out _ _ HBL4.out ?_
            rw [← HR.out]
            rfl
          | none =>
            rw [hfm, if_neg (by simp)] at HR
            clear hfm
            dsimp only [Option.getD_none, Option.isSome_none]
            by_cases h40 : acc.length = 40
            · rw [if_pos h40] at HR
              have z4 : ((acc.length : Int) == 40) = true := by rw [beq_iff_eq]; omega
              go_wp2_with fail
              go_ret3
              refine HEND.out _ _ HBL4.out ?_
              rw [← HR.out]
              rfl
            · rw [if_neg h40] at HR
              have z4 : ((acc.length : Int) == 40) = false := by rw [beq_eq_false_iff_ne]; omega
              obtain ⟨cs, hown, hpush⟩ := HO4.out.cells
              have hBW : w0.heap.size ≤ w3.heap.size := HB4.out.size
              have HSZ2 : Hid (∀ i (h : i < (acc ++ [(n1, s1)]).length), (acc ++ [(n1, s1)])[i].1.length ≤ 20000 ∧ (acc ++ [(n1, s1)])[i].2.length ≤ 20000) := Lib.hid (fun i h => by
                by_cases e : i < acc.length
                · rw [List.getElem_append_left e]; exact HSZ.out i e
                · rw [List.getElem_append_right (by omega)]
                  simp only [List.getElem_singleton]
                  have := HDL.out
                  exact ⟨by omega, by omega⟩)
              go_wp2_with (at_builtin; refine wpList_append_lies _ rfl _ _ 26 rfl w0.heap.size 47 i0 (.agg #[.string ⟨#[]⟩, .string ⟨#[]⟩]) 2 32 Tryz.underlying26 hi hz0 hz1 hz2 rfl (by decide) _ acc.length cs rfl (hown.alloc _) ⟨w3.heap.size, 0, none⟩ 1 1 [.string ⟨n1.toArray⟩, .string ⟨s1.toArray⟩] rfl rfl (World.news_of_block (heap_alloc_new w3 (.cells #[.string ⟨n1.toArray⟩, .string ⟨s1.toArray⟩] 47))) (by intro u hu; simp only [List.mem_cons, List.not_mem_nil, or_false] at hu; rcases hu with rfl | rfl <;> rfl) (by omega) (by unfold maxLen; omega) (by omega) (by simp; omega) _ rfl ?_; intro g6 cap6 w6 hown6 hgr6 hat6 hlt6; have HW6 := Lib.hid (push_below hgr6 hown hBW); have HO6 := Lib.hid (hpush DfR w6 ((n1, s1) : Lb.Def) [.string ⟨n1.toArray⟩, .string ⟨s1.toArray⟩] _ (fun _ _ h => h) rfl rfl (by omega) hown6); clear hown6 hgr6 hat6 hlt6 hown hpush)
              refine ⟨⟨k + 1, acc ++ [(n1, s1)], _, rfl, by go_num, by omega, by simp; omega, HR, HSZ2, HO6, Lib.hid (HB4.out.trans HW6.out)⟩, by simp [intOf]; omega⟩
    · have z1 : decide ((k : Int) < (ls.length : Int)) = false := decide_eq_false (by omega)
      have y1 : decide (k < ls.length) = false := decide_eq_false hlt
      rw [List.drop_eq_nil_of_le (by omega), Lb.plM] at HR
      have HDF := Lib.hid (DfAt.orw HO.out (by omega))
      have HC := Lib.hid (HCK.out acc _ wr hacc HSZ.out (HK.out.below HBL.out) HDF.out)
      obtain ⟨va, vc, rfl, _⟩ := HDF.out
      go_wp2_with fail
      refine HC.out.mono ?_
      rintro e w3 ⟨rfl, hb3⟩
      have HB3 := Lib.hid (HBL.out.trans (hb3.mono HBL.out.size))
      have HD3 := Lib.hid (HDF.out.later hb3)
      clear hb3
      rcases Nat.eq_zero_or_pos (ck acc) with e0 | e0
      · have hz : ((ck acc : Int) == 0) = true := by rw [beq_iff_eq]; omega
        have HE0 := Lib.hid e0
        clear e0
        go_wp2_with fail
        go_ret3
        refine HEND.out _ _ HB3.out ?_
        rw [← HR.out]
        dsimp only
        rw [if_pos HE0.out]
        exact ⟨_, rfl, HD3.out⟩
      · have hz : ((ck acc : Int) == 0) = false := by rw [beq_eq_false_iff_ne]; omega
        have HE0 := Lib.hid e0
        clear e0
        go_wp2_with fail
        go_ret3
        refine HEND.out _ _ HB3.out ?_
        rw [← HR.out]
        dsimp only
        rw [if_neg (by have := HE0.out; omega)]
        rfl
end Go.Proofs.YtgcpinnnfoanjaaGreatDoor
/-
  LibraryReturns, plainly: a drawn list that Check accepts is read back.
-/
namespace Go.Proofs.YtgcpinnnfoanjaaGreatDoor.Lb
open Go.Proofs.YtgcpinnnfoanjaaGreatDoor

theorem nmB_ok {l : List UInt8} (h : nmB l = true) : NmOk l := by
  unfold nmB at h
  exact @of_decide_eq_true _ (Classical.propDecidable _) h
theorem firm_of {c : UInt8} (h : 33 ≤ c.toNat) : firm c := ⟨fun e => absurd (e ▸ h) (by decide), fun e => absurd (e ▸ h) (by decide)⟩
theorem gen_ok {l : List Def} (h : GenD l) (hk : ckM l = 0) : (∀ d ∈ l, DefOk d) ∧ (l.map (·.1)).Nodup := by
  obtain ⟨h1, _⟩ := ckM_ok hk
  refine ⟨fun d hd => ?_, ?_⟩
  · obtain ⟨i, hi, rfl⟩ := List.mem_iff_getElem.1 hd
    obtain ⟨_, hne, hb⟩ := (h.2 i hi).2
    exact ⟨nmB_ok (h1 i hi).1, hne, fun c hc => firm_of (hb c (List.mem_of_head? hc)).1, fun c hc => firm_of (hb c (List.mem_of_getLast? hc)).1, fun hc => by have := (hb 10 hc).1; revert this; decide⟩
  · unfold List.Nodup
    rw [List.pairwise_iff_getElem]
    intro i j hi hj hij e2
    rw [List.length_map] at hi hj
    simp only [List.getElem_map] at e2
    have a1 := (h1 i hi).2
    have a2 := (h1 j hj).2
    rw [e2, a2] at a1
    injection a1 with a1
    omega
theorem gen_back {l : List Def} (h : GenD l) (hk : ckM l = 0) : plM (Go.Lib.split (fmtL l) [10]) 0 [] = .ok l := by
  obtain ⟨h1, h2⟩ := gen_ok h hk
  have := plM_back l 0 [] h1 (by have := h.1; simp; omega) (by simpa using h2)
  simpa using this
end Go.Proofs.YtgcpinnnfoanjaaGreatDoor.Lb
/-
  The law LibraryReturns: its walk.
-/
namespace Go.Proofs.YtgcpinnnfoanjaaGreatDoor
open Go.RowKit

theorem GenD.small {l : List Lb.Def} (h : GenD l) : ∀ i (h : i < l.length), l[i].1.length ≤ 1000 ∧ l[i].2.length ≤ 1000 := fun i hi => by
  obtain ⟨h1, h2⟩ := h.2 i hi
  have := h2.1
  exact ⟨by omega, by omega⟩
theorem GenD.text {l : List Lb.Def} (h : GenD l) : (Lb.fmtL l).length ≤ 20000 := by
  have h1 := Lb.fmtL_len l h.small l.length (Nat.le_refl _)
  rw [List.take_length] at h1
  have := h.1
  omega
theorem lparse_back {l : List Lb.Def} (hg : GenD l) (hk0 : Lb.ckM l = 0) (w : World) (hk : KM w) :
    Calls Tryz.prog 23 #[.string ⟨(Lb.fmtL l).toArray⟩] w fun e w' => (∃ a c, e = .returned (.tuple #[.slice a l.length c, .int .i64 0, .int .i64 0]) ∧ DfAt w' l (.slice a l.length c)) ∧ Below w.heap.size w w' := by
  refine (lparse_any Lb.ckM (Lb.fmtL l) w hk hg.text (fun l' v W h1 h2 hK hD => lcheck_any l' v ⟨h1, fun i hi => by have := h2 i hi; omega⟩ (fun i hi => by have := h2 i hi; omega) W hK hD)).mono ?_
  rintro e w' ⟨hb, h⟩
  rw [Lb.gen_back hg hk0] at h
  simp only [hk0, if_true] at h
  obtain ⟨v, he, hd⟩ := h
  obtain ⟨a, c, rfl, _⟩ := id hd
  exact ⟨⟨a, c, he, hd⟩, hb⟩
set_option maxHeartbeats 16000000 in
set_option maxRecDepth 1000000 in
theorem returns_any (v : Value) (cs : List UInt8) (w : World) (hk : KM w) (hb : BS w v cs) : Calls Tryz.prog 5 #[v] w fun e w' => e = .returned (.bool true) ∧ Below w.heap.size w w' := by
  have HAW := Lib.hid (lawake_any w hk)
  have HK := Lib.hid hk
  have HBS := Lib.hid hb
  obtain ⟨va, vc, rfl, _⟩ := hb
  clear hk
  go_enter Tryz.func5, Tryz.ntmps5
  go_wp2_with fail
  refine HAW.out.mono ?_
  rintro e w1 ⟨rfl, hb1⟩
  have HB1 := Lib.hid hb1
  have HBS1 := Lib.hid (BS.below HBS.out hb1)
  clear hb1 HAW HBS
  go_wp2_with fail
  refine (new_any _ cs 100 w1 HBS1.out (by omega)).mono ?_
  rintro e w2 ⟨rfl, hca, hb2⟩
  have HC2 := Lib.hid hca
  have HB2 := Lib.hid (HB1.out.trans (hb2.mono HB1.out.size))
  have HGW : Hid (w.heap.size ≤ w1.heap.size) := Lib.hid HB1.out.size
  obtain ⟨g, hg⟩ : ∃ g, w1.heap.size = g := ⟨_, rfl⟩
  rw [hg] at HC2 HGW ⊢
  clear hca hb2 hg HBS1 HB1
  go_wp2_with fail
  refine (draw_any g w2 HC2.out).mono ?_
  rintro e w3 ⟨l, lv, hgd, hrw, rfl, hca, hap⟩
  have HGD := Lib.hid hgd
  have HD3 := Lib.hid (DfAt.rw hrw (by have := hgd.1; omega))
  have HB3 := Lib.hid (Apart.below HB2.out hap HGW.out)
  have hll := hgd.1
  clear hca hgd hap hrw HC2 HB2
  obtain ⟨la, lc, rfl, _⟩ := id HD3.out
  go_wp2_with fail
  refine (lcheck_any l _ HGD.out.fit HGD.out.nm w3 (HK.out.below HB3.out) HD3.out).mono ?_
  rintro e w4 ⟨rfl, hb4⟩
  have HB4 := Lib.hid (HB3.out.trans (hb4.mono HB3.out.size))
  have HD4 := Lib.hid (HD3.out.later hb4)
  clear hb4 HB3 HD3
  obtain ⟨k, hkk⟩ : ∃ k, Lb.ckM l = k := ⟨_, rfl⟩
  rw [hkk]
  rcases Nat.eq_zero_or_pos k with e0 | e0
  · subst e0
    have HCK := Lib.hid hkk
    clear hkk
    go_wp2_with fail
    refine (format_any l _ w4 HD4.out (by omega) HGD.out.small).mono ?_
    rintro e w5 ⟨rfl, hb5⟩
    have HB5 := Lib.hid (HB4.out.trans (hb5.mono HB4.out.size))
    have HD5 := Lib.hid (HD4.out.later hb5)
    clear hb5 HB4 HD4
    have HP := Lib.hid (lparse_back HGD.out HCK.out w5 (HK.out.below HB5.out))
    go_wp2_with fail
    refine HP.out.mono ?_
    rintro e w6 ⟨⟨ma, mc, rfl, hd6'⟩, hb6⟩
    have HB6 := Lib.hid (HB5.out.trans (hb6.mono HB5.out.size))
    have HD6 := Lib.hid (HD5.out.later hb6)
    have HM6 := Lib.hid hd6'
    clear hb6 hd6' HB5 HD5 HP
    go_wp2_with fail
    refine (lsame_any l _ _ w6 HD6.out HM6.out).mono ?_
    rintro e w7 ⟨rfl, hb7⟩
    have HB7 := Lib.hid (HB6.out.trans (hb7.mono HB6.out.size))
    clear hb7
    go_wp2_with fail
    go_ret
    exact ⟨rfl, HB7.out⟩
  · have z1 : ((k : Int) == 0) = false := by rw [beq_eq_false_iff_ne]; omega
    clear hkk
    go_wp2_with fail
    go_ret
    exact ⟨rfl, HB4.out⟩
end Go.Proofs.YtgcpinnnfoanjaaGreatDoor

/-
 Joined: EwA, EwB, EwC, EgD, EgE.
-/
import Derived.Test.YtmpbjaodgajnfaaGreatDoorEhL
import Derived.Test.YtmpbjaodgajnfaaGreatDoorEhA
import Derived.BigRegion
import Derived.BigQuiet
import Derived.Deep.AppendLies
import Derived.Deep.RegionHeld3
namespace Go.Proofs.YtmpbjaodgajnfaaGreatDoor
open Go.RowKit
theorem less_cmp : ∀ (a b : List UInt8), Op.bytesLess a b = decide (Lib.compareBytes a b < 0)
 | [], [] => rfl
 | [], _ :: _ => rfl
 | _ :: _, [] => rfl
 | x :: a, y :: b => by
  rw [cmp_cons]
  unfold Op.bytesLess
  rw [less_cmp a b]
  by_cases h1 : x.toNat < y.toNat
  ·rw [if_pos h1]
   simp [UInt8.lt_iff_toNat_lt, h1]
  ·rw [if_neg h1]
   by_cases h2 : y.toNat < x.toNat
   ·rw [if_pos h2]
    have : ¬ x = y := fun e => by subst e; omega
    simp [UInt8.lt_iff_toNat_lt, h1, this]
   ·rw [if_neg h2]
    have : x = y := UInt8.toNat_inj.1 (by omega)
    subst this
    simp
structure NmLow (l : List UInt8) : Prop where
 pos : 0 < l.length
 len : l.length ≤ 32
 all : ∀ i (h : i < l.length), 97 ≤ (l[i]).toNat ∧ (l[i]).toNat ≤ 122
set_option maxHeartbeats 1000000 in
theorem fname_yes (l : List UInt8) (w : World) (h : NmLow l) :
  Calls Tryz.prog 65 #[.string ⟨l.toArray⟩] w fun e w' => e = .returned (.bool true) ∧ w = w' := by
 have hpos := h.pos
 have hlen := h.len
 obtain ⟨c0, ⟨_, hx0⟩, hc0, hb0⟩ := byte_at l 0 hpos
 have HL := Lib.hid (rletter_any c0 w hb0)
 have hfirst := h.all 0 hpos
 have HALL := Lib.hid h.all
 have e1 : decide (32 < (l.length : Int)) = false := decide_eq_false (by omega)
 have e2 : decide ((l.length : Int) < 1) = false := decide_eq_false (by omega)
 rw [hc0] at hfirst
 have hl : Asc.isLetter c0 = true := by unfold Asc.isLetter; simp; omega
 rw [hl] at HL
 clear h hc0 hl hfirst
 go_enter Tryz.func65, Tryz.ntmps65
 go_wp2_with (go_at_call 91; refine HL.out.mono ?_; rintro e w' ⟨rfl, rfl⟩)
 go_loop [3] (fun i => ∃ k : Nat, k ≤ l.length ∧ i = .int .i64 k) (fun i => l.length - (intOf i).toNat)
 case atStart => exact ⟨0, by omega, rfl⟩
 case round =>
  obtain ⟨k, hkl, rfl⟩ := hrel
  by_cases hlt : k < l.length
  ·obtain ⟨c, ⟨_, hy⟩, hcc, hcb⟩ := byte_at l k hlt
   have ha := HALL.out k hlt
   rw [hcc] at ha
   have hw : Asc.isWord c = true := by unfold Asc.isWord Asc.isLetter; simp; omega
   have HW := Lib.hid (rword_any c w hcb)
   rw [hw] at HW
   clear hw ha hcc
   go_wp2_with (go_at_call 92; refine HW.out.mono ?_; rintro e w' ⟨rfl, rfl⟩)
   go_round
   case rel => exact ⟨k + 1, by omega, by go_num⟩
   case measure => simp [intOf]; omega
  ·go_wp2_with fail
   go_ret
   exact ⟨rfl, rfl⟩
theorem set_same {W : World} {b k : Nat} {v : Value} (h : W.cell? ⟨b, k, none⟩ = some v) : W.setCell ⟨b, k, none⟩ v = W := by
 cases W with
 | mk heap tape drawn os output =>
  unfold World.setCell
  congr 1
  apply Array.ext
  ·simp
  ·intro i h1 h2
   simp only [Array.getElem_modify]
   split
   ·rename_i hi
    subst hi
    unfold World.cell? at h
    simp only [Array.getElem?_eq_getElem h2] at h
    cases hc : heap[b] with
    | cells cs t fr =>
     rw [hc] at h
     simp only [Option.isSome_none, Bool.false_eq_true, if_false] at h ⊢
     congr 1
     apply Array.ext (by simp)
     intro j k1 k2
     rw [Array.getElem_setIfInBounds]
     split
     ·rename_i e
      subst e
      rw [Array.getElem?_eq_getElem k2] at h
      exact (Option.some.inj h).symm
     ·rfl
    | _ => rfl
   ·rfl
theorem frozen_keep {B : Nat} {w W : World} (hb : Below B w W) {g : Nat} (hg : g < B) (k : Nat) : W.frozen? ⟨g, k, none⟩ = w.frozen? ⟨g, k, none⟩ := by
 unfold World.frozen?
 rw [hb.block g hg]
theorem OR.cell2 {B : Nat} {w : World} {fs : List Fd} {v : Value} (h : OR B 52 2 FdR w fs v) (h0 : 0 < fs.length) : ∃ g c, v = .slice (some ⟨g, 0, none⟩) fs.length c ∧ B ≤ g ∧ g < w.heap.size ∧ (∀ k, w.frozen? ⟨g, k, none⟩ = false) ∧
  ∀ i (hi : i < fs.length), w.cell? ⟨g, i * 2, none⟩ = some (.string ⟨(fs[i].1).toArray⟩) ∧ w.cell? ⟨g, i * 2 + 1, none⟩ = some (.string ⟨(fs[i].2).toArray⟩) := by
 obtain ⟨a, c, hv, _, hc⟩ := h.rw (F := fun _ => True) (fun _ _ => trivial)
 obtain ⟨hl, ⟨h1, h2⟩ | ⟨g, cap, cur, hv2, hB, hg, hn, hcm, hcs, htk⟩⟩ := h.fcl
 ·omega
 ·rw [hv2] at hv
  injection hv with e1 e2 e3
  obtain ⟨blk, off, e4, hl', _, hcc⟩ := hc h0
  rw [← e1] at e4
  injection e4 with e4
  injection e4 with e5 e6
  subst e5 e6
  refine ⟨g, cap, hv2, hB, hl', fun k => frz0 hg k, fun i hi => ?_⟩
  obtain ⟨us, hu, hcell, hr⟩ := hcc i hi
  unfold FdR at hr
  subst hr
  have q0 := hcell 0 (by decide)
  have q1 := hcell 1 (by decide)
  rw [Nat.zero_add] at q0 q1
  exact ⟨q0, q1⟩
set_option maxHeartbeats 8000000 in
set_option maxRecDepth 1000000 in
theorem sort_yes {F : Nat → Prop} (fs : List Fd) (fv : Value) (w : World) (hv : RW F 2 FdR w fs fv) (hl : fs.length ≤ 32) (hn : ∀ x ∈ fs, NmLow x.1) (hs : SrtF fs) :
  Calls Tryz.prog 42 #[fv] w fun e w' => ∃ v, e = .returned (.tuple #[v, .int .i64 0]) ∧ OR w.heap.size 52 2 FdR w' fs v ∧ Below w.heap.size w w' := by
 obtain ⟨a, cap, rfl, hm, hc⟩ := hv
 obtain ⟨m, hlm⟩ : ∃ m, fs.length = m := ⟨_, rfl⟩
 have HEL : Hid (0 < m → ∃ g off, a = some ⟨g, off, none⟩ ∧ g < w.heap.size ∧ ∀ i (h : i < fs.length), w.cell? ⟨g, off + i * 2, none⟩ = some (.string ⟨(fs[i].1).toArray⟩) ∧ w.cell? ⟨g, off + i * 2 + 1, none⟩ = some (.string ⟨(fs[i].2).toArray⟩)) := Lib.hid (fun h0 => by
  obtain ⟨g, off, h1, h2, _, h3⟩ := hc (by omega)
  refine ⟨g, off, h1, h2, fun i hi => ?_⟩
  obtain ⟨us, hu, hcell, hr⟩ := h3 i hi
  unfold FdR at hr
  subst hr
  exact ⟨hcell 0 (by decide), hcell 1 (by decide)⟩)
 have HN := Lib.hid hn
 have HS := Lib.hid hs
 rw [hlm] at hl ⊢
 have HLM := Lib.hid hlm
 have t1 : decide (32 < (m : Int)) = false := by simp; omega
 clear hc hn hs hm hlm
 go_enter Tryz.func42, Tryz.ntmps42
 go_wp2_with fail
 go_loop [4] (fun i => ∃ k : Nat, k ≤ m ∧ i = .int .i64 k) (fun i => m - (intOf i).toNat)
 case atStart => exact ⟨0, by omega, rfl⟩
 case round =>
  obtain ⟨k, hk, rfl⟩ := hrel
  by_cases hlt : k < m
  ·obtain ⟨g, off, rfl, hg, hf⟩ := HEL.out (by omega)
   have hkl : k < fs.length := by rw [HLM.out]; exact hlt
   have c0 := (hf k hkl).1
   have HF := Lib.hid (fname_yes (fs[k]).1 w (HN.out _ (List.getElem_mem hkl)))
   have i1 : (k : Int) < (m : Int) := by omega
   have i2 : (0 : Int) ≤ (k : Int) := by omega
   clear hf HEL HN
   generalize (fs[k]).1 = nm at *
   go_wp2_with (go_at_call 65; refine HF.out.mono ?_; rintro e w' ⟨rfl, rfl⟩)
   go_round
   case rel => exact ⟨k + 1, by omega, by go_num⟩
   case measure => simp [intOf]; omega
  ·go_wp2_with fail
   clear hlt hk
   go_loopw [5, 6] (fun v i wr => ∃ n : Nat, i = .int .i64 (n : Int) ∧ n ≤ m ∧ Hid (OR w.heap.size 52 2 FdR wr (fs.take n) v) ∧ Hid (Below w.heap.size w wr)) (fun _ i _ => m - (intOf i).toNat)
   case atStart => exact ⟨0, rfl, Nat.zero_le _, Lib.hid OR.nil, Lib.hid (Below.refl _ _)⟩
   case round =>
    obtain ⟨n, rfl, hn2, HOR, HB⟩ := hrel
    by_cases hlt : n < m
    ·obtain ⟨g, off, rfl, hg, hf⟩ := HEL.out (by omega)
     have hnl : n < fs.length := by rw [HLM.out]; exact hlt
     obtain ⟨f0, f1⟩ := hf n hnl
     obtain ⟨x, hx⟩ : ∃ x, fs[n] = x := ⟨_, rfl⟩
     rw [hx] at f0 f1
     have c0 := (HB.out.cell (p := ⟨g, off + n * 2, none⟩) hg).trans f0
     have c1 := (HB.out.cell (p := ⟨g, off + n * 2 + 1, none⟩) hg).trans f1
     have hszr : w.heap.size ≤ wr.heap.size := HB.out.size
     have htl : (fs.take n).length = n := by rw [List.length_take]; omega
     obtain ⟨i0, hi, hz0, hz1, hz2⟩ := info_parts infoFd
     obtain ⟨cl, hown, hpush⟩ := HOR.out.cells
     rw [htl] at hown hpush
     obtain ⟨a5, c5, hv5⟩ : ∃ a c, u5 = .slice a n c := by
      obtain ⟨a, c, h, _⟩ := HOR.out.rw (F := fun _ => True) (fun _ _ => trivial)
      rw [htl] at h
      exact ⟨a, c, h⟩
     subst hv5
     obtain ⟨Wb, hWb⟩ : ∃ Wb, wr.alloc (.cells #[.string ⟨x.1.toArray⟩, .string ⟨x.2.toArray⟩] 52) = Wb := ⟨_, rfl⟩
     have sb : Wb.heap.size = wr.heap.size + 1 := by rw [← hWb, Deep.nblk_alloc]
     have bb : Below wr.heap.size wr Wb := by rw [← hWb]; exact (Below.refl _ _).alloc (Nat.le_refl _) _
     have xb : Wb.heap[wr.heap.size]? = some (.cells #[.string ⟨x.1.toArray⟩, .string ⟨x.2.toArray⟩] 52 (0, 0)) := by rw [← hWb]; exact Deep.blk_alloc_new _ _
     have hownb := own_block hown fun b hb => bb.block b (own_lt hown hb)
     obtain ⟨v', We, hrun, hown2, hgr, _, hnew⟩ := run_append_own2 (P := Tryz.prog) (w := Wb) w.heap.size 42 42 52 i0 (.agg #[.string ⟨#[]⟩, .string ⟨#[]⟩]) 2 32 Tryz.underlying42 hi hz0 hz1 hz2 rfl (by decide) (.slice a5 n c5) n cl hownb ⟨wr.heap.size, 0, none⟩ 1 1 [.string ⟨x.1.toArray⟩, .string ⟨x.2.toArray⟩] rfl (World.news_of_block xb) (by intro u hu; simp only [List.mem_cons, List.not_mem_nil, or_false] at hu; rcases hu with rfl | rfl <;> rfl) (by unfold maxLen; omega) (by omega) (by omega)
     have htake : fs.take (n + 1) = fs.take n ++ [x] := by rw [List.take_succ_eq_append_getElem hnl, hx]
     have horE : OR w.heap.size 52 2 FdR We (fs.take (n + 1)) v' := by
      rw [htake]
      exact hpush FdR We x [.string ⟨x.1.toArray⟩, .string ⟨x.2.toArray⟩] v' (fun _ _ h => h) rfl rfl (by omega) hown2
     have hbE : Below w.heap.size w We := (HB.out.trans (bb.mono hszr)).grown hgr (by omega) (fun k hk => (HOR.out.lt hk).1)
     have htl1 : (fs.take (n + 1)).length = n + 1 := by rw [List.length_take]; omega
     obtain ⟨g6, c6, hv6, hB6, _, _, _⟩ := horE.cell2 (by omega)
     rw [htl1] at hv6
     subst hv6
     have HORE := Lib.hid horE
     have HBE := Lib.hid hbE
     have HTL1 := Lib.hid htl1
     have HXN : Hid (∀ h : n < (fs.take (n + 1)).length, (fs.take (n + 1))[n] = x) := Lib.hid (fun _ => by rw [List.getElem_take, hx])
     have HGB : Hid (∀ wr2, Below w.heap.size w wr2 → wr2.cell? ⟨g, off + n * 2, none⟩ = some (.string ⟨x.1.toArray⟩) ∧ wr2.cell? ⟨g, off + n * 2 + 1, none⟩ = some (.string ⟨x.2.toArray⟩)) := Lib.hid (fun wr2 hb => ⟨(hb.cell (p := ⟨g, off + n * 2, none⟩) hg).trans f0, (hb.cell (p := ⟨g, off + n * 2 + 1, none⟩) hg).trans f1⟩)
     have i1 : (n : Int) < (m : Int) := by omega
     clear hf f0 f1 hx hi hz0 hz1 hz2 hown hpush sb bb xb hownb hown2 hgr hnew htake horE hbE htl htl1 hszr
     go_wp2_with (at_builtin; refine wpList_append_run rfl _ _ _ rfl _ _ _ rfl rfl hrun ?_)
     clear hrun c0 c1
     go_loopw [7] (fun kk wr2 => kk = .int .i64 (n : Int) ∧ Hid (OR w.heap.size 52 2 FdR wr2 (fs.take (n + 1)) (.slice (some ⟨g6, 0, none⟩) (n + 1) c6)) ∧ Hid (Below w.heap.size w wr2)) (fun _ _ => 0)
     case atStart => exact ⟨rfl, HORE, HBE⟩
     case round =>
      obtain ⟨rfl, HO2, HB2⟩ := hrel
      obtain ⟨g7, c7, hv7, _, hg7, hz7, hcc7⟩ := HO2.out.cell2 (by rw [HTL1.out]; omega)
      injection hv7 with e1 e2 e3
      injection e1 with e1
      injection e1 with e1
      subst e1
      clear e2 e3
      have d0 := (hcc7 n (by rw [HTL1.out]; omega)).1
      have d1 := (hcc7 n (by rw [HTL1.out]; omega)).2
      rw [HXN.out _] at d0 d1
      obtain ⟨c0, c1⟩ := HGB.out _ HB2.out
      have HD := Lib.hid (fun (W : World) (hb : Below wr.heap.size wr W) => (⟨(hb.cell (p := ⟨g6, n * 2, none⟩) hg7).trans d0, (hb.cell (p := ⟨g6, n * 2 + 1, none⟩) hg7).trans d1, (frozen_keep hb hg7 (n * 2)).trans (hz7 _), (frozen_keep hb hg7 (n * 2 + 1)).trans (hz7 _)⟩ : W.cell? ⟨g6, n * 2, none⟩ = some (.string ⟨x.1.toArray⟩) ∧ W.cell? ⟨g6, n * 2 + 1, none⟩ = some (.string ⟨x.2.toArray⟩) ∧ W.frozen? ⟨g6, n * 2, none⟩ = false ∧ W.frozen? ⟨g6, n * 2 + 1, none⟩ = false))
      have HE2 := Lib.hid (fun (W : World) (hb : Below wr.heap.size wr W) => HO2.out.keep (fun j _ hj => hb.block j hj) (fun _ _ h => h))
      cases n with
      | zero =>
       clear hcc7 hz7 d0 d1 c0 c1
       go_wp2_with fail
       go_quiet (fail)
       obtain ⟨Wq, hWq⟩ : ∃ Wq, wr.drewN nq = Wq := ⟨_, rfl⟩
       have hbq : Below wr.heap.size wr Wq := by rw [← hWq]; exact below_drewN (Below.refl _ wr) nq
       rw [hWq]
       obtain ⟨d0, d1, z0, z1⟩ := HD.out Wq hbq
       obtain ⟨c0, c1⟩ := HGB.out Wq (HB2.out.trans (hbq.mono HB2.out.size))
       have s0 := set_same d0
       have s1 := set_same d1
       simp only [Nat.zero_mul, Nat.zero_add, Nat.add_zero] at d0 d1 z0 z1 c0 c1 s0 s1
       have HBQ := Lib.hid hbq
       clear hWq hbq
       go_wp2_with fail
       go_quiet (fail)
       go_wp2_with fail
       exact ⟨⟨0 + 1, by go_num, by omega, Lib.hid (HE2.out _ (below_drewN HBQ.out nq)), Lib.hid (HB2.out.trans ((below_drewN HBQ.out nq).mono HB2.out.size))⟩, by simp [intOf]; omega⟩
      | succ p =>
       have hp : p < fs.length := by rw [HLM.out]; omega
       obtain ⟨y, hy⟩ : ∃ y, fs[p] = y := ⟨_, rfl⟩
       have p0 := (hcc7 p (by rw [HTL1.out]; omega)).1
       rw [List.getElem_take, hy] at p0
       have hcmp : Lib.compareBytes y.1 x.1 < 0 := by
        have h1 := HS.out p (p + 1) hp (by rw [HLM.out]; omega) (Nat.lt_succ_self p)
        rw [hy] at h1
        have h2 := HXN.out (by rw [HTL1.out]; omega)
        rw [List.getElem_take] at h2
        rwa [h2] at h1
       have b1 : Op.bytesLess y.1 x.1 = true := by rw [less_cmp]; exact decide_eq_true hcmp
       have b2 : ¬ y.1 = x.1 := fun e => by rw [(cmp_zero _ _).2 e] at hcmp; omega
       have b3 : (y.1 == x.1) = false := by simpa using b2
       have HY := Lib.hid (fun (W : World) (hb : Below wr.heap.size wr W) => (hb.cell (p := ⟨g6, p * 2, none⟩) hg7).trans p0)
       clear hcc7 hz7 d0 d1 c1 hcmp hy hp
       have i4 : (0 : Int) ≤ (p : Int) := by omega
       have i5 : (p : Int) + 1 < (m : Int) := by omega
       have i6 : (0 : Int) ≤ (p : Int) + 1 := by omega
       have i7 : (0 : Int) < (p : Int) + 1 := by omega
       have i8 : (p : Int) < (m : Int) := by omega
       go_wp2_with fail
       go_quiet (fail)
       obtain ⟨Wq, hWq⟩ : ∃ Wq, wr.drewN nq = Wq := ⟨_, rfl⟩
       have hbq : Below wr.heap.size wr Wq := by rw [← hWq]; exact below_drewN (Below.refl _ wr) nq
       rw [hWq]
       obtain ⟨d0, d1, z0, z1⟩ := HD.out Wq hbq
       obtain ⟨c0, c1⟩ := HGB.out Wq (HB2.out.trans (hbq.mono HB2.out.size))
       have p0 := HY.out Wq hbq
       have s0 := set_same d0
       have s1 := set_same d1
       have HBQ := Lib.hid hbq
       clear hWq hbq
       go_wp2_with fail
       go_quiet (fail)
       go_wp2_with fail
       exact ⟨⟨p + 1 + 1, by go_num, by omega, Lib.hid (HE2.out _ (below_drewN HBQ.out nq)), Lib.hid (HB2.out.trans ((below_drewN HBQ.out nq).mono HB2.out.size))⟩, by simp [intOf]; omega⟩
    ·obtain rfl : n = m := by omega
     obtain ⟨va, vc, hv, _⟩ := HOR.out.rw (F := fun _ => True) (fun _ _ => trivial)
     have htl : (fs.take n).length = n := by rw [List.length_take, HLM.out, Nat.min_self]
     rw [htl] at hv
     subst hv
     have HO2 : Hid (OR w.heap.size 52 2 FdR wr fs (.slice va n vc)) := Lib.hid (by
      have := HOR.out
      rwa [List.take_of_length_le (by rw [HLM.out]; exact Nat.le_refl _)] at this)
     clear htl
     go_wp2_with fail
     go_ret2
     exact ⟨_, rfl, HO2.out, HB.out⟩
end Go.Proofs.YtmpbjaodgajnfaaGreatDoor
namespace Go.Proofs.YtmpbjaodgajnfaaGreatDoor
open Go.RowKit
set_option maxRecDepth 1000000 in
set_option maxHeartbeats 2000000 in
theorem same11_yes {F G : Nat → Prop} (d : List Fd) (u v : Value) (w : World) (ha : RW F 2 FdR w d u) (hb : RW G 2 FdR w d v) :
  Calls Tryz.prog 43 #[u, v] w fun e w' => e = .returned (.bool true) ∧ Below w.heap.size w w' := by
 obtain ⟨a, c, rfl, hma, hca⟩ := ha
 obtain ⟨a', c', rfl, _, hcb⟩ := hb
 have hl := hma.1
 obtain ⟨n, hn⟩ : ∃ n, d.length = n := ⟨_, rfl⟩
 have HA := Lib.hid hca
 have HB := Lib.hid hcb
 have HN := Lib.hid hn
 rw [hn] at hl ⊢
 clear hca hcb hma hn
 go_enter Tryz.func43, Tryz.ntmps43
 go_wp2_with fail
 go_loopw [5] (fun i wr => ∃ k : Nat, k ≤ n ∧ i = .int .i64 k ∧ Hid (Below w.heap.size w wr)) (fun i _ => n - (intOf i).toNat)
 case atStart => exact ⟨0, by omega, rfl, Lib.hid (Below.refl _ _)⟩
 case round =>
  obtain ⟨k, hk, rfl, HW⟩ := hrel
  by_cases hlt : k < n
  ·obtain ⟨g, o, ha, hg, _, hce⟩ := HA.out (by rw [HN.out]; omega)
   obtain ⟨g', o', hb', hg', _, hce'⟩ := HB.out (by rw [HN.out]; omega)
   subst ha hb'
   obtain ⟨us, _, hcu, hru⟩ := hce k (by rw [HN.out]; omega)
   obtain ⟨us', _, hcu', hru'⟩ := hce' k (by rw [HN.out]; omega)
   unfold FdR at hru hru'
   subst hru hru'
   have c1 := (HW.out.cell (p := ⟨g, o + k * 2 + 0, none⟩) hg).trans (hcu 0 (by decide))
   have c2 := (HW.out.cell (p := ⟨g, o + k * 2 + 1, none⟩) hg).trans (hcu 1 (by decide))
   have c3 := (HW.out.cell (p := ⟨g', o' + k * 2 + 0, none⟩) hg').trans (hcu' 0 (by decide))
   have c4 := (HW.out.cell (p := ⟨g', o' + k * 2 + 1, none⟩) hg').trans (hcu' 1 (by decide))
   simp only [Nat.add_zero, List.getElem?_cons_zero, List.getElem?_cons_succ] at c1 c2 c3 c4
   clear hce hce' hcu hcu'
   have i1 : (k : Int) < (n : Int) := by omega
   have i2 : (0 : Int) ≤ (k : Int) := by omega
   generalize (d[k]'(by rw [HN.out]; omega)).1 = x at *
   generalize (d[k]'(by rw [HN.out]; omega)).2 = y at *
   go_wp2_with fail
   go_quiet (fail)
   have HW2 := Lib.hid (below_drewN HW.out nq)
   go_wp2_with fail
   go_roundw
   case rel => exact ⟨k + 1, by omega, by go_num, HW2⟩
   case measure => simp [intOf]; omega
  ·go_wp2_with fail
   go_ret
   exact ⟨rfl, HW.out⟩
set_option maxRecDepth 1000000 in
set_option maxHeartbeats 2000000 in
theorem samelines_yes {F G : Nat → Prop} (d : List Ln) (u v : Value) (w : World) (ha : RW F 3 LnR w d u) (hb : RW G 3 LnR w d v) :
  Calls Tryz.prog 54 #[u, v] w fun e w' => e = .returned (.bool true) ∧ Below w.heap.size w w' := by
 obtain ⟨a, c, rfl, hma, hca⟩ := ha
 obtain ⟨a', c', rfl, _, hcb⟩ := hb
 have hl := hma.1
 obtain ⟨n, hn⟩ : ∃ n, d.length = n := ⟨_, rfl⟩
 have HA := Lib.hid hca
 have HB := Lib.hid hcb
 have HN := Lib.hid hn
 rw [hn] at hl ⊢
 clear hca hcb hma hn
 go_enter Tryz.func54, Tryz.ntmps54
 go_wp2_with fail
 go_loopw [5] (fun i wr => ∃ k : Nat, k ≤ n ∧ i = .int .i64 k ∧ Hid (Below w.heap.size w wr)) (fun i _ => n - (intOf i).toNat)
 case atStart => exact ⟨0, by omega, rfl, Lib.hid (Below.refl _ _)⟩
 case round =>
  obtain ⟨k, hk, rfl, HW⟩ := hrel
  by_cases hlt : k < n
  ·obtain ⟨g, o, ha, hg, _, hce⟩ := HA.out (by rw [HN.out]; omega)
   obtain ⟨g', o', hb', hg', _, hce'⟩ := HB.out (by rw [HN.out]; omega)
   subst ha hb'
   obtain ⟨us, _, hcu, hru⟩ := hce k (by rw [HN.out]; omega)
   obtain ⟨us', _, hcu', hru'⟩ := hce' k (by rw [HN.out]; omega)
   unfold LnR at hru hru'
   subst hru hru'
   have c1 := (HW.out.cell (p := ⟨g, o + k * 3 + 0, none⟩) hg).trans (hcu 0 (by decide))
   have c2 := (HW.out.cell (p := ⟨g, o + k * 3 + 1, none⟩) hg).trans (hcu 1 (by decide))
   have c3 := (HW.out.cell (p := ⟨g, o + k * 3 + 2, none⟩) hg).trans (hcu 2 (by decide))
   have c4 := (HW.out.cell (p := ⟨g', o' + k * 3 + 0, none⟩) hg').trans (hcu' 0 (by decide))
   have c5 := (HW.out.cell (p := ⟨g', o' + k * 3 + 1, none⟩) hg').trans (hcu' 1 (by decide))
   have c6 := (HW.out.cell (p := ⟨g', o' + k * 3 + 2, none⟩) hg').trans (hcu' 2 (by decide))
   simp only [Nat.add_zero, List.getElem?_cons_zero, List.getElem?_cons_succ] at c1 c2 c3 c4 c5 c6
   clear hce hce' hcu hcu'
   have i1 : (k : Int) < (n : Int) := by omega
   have i2 : (0 : Int) ≤ (k : Int) := by omega
   generalize (d[k]'(by rw [HN.out]; omega)).1 = x at *
   generalize (d[k]'(by rw [HN.out]; omega)).2.1 = y at *
   generalize (d[k]'(by rw [HN.out]; omega)).2.2 = z at *
   go_wp2_with fail
   go_quiet (fail)
   have HW2 := Lib.hid (below_drewN HW.out nq)
   go_wp2_with fail
   go_roundw
   case rel => exact ⟨k + 1, by omega, by go_num, HW2⟩
   case measure => simp [intOf]; omega
  ·go_wp2_with fail
   go_ret
   exact ⟨rfl, HW.out⟩
end Go.Proofs.YtmpbjaodgajnfaaGreatDoor
namespace Go.Proofs.YtmpbjaodgajnfaaGreatDoor
open Go.RowKit
def LnOk : Int → Int → List Ln → Prop
 | a, b, [] => a = b
 | a, b, x :: l => x.1 = a ∧ 1 ≤ x.2.1 ∧ x.2.2.length ≤ 2000 ∧ LnOk (a + x.2.1) b l
theorem LnOk.le : ∀ {l : List Ln} {a b : Int}, LnOk a b l → a ≤ b
 | [], a, b, h => by unfold LnOk at h; omega
 | x :: l, a, b, h => by
  obtain ⟨_, h2, _, h4⟩ := h
  have := h4.le
  omega
structure EvGood (d : Evd) : Prop where
 host : 0 ≤ d.1.host ∧ d.1.host ≤ 999
 file : 0 ≤ d.1.file ∧ d.1.file ≤ 2147483646
 at_ : 0 ≤ d.1.lo ∧ d.1.lo < d.1.hi ∧ d.1.hi ≤ 60000
 time : 0 ≤ d.1.time ∧ d.1.time ≤ 253402300799999
 weight : d.1.weight = 1 ∨ d.1.weight = 2 ∨ d.1.weight = 5 ∨ d.1.weight = 10 ∨ d.1.weight = 5040
 lines : LnOk d.1.lo d.1.hi d.2.1
 nl : 0 < d.2.1.length ∧ d.2.1.length ≤ 40
 trace : d.1.trace.length ≤ 32
 stream : d.1.stream.length ≤ 32
 srt : SrtF d.2.2
 nf : d.2.2.length ≤ 32
 names : ∀ x ∈ d.2.2, NmLow x.1 ∧ x.2.length ≤ 2000
theorem weight_yes (n : Int) (w : World) (h : n = 1 ∨ n = 2 ∨ n = 5 ∨ n = 10 ∨ n = 5040) : Calls Tryz.prog 40 #[.int .i64 n] w fun e w' => e = .returned (.bool true) ∧ w = w' := by
 rcases h with rfl | rfl | rfl | rfl | rfl
 all_goals
  go_enter Tryz.func40, Tryz.ntmps40
  go_wp2_with fail
  go_ret
  exact ⟨rfl, rfl⟩
set_option maxHeartbeats 2000000 in
set_option maxRecDepth 1000000 in
theorem place_yes (e : Ev) (w : World) (h1 : 0 ≤ e.host ∧ e.host ≤ 999) (h2 : 0 ≤ e.file ∧ e.file ≤ 2147483646) (h3 : 0 ≤ e.lo ∧ e.lo < e.hi ∧ e.hi ≤ 60000) :
  Calls Tryz.prog 39 #[.agg (evC e)] w fun en w' => en = .returned (.int .i64 0) ∧ Below w.heap.size w w' := by
 obtain ⟨W1, hW1⟩ : ∃ W1, w.alloc (.cells (evC e) 44) = W1 := ⟨_, rfl⟩
 have hb1 : Below w.heap.size w W1 := by rw [← hW1]; exact (Below.refl _ _).alloc (Nat.le_refl _) _
 have hx1 : W1.heap[w.heap.size]? = some (.cells (evC e) 44 (0, 0)) := by rw [← hW1]; exact Deep.blk_alloc_new _ _
 have k0 : W1.cell? ⟨w.heap.size, 0, none⟩ = some (.int .i64 e.host) := by rw [Lib.cell_of_heap hx1]; rfl
 have k1 : W1.cell? ⟨w.heap.size, 1, none⟩ = some (.int .i64 e.file) := by rw [Lib.cell_of_heap hx1]; rfl
 have k2 : W1.cell? ⟨w.heap.size, 2, none⟩ = some (.int .i64 e.lo) := by rw [Lib.cell_of_heap hx1]; rfl
 have k3 : W1.cell? ⟨w.heap.size, 3, none⟩ = some (.int .i64 e.hi) := by rw [Lib.cell_of_heap hx1]; rfl
 have HB1 := Lib.hid hb1
 obtain ⟨a1, a2⟩ := h1
 obtain ⟨a3, a4⟩ := h2
 obtain ⟨a5, a6, a7⟩ := h3
 have n1 : ¬ e.host < 0 := by omega
 have n2 : ¬ 999 < e.host := by omega
 have n3 : ¬ e.file < 0 := by omega
 have n4 : ¬ 2147483646 < e.file := by omega
 have n5 : ¬ e.lo < 0 := by omega
 have n6 : ¬ e.hi ≤ e.lo := by omega
 have n7 : ¬ 60000 < e.hi := by omega
 clear hx1 hb1
 generalize e.host = x0 at *
 generalize e.file = x1 at *
 generalize e.lo = x2 at *
 generalize e.hi = x3 at *
 go_enter Tryz.func39, Tryz.ntmps39
 go_wp2_with fail
 go_ret
 exact ⟨rfl, HB1.out⟩
theorem LnOk.drop : ∀ {l : List Ln} {a b : Int} (n : Nat), LnOk a b l → n ≤ l.length → ∃ c, LnOk c b (l.drop n)
 | _, a, _, 0, h, _ => ⟨a, h⟩
 | [], _, _, n + 1, _, hn => absurd hn (by simp)
 | x :: l, a, b, n + 1, h, hn => LnOk.drop n h.2.2.2 (by simpa using hn)
set_option maxHeartbeats 4000000 in
set_option maxRecDepth 1000000 in
theorem lines_yes {F : Nat → Prop} (e : Ev) (ls : List Ln) (w : World) (hl : RW F 3 LnR w ls e.lv) (hn : 0 < ls.length ∧ ls.length ≤ 40) (h0 : 0 ≤ e.lo ∧ e.hi ≤ 60000) (hk : LnOk e.lo e.hi ls) :
  Calls Tryz.prog 41 #[.agg (evC e), .int .i64 2000] w fun en w' => en = .returned (.int .i64 0) ∧ Below w.heap.size w w' := by
 obtain ⟨a, c, hlv, _, hel⟩ := hl
 obtain ⟨W1, hW1⟩ : ∃ W1, w.alloc (.cells (evC e) 44) = W1 := ⟨_, rfl⟩
 have hb1 : Below w.heap.size w W1 := by rw [← hW1]; exact (Below.refl _ _).alloc (Nat.le_refl _) _
 have hs1 : W1.heap.size = w.heap.size + 1 := by rw [← hW1]; exact Deep.nblk_alloc _ _
 have hx1 : W1.heap[w.heap.size]? = some (.cells (evC e) 44 (0, 0)) := by rw [← hW1]; exact Deep.blk_alloc_new _ _
 obtain ⟨m, hm⟩ : ∃ m, ls.length = m := ⟨_, rfl⟩
 rw [hm] at hlv hn
 have k2 : W1.cell? ⟨w.heap.size, 2, none⟩ = some (.int .i64 e.lo) := by rw [Lib.cell_of_heap hx1]; rfl
 have k3 : W1.cell? ⟨w.heap.size, 3, none⟩ = some (.int .i64 e.hi) := by rw [Lib.cell_of_heap hx1]; rfl
 have k4 : W1.cell? ⟨w.heap.size, 4, none⟩ = some (.slice a m c) := by rw [Lib.cell_of_heap hx1, ← hlv]; rfl
 have HK := Lib.hid (fun (W : World) (hb : Below W1.heap.size W1 W) => (⟨(hb.cell (p := ⟨w.heap.size, 3, none⟩) (by show w.heap.size < W1.heap.size; omega)).trans k3, (hb.cell (p := ⟨w.heap.size, 4, none⟩) (by show w.heap.size < W1.heap.size; omega)).trans k4⟩ : W.cell? ⟨w.heap.size, 3, none⟩ = some (.int .i64 e.hi) ∧ W.cell? ⟨w.heap.size, 4, none⟩ = some (.slice a m c)))
 have HB1 := Lib.hid hb1
 have HS1 := Lib.hid hs1
 have HEL := Lib.hid hel
 have HM := Lib.hid hm
 have HLN := Lib.hid hk
 obtain ⟨lo, hlo⟩ : ∃ x, e.lo = x := ⟨_, rfl⟩
 obtain ⟨hi, hhi⟩ : ∃ x, e.hi = x := ⟨_, rfl⟩
 rw [hlo] at h0 k2 HLN
 rw [hhi] at h0 k3 HLN HK
 have hlt0 : (0 : Int) < (m : Int) := by omega
 have hle40 : ¬ (40 : Int) < (m : Int) := by omega
 have hne0 : ¬ ((m : Int) = 0) := by omega
 obtain ⟨h01, h02⟩ := h0
 obtain ⟨hn1, hn2⟩ := hn
 clear hx1 hb1 hel hm hk hlv hlo hhi hs1
 go_enter Tryz.func41, Tryz.ntmps41
 go_wp2_with fail
 go_loopw [5, 6] (fun t i wr => ∃ (n : Nat) (x : Int), t = .int .i64 x ∧ i = .int .i64 (n : Int) ∧ n ≤ m ∧ lo ≤ x ∧ Hid (LnOk x hi (ls.drop n)) ∧ Hid (Below W1.heap.size W1 wr)) (fun _ i _ => m - (intOf i).toNat)
 case atStart => exact ⟨0, lo, rfl, rfl, Nat.zero_le _, Int.le_refl _, HLN, Lib.hid (Below.refl _ _)⟩
 case round =>
  obtain ⟨n, x, rfl, rfl, hn2', hx0, HLX, HB⟩ := hrel
  obtain ⟨c3, c4⟩ := HK.out wr HB.out
  have hbw : Below w.heap.size w wr := HB1.out.trans (HB.out.mono (by have := HS1.out; omega))
  by_cases hlt : n < m
  ·obtain ⟨blk, off, ha, hbl, _, hcc⟩ := HEL.out (by rw [HM.out]; omega)
   subst ha
   obtain ⟨us, hus, hcell, hr⟩ := hcc n (by rw [HM.out]; omega)
   unfold LnR at hr
   subst hr
   have hnl : n < ls.length := by rw [HM.out]; exact hlt
   have hdr : ls.drop n = ls[n] :: ls.drop (n + 1) := List.drop_eq_getElem_cons hnl
   have hlx := HLX.out
   rw [hdr] at hlx
   obtain ⟨q, hq⟩ : ∃ q, ls[n] = q := ⟨_, rfl⟩
   rw [hq] at hcell hlx
   obtain ⟨y0, y1, y2⟩ := q
   have d0 := (hbw.cell (p := ⟨blk, off + n * 3 + 0, none⟩) hbl).trans (hcell 0 (by decide))
   have d1 := (hbw.cell (p := ⟨blk, off + n * 3 + 1, none⟩) hbl).trans (hcell 1 (by decide))
   have d2 := (hbw.cell (p := ⟨blk, off + n * 3 + 2, none⟩) hbl).trans (hcell 2 (by decide))
   simp only [Nat.add_zero, List.getElem?_cons_zero, List.getElem?_cons_succ] at d0 d1 d2
   obtain ⟨g1, g2, g3, g4⟩ := hlx
   simp only at g1 g2 g3 g4
   subst g1
   have hle := g4.le
   have i1 : (n : Int) < (m : Int) := by omega
   have i2 : (0 : Int) ≤ (n : Int) := by omega
   have n1 : ¬ y1 < 1 := by omega
   have n2 : ¬ hi - y0 < y1 := by omega
   have n3 : ¬ (2000 : Int) < (y2.length : Int) := by omega
   have n4 : (y0 == y0) = true := by simp
   have HG4 := Lib.hid g4
   obtain ⟨Wl, hWl⟩ : ∃ Wl, wr.alloc (.cells #[.int .i64 y0, .int .i64 y1, .string ⟨y2.toArray⟩] 50) = Wl := ⟨_, rfl⟩
   have sl : Wl.heap.size = wr.heap.size + 1 := by rw [← hWl]; exact Deep.nblk_alloc _ _
   have bl : Below wr.heap.size wr Wl := by rw [← hWl]; exact (Below.refl _ _).alloc (Nat.le_refl _) _
   have xl : Wl.heap[wr.heap.size]? = some (.cells #[.int .i64 y0, .int .i64 y1, .string ⟨y2.toArray⟩] 50 (0, 0)) := by rw [← hWl]; exact Deep.blk_alloc_new _ _
   have HBL : Hid (Below W1.heap.size W1 Wl) := Lib.hid (HB.out.trans (bl.mono HB.out.size))
   obtain ⟨c3l, c4l⟩ := HK.out Wl HBL.out
   have l0 : Wl.cell? ⟨wr.heap.size, 0, none⟩ = some (.int .i64 y0) := by rw [Lib.cell_of_heap xl]; rfl
   have l1 : Wl.cell? ⟨wr.heap.size, 1, none⟩ = some (.int .i64 y1) := by rw [Lib.cell_of_heap xl]; rfl
   have l2 : Wl.cell? ⟨wr.heap.size, 2, none⟩ = some (.string ⟨y2.toArray⟩) := by rw [Lib.cell_of_heap xl]; rfl
   clear hcell hus hcc hdr hq g3 g4 hnl sl bl xl
   by_cases hlast : n + 1 = m
   ·have HE : Hid (y1 = hi - y0) := Lib.hid (by
     have := HG4.out
     rw [List.drop_of_length_le (by rw [HM.out]; omega)] at this
     unfold LnOk at this
     omega)
    have n5 : (m : Int) - 1 = (n : Int) := by omega
    have n6 : (y1 == hi - y0) = true := by simpa using HE.out
    have n7 : (hi - y0 == y1) = true := by simpa using HE.out.symm
    have n8 : (!y1 == hi - y0) = false := by rw [n6]; rfl
    clear hlast
    go_wp2_with fail
    go_roundw
    case rel => exact ⟨n + 1, y0 + y1, by first | rfl | go_num, by go_num, by omega, by omega, HG4, HBL⟩
    case measure => simp [intOf]; omega
   ·have n5 : ¬ (n : Int) = (m : Int) - 1 := by omega
    have n6 : ((n : Int) == (m : Int) - 1) = false := by simpa using n5
    clear hlast
    go_wp2_with fail
    go_roundw
    case rel => exact ⟨n + 1, y0 + y1, by first | rfl | go_num, by go_num, by omega, by omega, HG4, HBL⟩
    case measure => simp [intOf]; omega
  ·obtain rfl : n = m := by omega
   go_wp2_with fail
   go_ret
   exact ⟨rfl, hbw⟩
set_option maxHeartbeats 8000000 in
set_option maxRecDepth 1000000 in
theorem check_yes {F : Nat → Prop} (e : Ev) (ls : List Ln) (fs : List Fd) (w : World) (hg : EvGood (e, ls, fs)) (hl : RW F 3 LnR w ls e.lv) (hf : RW F 2 FdR w fs e.fv) :
  Calls Tryz.prog 17 #[.agg (evC e)] w fun en w' => en = .returned (.int .i64 0) ∧ Below w.heap.size w w' := by
 obtain ⟨W1, hW1⟩ : ∃ W1, w.alloc (.cells (evC e) 44) = W1 := ⟨_, rfl⟩
 have hb1 : Below w.heap.size w W1 := by rw [← hW1]; exact (Below.refl _ _).alloc (Nat.le_refl _) _
 have hs1 : W1.heap.size = w.heap.size + 1 := by rw [← hW1]; exact Deep.nblk_alloc _ _
 have hx1 : W1.heap[w.heap.size]? = some (.cells (evC e) 44 (0, 0)) := by rw [← hW1]; exact Deep.blk_alloc_new _ _
 obtain ⟨m, hm⟩ : ∃ m, fs.length = m := ⟨_, rfl⟩
 obtain ⟨fa, fc, hfv⟩ : ∃ a c, e.fv = .slice a m c := by
  obtain ⟨a, c, h, _⟩ := hf
  exact ⟨a, c, by rw [h, hm]⟩
 have HX := Lib.hid (fun (W : World) (hb : Below W1.heap.size W1 W) => (hb.block _ (by omega : w.heap.size < W1.heap.size)).trans hx1)
 have HK := Lib.hid (fun (W : World) (hb : Below W1.heap.size W1 W) => (⟨by rw [Lib.cell_of_heap (HX.out W hb)]; rfl, by rw [Lib.cell_of_heap (HX.out W hb)]; rfl, by rw [Lib.cell_of_heap (HX.out W hb)]; rfl, by rw [Lib.cell_of_heap (HX.out W hb)]; rfl, by rw [Lib.cell_of_heap (HX.out W hb), ← hfv]; rfl⟩ : W.cell? ⟨w.heap.size, 5, none⟩ = some (.int .i64 e.time) ∧ W.cell? ⟨w.heap.size, 6, none⟩ = some (.int .i64 e.weight) ∧ W.cell? ⟨w.heap.size, 7, none⟩ = some (.string ⟨e.trace.toArray⟩) ∧ W.cell? ⟨w.heap.size, 8, none⟩ = some (.string ⟨e.stream.toArray⟩) ∧ W.cell? ⟨w.heap.size, 9, none⟩ = some (.slice fa m fc)))
 have HLW := Lib.hid (fun (W : World) (hb : Below W1.heap.size W1 W) => hl.go (F' := fun _ => True) ⟨by have := hb.size; omega, fun k _ hk => ⟨trivial, (hb.block k (by omega)).trans (hb1.block k hk)⟩⟩ (fun _ _ h => h))
 have HFW := Lib.hid (fun (W : World) (hb : Below W1.heap.size W1 W) => hf.go (F' := fun _ => True) ⟨by have := hb.size; omega, fun k _ hk => ⟨trivial, (hb.block k (by omega)).trans (hb1.block k hk)⟩⟩ (fun _ _ h => h))
 have HG := Lib.hid hg
 have HB1 := Lib.hid hb1
 have HS1 := Lib.hid hs1
 have HM := Lib.hid hm
 have HFV := Lib.hid hfv
 obtain ⟨t1, t2⟩ : 0 ≤ e.time ∧ e.time ≤ 253402300799999 := hg.time
 have n1 : ¬ e.time < 0 := by omega
 have n2 : ¬ 253402300799999 < e.time := by omega
 have HPL := Lib.hid (place_yes e W1 hg.host hg.file hg.at_)
 have hx0 := HX.out W1 (Below.refl _ _)
 have HX0 := Lib.hid hx0
 have tr1 : ¬ (32 : Int) < (e.trace.length : Int) := by have : e.trace.length ≤ 32 := hg.trace; omega
 have tr2 : ¬ (32 : Int) < (e.stream.length : Int) := by have : e.stream.length ≤ 32 := hg.stream; omega
 clear hb1 hx1 hm hfv hl hf hg t1 t2 hx0 hs1
 go_enter Tryz.func17, Tryz.ntmps17
 go_wp2_with (refine wpl_load_ev rfl _ rfl w.heap.size rfl e HX0.out ?_)
 refine HPL.out.mono ?_
 rintro en w2 ⟨rfl, hb2⟩
 obtain ⟨k5, k6, k7, k8, k9⟩ := HK.out w2 hb2
 have HB2 := Lib.hid hb2
 have HWT := Lib.hid (weight_yes e.weight w2 HG.out.weight)
 have HX2 := Lib.hid (HX.out w2 hb2)
 have HLI := Lib.hid (lines_yes e ls w2 (HLW.out w2 hb2) HG.out.nl ⟨HG.out.at_.1, HG.out.at_.2.2⟩ HG.out.lines)
 clear hb2
 go_wp2_with (first
  | (go_at_call 40; refine HWT.out.mono ?_; rintro en w' ⟨rfl, rfl⟩)
  | (refine wpl_load_ev rfl _ rfl w.heap.size rfl e HX2.out ?_))
 refine HLI.out.mono ?_
 rintro en w3 ⟨rfl, hb3⟩
 have hb3' := HB2.out.trans (hb3.mono HB2.out.size)
 obtain ⟨j5, j6, j7, j8, j9⟩ := HK.out w3 hb3'
 have HB3 := Lib.hid hb3'
 have HSO := Lib.hid (sort_yes fs e.fv w3 (HFW.out w3 hb3') HG.out.nf (fun x hx => (HG.out.names x hx).1) HG.out.srt)
 rw [HFV.out] at HSO
 clear hb3 hb3' k5 k6 k7 k8 k9
 go_wp2_with fail
 refine HSO.out.mono ?_
 rintro en w4 ⟨v, rfl, hor, hb4⟩
 have hb4' := HB3.out.trans (hb4.mono HB3.out.size)
 obtain ⟨i5, i6, i7, i8, i9⟩ := HK.out w4 hb4'
 have hrw := hor.rw (F := fun _ => True) (fun _ _ => trivial)
 obtain ⟨va, vc, hv, _⟩ := id hrw
 rw [HM.out] at hv
 subst hv
 have HB4 := Lib.hid hb4'
 have hsm := same11_yes fs _ e.fv w4 hrw (HFW.out w4 hb4')
 rw [HFV.out] at hsm
 have HSM := Lib.hid hsm
 have HRW := Lib.hid hrw
 clear hor hb4 hb4' hrw hsm j5 j6 j7 j8 j9
 go_wp2_with fail
 refine HSM.out.mono ?_
 rintro en w5 ⟨rfl, hb5⟩
 have HB5 := Lib.hid hb5
 have HB5' := Lib.hid (HB4.out.trans (hb5.mono HB4.out.size))
 clear hb5 i5 i6 i7 i8 i9
 go_wp2_with fail
 go_loop [7] (fun i => ∃ k : Nat, k ≤ m ∧ i = .int .i64 k) (fun i => m - (intOf i).toNat)
 case atStart => exact ⟨0, by omega, rfl⟩
 case round =>
  obtain ⟨k, hk, rfl⟩ := hrel
  by_cases hlt : k < m
  ·obtain ⟨a, c, e1, _, hcc⟩ := HRW.out
   injection e1 with e1 e2 e3
   subst e1
   clear e2 e3
   obtain ⟨blk, off, ha, hbl, _, hce⟩ := hcc (by rw [HM.out]; omega)
   subst ha
   have hkl : k < fs.length := by rw [HM.out]; exact hlt
   obtain ⟨us, hus, hcell, hr⟩ := hce k hkl
   unfold FdR at hr
   subst hr
   have d1 := (HB5.out.cell (p := ⟨blk, off + k * 2 + 1, none⟩) hbl).trans (hcell 1 (by decide))
   simp only [List.getElem?_cons_zero, List.getElem?_cons_succ] at d1
   have hv := (HG.out.names _ (List.getElem_mem hkl)).2
   obtain ⟨y, hy⟩ : ∃ y, fs[k].2 = y := ⟨_, rfl⟩
   simp only [hy] at d1 hv
   have n3 : ¬ (2000 : Int) < (y.length : Int) := by omega
   have p1 : (k : Int) < (m : Int) := by omega
   have p2 : (0 : Int) ≤ (k : Int) := by omega
   clear hcell hus hcc hce hy hv
   go_wp2_with fail
   go_round
   case rel => exact ⟨k + 1, by omega, by go_num⟩
   case measure => simp [intOf]; omega
  ·go_wp2_with fail
   go_ret
   exact ⟨rfl, HB1.out.trans (HB5'.out.mono (by have := HS1.out; omega))⟩
end Go.Proofs.YtmpbjaodgajnfaaGreatDoor
namespace Go.Proofs.YtmpbjaodgajnfaaGreatDoor
open Go.RowKit
def fieldF : List (List UInt8) := [[99, 111, 100, 101], [108, 101, 118, 101, 108], [109, 115], [117, 115, 101, 114]]
theorem fieldF_lt : ∀ k, k < 4 → ∀ j, j < k → Lib.compareBytes (fieldF.getD j []) (fieldF.getD k []) < 0 := by decide
theorem fieldF_low : ∀ k, k < 4 → NmLow (fieldF.getD k []) := by
 intro k hk
 have : ∀ k, k < 4 → 0 < (fieldF.getD k []).length ∧ (fieldF.getD k []).length ≤ 32 ∧ ∀ c ∈ fieldF.getD k [], 97 ≤ c.toNat ∧ c.toNat ≤ 122 := by decide
 obtain ⟨h1, h2, h3⟩ := this k hk
 exact ⟨h1, h2, fun i h => h3 _ (List.getElem_mem h)⟩
structure GenF (k : Nat) (out : List Fd) : Prop where
 srt : SrtF out
 len : out.length ≤ k
 names : ∀ f ∈ out, ∃ j, j < k ∧ f.1 = fieldF.getD j []
 vals : ∀ f ∈ out, f.2.length ≤ 19
theorem GenF.nil : GenF 0 [] := ⟨fun i j hi => absurd hi (by simp), by simp, fun f h => (by cases h), fun f h => (by cases h)⟩
theorem GenF.skip {k : Nat} {out : List Fd} (h : GenF k out) : GenF (k + 1) out := ⟨h.srt, by have := h.len; omega, fun f hf => by
 obtain ⟨j, hj, e⟩ := h.names f hf
 exact ⟨j, by omega, e⟩, h.vals⟩
theorem GenF.push {k : Nat} {out : List Fd} (h : GenF k out) (hk : k < 4) (x : List UInt8) (hx : x.length ≤ 19) : GenF (k + 1) (out ++ [(fieldF.getD k [], x)]) := by
 refine ⟨fun i j hi hj hij => ?_, by rw [List.length_append]; have := h.len; simp; omega, fun f hf => ?_, fun f hf => ?_⟩
 ·rw [List.length_append, List.length_singleton] at hi hj
  have hi' : i < out.length := by omega
  rw [List.getElem_append_left hi']
  rcases Nat.lt_or_ge j out.length with hj' | hj'
  ·rw [List.getElem_append_left hj']
   exact h.srt i j hi' hj' hij
  ·rw [List.getElem_append_right hj']
   simp only [List.getElem_singleton]
   obtain ⟨q, hq, e⟩ := h.names _ (List.getElem_mem hi')
   rw [e]
   exact fieldF_lt k hk q hq
 ·rcases List.mem_append.1 hf with hf | hf
  ·obtain ⟨j, hj, e⟩ := h.names f hf
   exact ⟨j, by omega, e⟩
  ·rw [List.mem_singleton] at hf
   subst hf
   exact ⟨k, by omega, rfl⟩
 ·rcases List.mem_append.1 hf with hf | hf
  ·exact h.vals f hf
  ·rw [List.mem_singleton] at hf
   subst hf
   exact hx
structure FLS (w : World) (g : Nat) (out : List Fd) (v : Value) (W : World) : Prop where
 own : OR (w.heap.size + 1) 52 2 FdR W out v
 apart : Apart g w W
 codes : CodesAt W g
 names : ∀ k, k < 4 → W.cell? ⟨w.heap.size, k, none⟩ = some (.string ⟨(fieldF.getD k []).toArray⟩)
 big : w.heap.size < W.heap.size
 nil : out = [] → v = .slice none 0 0
theorem FLS.go {w W W' : World} {g : Nat} {out : List Fd} {v : Value} (h : FLS w g out v W) (hg : g < w.heap.size) (ha : Apart g W W') (hc : CodesAt W' g) : FLS w g out v W' :=
 ⟨h.own.keep (fun k hk hl => ha.block (by omega) hl) (fun _ _ h => h), h.apart.trans ha, hc, fun k hk => (ha.cell (p := ⟨w.heap.size, k, none⟩) (by show w.heap.size ≠ g; omega) h.big).trans (h.names k hk), Nat.lt_of_lt_of_le h.big ha.1.size, h.nil⟩
theorem FLS.push {w W W' : World} {g : Nat} {out : List Fd} {v v' : Value} {o : Obj} (h : FLS w g out v W) (hg : g < w.heap.size) {x : Fd} (ho : OR (w.heap.size + 1) 52 2 FdR W' (out ++ [x]) v') (hgr : (W.alloc o).grownBy W' v.ownBlock) : FLS w g (out ++ [x]) v' W' := by
 have hB : Below (w.heap.size + 1) W W' := ((Below.refl _ W).alloc h.big _).grown hgr (by have := h.big; simp; omega) (fun k hk => (h.own.lt hk).1)
 exact ⟨ho, ⟨h.apart.1.trans (hB.mono (by omega)), fun k h1 h2 => (hB.block k (by omega)).trans (h.apart.2 k h1 h2)⟩, h.codes.of_below (by omega) hB, fun k hk => (hB.cell (p := ⟨w.heap.size, k, none⟩) (Nat.lt_succ_self _)).trans (h.names k hk), Nat.lt_of_lt_of_le h.big hB.size, fun e => (by simp at e)⟩
def DFldP (g : Nat) (w : World) (e : Ending) (w' : World) : Prop := ∃ v d, e = .returned v ∧ OR (w.heap.size + 1) 52 2 FdR w' d v ∧ GenF 4 d ∧ (d = [] → v = .slice none 0 0) ∧ CodesAt w' g ∧ Apart g w w'
set_option maxRecDepth 100000 in
set_option maxHeartbeats 8000000 in
theorem dfields_any (g : Nat) (w : World) (hc : CodesAt w g) : Calls Tryz.prog 70 #[.pointer (some ⟨g, 0, none⟩)] w (DFldP g w) := by
 have HGW := Lib.hid hc.1
 have HS : Hid (FLS w g [] (.slice none 0 0) (w.alloc (.cells #[.string ⟨#[99, 111, 100, 101]⟩, .string ⟨#[108, 101, 118, 101, 108]⟩, .string ⟨#[109, 115]⟩, .string ⟨#[117, 115, 101, 114]⟩] 9))) :=
  Lib.hid ⟨OR.nil, Apart.of_below ((Below.refl _ _).alloc (Nat.le_refl _) _) hc.1, hc.al _, fun k hk => by
   match k, hk with
   | 0, _ => simp [go_sem, fieldF]
   | 1, _ => simp [go_sem, fieldF]
   | 2, _ => simp [go_sem, fieldF]
   | 3, _ => simp [go_sem, fieldF], by rw [Deep.nblk_alloc]; exact Nat.lt_succ_self _, fun _ => rfl⟩
 clear hc
 go_enter Tryz.func70, Tryz.ntmps70
 go_wp2_with fail
 go_loopw [3, 5] (fun v i wr => ∃ (out : List Fd) (k : Nat), i = .int .i64 k ∧ k ≤ 4 ∧ Hid (GenF k out) ∧ Hid (FLS w g out v wr)) (fun _ i _ => 4 - (intOf i).toNat)
 case atStart => exact ⟨[], 0, rfl, by omega, Lib.hid GenF.nil, HS⟩
 case round =>
  obtain ⟨out, k, rfl, hk, HG, HF⟩ := hrel
  obtain ⟨v, rfl⟩ : ∃ v, v = u3 := ⟨_, rfl⟩
  clear HS
  by_cases hlt : k < 4
  ·have i1 : (k : Int) < 4 := by omega
   have i2 : (0 : Int) ≤ (k : Int) := by omega
   go_wp2_with fail
   refine (next_any g 3 wr HF.out.codes (by omega) (by omega)).mono ?_
   rintro e w3 ⟨q, hq, rfl, hca, hap⟩
   have HF3 := Lib.hid (HF.out.go HGW.out hap hca)
   clear hca hap
   by_cases q1 : q = 1
   ·subst q1
    obtain ⟨nm, hnm⟩ : ∃ nm, fieldF.getD k [] = nm := ⟨_, rfl⟩
    have hcell0 : w3.drew.cell? ⟨w.heap.size, k, none⟩ = some (.string ⟨nm.toArray⟩) := by rw [← hnm]; exact HF3.out.names k hlt
    obtain ⟨i0, hi, hz0, hz1, hz2⟩ := info_parts infoFd
    have HFD := Lib.hid (HF3.out.go (W' := w3.drew) HGW.out (Apart.of_below (Below.refl _ w3).drew HF3.out.codes.1) HF3.out.codes.dr)
    have HNM := Lib.hid hnm
    have HOL := Lib.hid (show out.length ≤ 4 by have := HG.out.len; omega)
    clear hnm
    go_wp2_with fail
    go_region_held3 (fun W' => W'.cell? ⟨w.heap.size, k, none⟩ = some (.string ⟨nm.toArray⟩)) (first | exact hcell0 | exact hcell4 | exact hcell5 | go_keep) (first
     | (go_at_call 95; refine (dvalue_any g _ HFD.out.codes).mono ?_; rintro e w4 ⟨x, hx, rfl, hca, hap⟩; have hcell4 : w4.cell? ⟨w.heap.size, k, none⟩ = some (.string ⟨nm.toArray⟩) := ((hap.cell (p := ⟨w.heap.size, k, none⟩) (Nat.ne_of_gt HGW.out) HFD.out.big).trans hcell0); have HF4 := Lib.hid (HFD.out.go HGW.out hap hca); obtain ⟨cl4, hown4, hpush4⟩ := HF4.out.own.cells; have HPU4 := Lib.hid hpush4; have hbg4 := HF4.out.big; clear hca hap hpush4)
     | (refine step_append_lies _ (by rfl) _ _ _ (by rfl) (w.heap.size + 1) 52 i0 (.agg #[.string ⟨#[]⟩, .string ⟨#[]⟩]) 2 32 Tryz.underlying42 hi hz0 hz1 hz2 rfl (by decide) _ _ _ (by rfl) (hown4.alloc _) ⟨w4.heap.size, 0, none⟩ 1 1 [.string ⟨nm.toArray⟩, .string ⟨x.toArray⟩] (by rfl) rfl (World.news_of_block (heap_alloc_new w4 _)) (by intro u hu; simp only [List.mem_cons, List.not_mem_nil, or_false] at hu; rcases hu with rfl | rfl <;> rfl) (by omega) (by have := HOL.out; unfold maxLen; omega) (by have := HOL.out; omega) (by simp; omega) _ rfl ?_; intro g' cap' w5 hown5 hgrow5 hat5 hlt5; have HO5 := Lib.hid (HPU4.out FdR w5 (nm, x) [.string ⟨nm.toArray⟩, .string ⟨x.toArray⟩] _ (fun _ _ h => h) rfl rfl (by have := HOL.out; omega) hown5); have HF5 := Lib.hid (HF4.out.push HGW.out HO5.out hgrow5); have hcell5 : w5.cell? ⟨w.heap.size, k, none⟩ = some (.string ⟨nm.toArray⟩) := (by rw [← HNM.out]; exact HF5.out.names k hlt); clear hown5 hgrow5))
    go_wp2_with fail
    exact ⟨⟨out ++ [(nm, x)], k + 1, by go_num, by omega, Lib.hid (by rw [← HNM.out]; exact HG.out.push hlt x hx), HF5⟩, by simp [intOf]; omega⟩
   ·have z1 : ((q : Int) == 1) = false := by rw [beq_eq_false_iff_ne]; omega
    go_wp2_with fail
    exact ⟨⟨out, k + 1, by go_num, by omega, Lib.hid HG.out.skip, HF3⟩, by simp [intOf]; omega⟩
  ·obtain rfl : k = 4 := by omega
   go_wp2_with fail
   go_ret
   exact ⟨v, out, rfl, HF.out.own, HG.out, HF.out.nil, HF.out.codes, HF.out.apart⟩
end Go.Proofs.YtmpbjaodgajnfaaGreatDoor
namespace Go.Proofs.YtmpbjaodgajnfaaGreatDoor
open Go.RowKit
def ruleO : Obj := .cells #[.string ⟨#[115, 97, 109, 112, 108, 101]⟩, .string ⟨#[100, 114, 111, 112]⟩, .string ⟨#[116, 111, 111, 45, 108, 111, 110, 103]⟩] 9
theorem rule_at (k : Nat) (hk : k < 3) : ∃ x : List UInt8, (x ≠ [] ∧ x.length ≤ 10) ∧ (∀ W : World, (W.alloc ruleO).cell? ⟨W.heap.size, k, none⟩ = some (.string ⟨x.toArray⟩)) ∧ (∀ h : k < ([Value.string ⟨#[115, 97, 109, 112, 108, 101]⟩, .string ⟨#[100, 114, 111, 112]⟩, .string ⟨#[116, 111, 111, 45, 108, 111, 110, 103]⟩] : List Value).length, ([Value.string ⟨#[115, 97, 109, 112, 108, 101]⟩, .string ⟨#[100, 114, 111, 112]⟩, .string ⟨#[116, 111, 111, 45, 108, 111, 110, 103]⟩] : List Value)[k]'h = .string ⟨x.toArray⟩) := by
 match k, hk with
 | 0, _ => exact ⟨[115, 97, 109, 112, 108, 101], by decide, fun W => by simp [go_sem, ruleO], fun _ => rfl⟩
 | 1, _ => exact ⟨[100, 114, 111, 112], by decide, fun W => by simp [go_sem, ruleO], fun _ => rfl⟩
 | 2, _ => exact ⟨[116, 111, 111, 45, 108, 111, 110, 103], by decide, fun W => by simp [go_sem, ruleO], fun _ => rfl⟩
def traceO : Obj := .cells #[.string ⟨#[116, 49]⟩, .string ⟨#[116, 50]⟩, .string ⟨#[]⟩, .string ⟨#[49, 58, 50, 58, 48]⟩] 9
theorem trace_at (k : Nat) (hk : k < 4) : ∃ x : List UInt8, x.length ≤ 10 ∧ (∀ W : World, (W.alloc traceO).cell? ⟨W.heap.size, k, none⟩ = some (.string ⟨x.toArray⟩)) ∧ (∀ h : k < ([Value.string ⟨#[116, 49]⟩, .string ⟨#[116, 50]⟩, .string ⟨#[]⟩, .string ⟨#[49, 58, 50, 58, 48]⟩] : List Value).length, ([Value.string ⟨#[116, 49]⟩, .string ⟨#[116, 50]⟩, .string ⟨#[]⟩, .string ⟨#[49, 58, 50, 58, 48]⟩] : List Value)[k]'h = .string ⟨x.toArray⟩) := by
 match k, hk with
 | 0, _ => exact ⟨[116, 49], by decide, fun W => by simp [go_sem, traceO], fun _ => rfl⟩
 | 1, _ => exact ⟨[116, 50], by decide, fun W => by simp [go_sem, traceO], fun _ => rfl⟩
 | 2, _ => exact ⟨[], by decide, fun W => by simp [go_sem, traceO], fun _ => rfl⟩
 | 3, _ => exact ⟨[49, 58, 50, 58, 48], by decide, fun W => by simp [go_sem, traceO], fun _ => rfl⟩
def streamO : Obj := .cells #[.string ⟨#[109, 97, 105, 110]⟩, .string ⟨#[100, 101, 98, 117, 103]⟩] 9
theorem stream_at (k : Nat) (hk : k < 2) : ∃ x : List UInt8, x.length ≤ 10 ∧ (∀ W : World, (W.alloc streamO).cell? ⟨W.heap.size, k, none⟩ = some (.string ⟨x.toArray⟩)) ∧ (∀ h : k < ([Value.string ⟨#[109, 97, 105, 110]⟩, .string ⟨#[100, 101, 98, 117, 103]⟩] : List Value).length, ([Value.string ⟨#[109, 97, 105, 110]⟩, .string ⟨#[100, 101, 98, 117, 103]⟩] : List Value)[k]'h = .string ⟨x.toArray⟩) := by
 match k, hk with
 | 0, _ => exact ⟨[109, 97, 105, 110], by decide, fun W => by simp [go_sem, streamO], fun _ => rfl⟩
 | 1, _ => exact ⟨[100, 101, 98, 117, 103], by decide, fun W => by simp [go_sem, streamO], fun _ => rfl⟩
def Has (W : World) (b k : Nat) (v : List UInt8) : Prop := b < W.heap.size ∧ W.cell? ⟨b, k, none⟩ = some (.string ⟨v.toArray⟩)
theorem Has.new {W : World} {o : Obj} {k : Nat} {v : List UInt8} (h : ∀ W : World, (W.alloc o).cell? ⟨W.heap.size, k, none⟩ = some (.string ⟨v.toArray⟩)) : Has (W.alloc o) W.heap.size k v := ⟨by simp, h W⟩
theorem Has.new2 {W : World} {o o' : Obj} {k : Nat} {v : List UInt8} (h : ∀ W : World, (W.alloc o).cell? ⟨W.heap.size, k, none⟩ = some (.string ⟨v.toArray⟩)) : Has ((W.alloc o').alloc o) (W.heap.size + 1) k v := by
 have := h (W.alloc o')
 have e : (W.alloc o').heap.size = W.heap.size + 1 := by simp
 rw [e] at this
 exact ⟨by simp, this⟩
theorem Has.al {W : World} {b k : Nat} {v : List UInt8} (h : Has W b k v) (o : Obj) : Has (W.alloc o) b k v :=
 have hb := (Below.refl W.heap.size W).alloc (Nat.le_refl _) o
 ⟨Nat.lt_of_lt_of_le h.1 hb.size, (hb.cell (p := ⟨b, k, none⟩) h.1).trans h.2⟩
theorem Has.go {W W' : World} {g b k : Nat} {v : List UInt8} (h : Has W b k v) (ha : Apart g W W') (hn : g < b) : Has W' b k v :=
 ⟨Nat.lt_of_lt_of_le h.1 ha.1.size, (ha.cell (p := ⟨b, k, none⟩) (Nat.ne_of_gt hn) h.1).trans h.2⟩
def itC (r : List UInt8) (e : Ev) : Array Value := #[.string ⟨r.toArray⟩, .int .i64 e.host, .int .i64 e.file, .int .i64 e.lo, .int .i64 e.hi, e.lv, .int .i64 e.time, .int .i64 e.weight, .string ⟨e.trace.toArray⟩, .string ⟨e.stream.toArray⟩, e.fv]
structure IS (w : World) (g : Nat) (E : Ev) (W : World) : Prop where
 ev : W.heap[w.heap.size + 1]? = some (.cells (evC E) 44 (0, 0))
 it : W.heap[w.heap.size]? = some (.cells (itC [] ev0) 66 (0, 0))
 codes : CodesAt W g
 apart : Apart g w W
 big : w.heap.size + 2 ≤ W.heap.size
theorem IS.go {w W W' : World} {g : Nat} {E : Ev} (h : IS w g E W) (hg : g < w.heap.size) (ha : Apart g W W') (hc : CodesAt W' g) : IS w g E W' :=
 ⟨(ha.block (by omega) (by have := h.big; omega)).trans h.ev, (ha.block (by omega) (by have := h.big; omega)).trans h.it, hc, h.apart.trans ha, Nat.le_trans h.big ha.1.size⟩
theorem IS.on {w W W' : World} {g : Nat} {E : Ev} (h : IS w g E W) (hg : g < w.heap.size) (hb : Below (w.heap.size + 2) W W') : IS w g E W' :=
 ⟨(hb.block _ (by omega)).trans h.ev, (hb.block _ (by omega)).trans h.it, h.codes.of_below (by omega) hb, ⟨h.apart.1.trans (hb.mono (by omega)), fun k h1 h2 => (hb.block k (by omega)).trans (h.apart.2 k h1 h2)⟩, Nat.le_trans h.big hb.size⟩
theorem IS.al {w W : World} {g : Nat} {E : Ev} (h : IS w g E W) (hg : g < w.heap.size) (o : Obj) : IS w g E (W.alloc o) := h.on hg ((Below.refl _ W).alloc h.big o)
theorem IS.dr {w W : World} {g : Nat} {E : Ev} (h : IS w g E W) (hg : g < w.heap.size) : IS w g E W.drew := h.on hg (Below.refl _ W).drew
theorem IS.cell {w W : World} {g : Nat} {E : Ev} (h : IS w g E W) (k : Nat) {v : Value} (hv : (evC E)[k]? = some v) : W.cell? ⟨w.heap.size + 1, k, none⟩ = some v := by rw [Lib.cell_of_heap h.ev]; exact hv
theorem IS.fz {w W : World} {g : Nat} {E : Ev} (h : IS w g E W) (k : Nat) : W.frozen? ⟨w.heap.size + 1, k, none⟩ = false := frz0 h.ev k
theorem IS.set {w W : World} {g : Nat} {E E' : Ev} (h : IS w g E W) (hg : g < w.heap.size) (k : Nat) (v : Value) (he : (evC E).setIfInBounds k v = evC E') : IS w g E' (W.setCell ⟨w.heap.size + 1, k, none⟩ v) := by
 have hb : Below (w.heap.size + 1) W (W.setCell ⟨w.heap.size + 1, k, none⟩ v) := (Below.refl _ W).setCell (p := ⟨w.heap.size + 1, k, none⟩) (Nat.le_refl _) _
 refine ⟨?_, (hb.block _ (Nat.lt_succ_self _)).trans h.it, h.codes.of_below (by omega) hb, ⟨h.apart.1.trans (hb.mono (by omega)), fun k h1 h2 => (hb.block k (by omega)).trans (h.apart.2 k h1 h2)⟩, by rw [World.size_setCell]; exact h.big⟩
 have := set_at h.ev k v
 rwa [he] at this
def LnG : Int → Int → List Ln → Prop
 | a, b, [] => a = b
 | a, b, x :: l => x.1 = a ∧ 1 ≤ x.2.1 ∧ x.2.1 ≤ 62 ∧ x.2.2.length ≤ 60 ∧ LnG (a + x.2.1) b l
theorem LnG.snoc : ∀ {l : List Ln} {a b : Int} (q : Int) (x : List UInt8), LnG a b l → 1 ≤ q → q ≤ 62 → x.length ≤ 60 → LnG a (b + q) (l ++ [(b, q, x)])
 | [], a, b, q, x, h, h1, h2, h3 => by
  unfold LnG at h
  subst h
  exact ⟨rfl, h1, h2, h3, rfl⟩
 | y :: l, a, b, q, x, h, h1, h2, h3 => ⟨h.1, h.2.1, h.2.2.1, h.2.2.2.1, h.2.2.2.2.snoc q x h1 h2 h3⟩
theorem LnG.ok : ∀ {l : List Ln} {a b : Int}, LnG a b l → LnOk a b l
 | [], _, _, h => h
 | _ :: _, _, _, h => ⟨h.1, h.2.1, by have := h.2.2.2.1; omega, h.2.2.2.2.ok⟩
structure LS (w : World) (g : Nat) (E : Ev) (fr t : Int) (ls : List Ln) (W : World) : Prop where
 is : IS w g E W
 own : OR (w.heap.size + 2) 50 3 LnR W ls E.lv
 lines : LnG fr t ls
theorem LS.go {w W W' : World} {g : Nat} {E : Ev} {fr t : Int} {ls : List Ln} (h : LS w g E fr t ls W) (hg : g < w.heap.size) (ha : Apart g W W') (hc : CodesAt W' g) : LS w g E fr t ls W' :=
 ⟨h.is.go hg ha hc, h.own.keep (fun k hk hl => ha.block (by omega) hl) (fun _ _ h => h), h.lines⟩
theorem infoLn : (Tryz.prog.info? 50).map (fun i => (i.zero, i.size, i.bytes)) = some (some (.agg #[.int .i64 0, .int .i64 0, .string ⟨#[]⟩]), 3, 32) := by kernel_rfl
def evI (h f fr : Int) : Ev := ⟨h, f, fr, 0, .slice none 0 0, 0, 0, [], [], .slice none 0 0⟩
theorem IS.start {w : World} {g : Nat} (hc : CodesAt w g) (h f fr : Int) : IS w g (evI h f fr) ((w.alloc (.cells (itC [] ev0) 66)).alloc (.cells (evC (evI h f fr)) 44)) := by
 have hb : Below w.heap.size w ((w.alloc (.cells (itC [] ev0) 66)).alloc (.cells (evC (evI h f fr)) 44)) := ((Below.refl _ w).alloc (Nat.le_refl _) _).alloc (by rw [Deep.nblk_alloc]; omega) _
 refine ⟨?_, (Deep.blk_alloc_lt _ _ _ (by rw [Deep.nblk_alloc]; omega)).trans (Deep.blk_alloc_new _ _), hc.below hb, Apart.of_below hb hc.1, by rw [Deep.nblk_alloc, Deep.nblk_alloc]; omega⟩
 have := Deep.blk_alloc_new (w.alloc (.cells (itC [] ev0) 66)) (.cells (evC (evI h f fr)) 44)
 rwa [Deep.nblk_alloc] at this
theorem undIt : (Tryz.prog.underlying 66).map (fun d => match d with | .struct _ => true | _ => false) = some true := by kernel_rfl
theorem undIt2 : ∃ fs, Tryz.prog.underlying 66 = some (.struct fs) := by
 cases hq : Tryz.prog.underlying 66 with
 | none => have := undIt; rw [hq] at this; cases this
 | some d =>
  have := undIt
  rw [hq] at this
  cases d <;> first | exact ⟨_, rfl⟩ | (simp at this)
theorem infoIt : (Tryz.prog.info? 66).map (·.size) = some 11 := by kernel_rfl
theorem IS.ret {w W : World} {g : Nat} {x0 x1 x2 x3 x5 x6 : Int} {lv fv : Value} {x7 x8 : List UInt8} (h : IS w g (⟨x0, x1, x2, x3, lv, x5, x6, x7, x8, fv⟩ : Ev) W) (hg : g < w.heap.size) (tmps : Array Value) (df : _) (hdf : df = []) (r : List UInt8)
  (hp : tmps.getD 8 undef = .pointer (some ⟨w.heap.size, 0, none⟩)) {post : Ending → World → Prop}
  (hpost : ∀ W', W'.heap.size = W.heap.size → (∀ k, k ≠ w.heap.size → W'.heap[k]? = W.heap[k]?) → CodesAt W' g → Apart g w W' → post (.returned (.agg (itC r (⟨x0, x1, x2, x3, lv, x5, x6, x7, x8, fv⟩ : Ev)))) W') :
  bodyPost Tryz.prog Tryz.f46 post Exit.ret { tmps := tmps, defers := df } (((((((((((W.setCell ⟨w.heap.size, 0, none⟩ (.string ⟨r.toArray⟩)).setCell ⟨w.heap.size, 1, none⟩ (.int .i64 x0)).setCell ⟨w.heap.size, 2, none⟩ (.int .i64 x1)).setCell ⟨w.heap.size, 3, none⟩ (.int .i64 x2)).setCell ⟨w.heap.size, 4, none⟩ (.int .i64 x3)).setCell ⟨w.heap.size, 5, none⟩ lv).setCell ⟨w.heap.size, 6, none⟩ (.int .i64 x5)).setCell ⟨w.heap.size, 7, none⟩ (.int .i64 x6)).setCell ⟨w.heap.size, 8, none⟩ (.string ⟨x7.toArray⟩)).setCell ⟨w.heap.size, 9, none⟩ (.string ⟨x8.toArray⟩)).setCell ⟨w.heap.size, 10, none⟩ fv) := by
 have hh : (((((((((((W.setCell ⟨w.heap.size, 0, none⟩ (.string ⟨r.toArray⟩)).setCell ⟨w.heap.size, 1, none⟩ (.int .i64 x0)).setCell ⟨w.heap.size, 2, none⟩ (.int .i64 x1)).setCell ⟨w.heap.size, 3, none⟩ (.int .i64 x2)).setCell ⟨w.heap.size, 4, none⟩ (.int .i64 x3)).setCell ⟨w.heap.size, 5, none⟩ lv).setCell ⟨w.heap.size, 6, none⟩ (.int .i64 x5)).setCell ⟨w.heap.size, 7, none⟩ (.int .i64 x6)).setCell ⟨w.heap.size, 8, none⟩ (.string ⟨x7.toArray⟩)).setCell ⟨w.heap.size, 9, none⟩ (.string ⟨x8.toArray⟩)).setCell ⟨w.heap.size, 10, none⟩ fv).heap[w.heap.size]? = some (.cells (itC r (⟨x0, x1, x2, x3, lv, x5, x6, x7, x8, fv⟩ : Ev)) 66 (0, 0)) := by
  have e : ((((((((((((itC [] ev0).setIfInBounds 0 (.string ⟨r.toArray⟩)).setIfInBounds 1 (.int .i64 x0)).setIfInBounds 2 (.int .i64 x1)).setIfInBounds 3 (.int .i64 x2)).setIfInBounds 4 (.int .i64 x3)).setIfInBounds 5 lv).setIfInBounds 6 (.int .i64 x5)).setIfInBounds 7 (.int .i64 x6)).setIfInBounds 8 (.string ⟨x7.toArray⟩)).setIfInBounds 9 (.string ⟨x8.toArray⟩)).setIfInBounds 10 fv) = itC r (⟨x0, x1, x2, x3, lv, x5, x6, x7, x8, fv⟩ : Ev) := by simp [itC]
  have h' := (set_at (set_at (set_at (set_at (set_at (set_at (set_at (set_at (set_at (set_at (set_at h.it 0 (.string ⟨r.toArray⟩)) 1 (.int .i64 x0)) 2 (.int .i64 x1)) 3 (.int .i64 x2)) 4 (.int .i64 x3)) 5 lv) 6 (.int .i64 x5)) 7 (.int .i64 x6)) 8 (.string ⟨x7.toArray⟩)) 9 (.string ⟨x8.toArray⟩)) 10 fv)
  rw [e] at h'
  exact h'
 have hb : Below w.heap.size W (((((((((((W.setCell ⟨w.heap.size, 0, none⟩ (.string ⟨r.toArray⟩)).setCell ⟨w.heap.size, 1, none⟩ (.int .i64 x0)).setCell ⟨w.heap.size, 2, none⟩ (.int .i64 x1)).setCell ⟨w.heap.size, 3, none⟩ (.int .i64 x2)).setCell ⟨w.heap.size, 4, none⟩ (.int .i64 x3)).setCell ⟨w.heap.size, 5, none⟩ lv).setCell ⟨w.heap.size, 6, none⟩ (.int .i64 x5)).setCell ⟨w.heap.size, 7, none⟩ (.int .i64 x6)).setCell ⟨w.heap.size, 8, none⟩ (.string ⟨x7.toArray⟩)).setCell ⟨w.heap.size, 9, none⟩ (.string ⟨x8.toArray⟩)).setCell ⟨w.heap.size, 10, none⟩ fv) := ((((((((((((Below.refl w.heap.size W).setCell (p := ⟨w.heap.size, 0, none⟩) (Nat.le_refl _) (.string ⟨r.toArray⟩)).setCell (p := ⟨w.heap.size, 1, none⟩) (Nat.le_refl _) (.int .i64 x0)).setCell (p := ⟨w.heap.size, 2, none⟩) (Nat.le_refl _) (.int .i64 x1)).setCell (p := ⟨w.heap.size, 3, none⟩) (Nat.le_refl _) (.int .i64 x2)).setCell (p := ⟨w.heap.size, 4, none⟩) (Nat.le_refl _) (.int .i64 x3)).setCell (p := ⟨w.heap.size, 5, none⟩) (Nat.le_refl _) lv).setCell (p := ⟨w.heap.size, 6, none⟩) (Nat.le_refl _) (.int .i64 x5)).setCell (p := ⟨w.heap.size, 7, none⟩) (Nat.le_refl _) (.int .i64 x6)).setCell (p := ⟨w.heap.size, 8, none⟩) (Nat.le_refl _) (.string ⟨x7.toArray⟩)).setCell (p := ⟨w.heap.size, 9, none⟩) (Nat.le_refl _) (.string ⟨x8.toArray⟩)).setCell (p := ⟨w.heap.size, 10, none⟩) (Nat.le_refl _) fv)
 obtain ⟨fs, hd⟩ := undIt2
 refine bodyPost_ret (results_cell_row rfl tmps _ w.heap.size 66 (itC r (⟨x0, x1, x2, x3, lv, x5, x6, x7, x8, fv⟩ : Ev)) (0, 0) _ hp hh hd rfl infoIt) hdf (hpost _ (by simp only [World.size_setCell]) (fun k hk => ((Deep.blk_setCell_other _ _ _ _ hk).trans ((Deep.blk_setCell_other _ _ _ _ hk).trans ((Deep.blk_setCell_other _ _ _ _ hk).trans ((Deep.blk_setCell_other _ _ _ _ hk).trans ((Deep.blk_setCell_other _ _ _ _ hk).trans ((Deep.blk_setCell_other _ _ _ _ hk).trans ((Deep.blk_setCell_other _ _ _ _ hk).trans ((Deep.blk_setCell_other _ _ _ _ hk).trans ((Deep.blk_setCell_other _ _ _ _ hk).trans ((Deep.blk_setCell_other _ _ _ _ hk).trans ((Deep.blk_setCell_other _ _ _ _ hk))))))))))))) (h.codes.of_below hg hb) ⟨h.apart.1.trans (hb.mono (by omega)), fun k h1 h2 => (hb.block k h2).trans (h.apart.2 k h1 h2)⟩)
theorem nest11 (W : World) {b : Nat} {v0 v1 v2 v3 v4 v5 v6 v7 v8 v9 v10 : Value} : (((((((((((W.setCell ⟨b, 0, none⟩ v0).setCell ⟨b, 1, none⟩ v1).setCell ⟨b, 2, none⟩ v2).setCell ⟨b, 3, none⟩ v3).setCell ⟨b, 4, none⟩ v4).setCell ⟨b, 5, none⟩ v5).setCell ⟨b, 6, none⟩ v6).setCell ⟨b, 7, none⟩ v7).setCell ⟨b, 8, none⟩ v8).setCell ⟨b, 9, none⟩ v9).setCell ⟨b, 10, none⟩ v10) = setL W b [v0, v1, v2, v3, v4, v5, v6, v7, v8, v9, v10] 0 := rfl
theorem IS.ret11 {w W : World} {g : Nat} {x0 x1 x2 x3 x5 x6 : Int} {lv fv : Value} {x7 x8 : List UInt8} (h : IS w g (⟨x0, x1, x2, x3, lv, x5, x6, x7, x8, fv⟩ : Ev) W) (hg : g < w.heap.size) (tmps : Array Value) (df : _) (hdf : df = []) (r : List UInt8)
  (hp : tmps.getD 8 undef = .pointer (some ⟨w.heap.size, 0, none⟩)) {post : Ending → World → Prop}
  (hpost : ∀ W', W'.heap.size = W.heap.size → (∀ k, k ≠ w.heap.size → W'.heap[k]? = W.heap[k]?) → CodesAt W' g → Apart g w W' → post (.returned (.agg (itC r (⟨x0, x1, x2, x3, lv, x5, x6, x7, x8, fv⟩ : Ev)))) W') :
  bodyPost Tryz.prog Tryz.f46 post Exit.ret { tmps := tmps, defers := df } (setL W w.heap.size [.string ⟨r.toArray⟩, .int .i64 x0, .int .i64 x1, .int .i64 x2, .int .i64 x3, lv, .int .i64 x5, .int .i64 x6, .string ⟨x7.toArray⟩, .string ⟨x8.toArray⟩, fv] 0) := by
 rw [← nest11]
 exact h.ret hg tmps df hdf r hp hpost
def LR (w : World) (a : Option Addr) (n : Nat) (W : World) : Prop := ∀ i, i < n → ∃ blk, a = some ⟨blk, 0, none⟩ ∧ w.heap.size + 2 ≤ blk ∧ (∃ u, W.cell? ⟨blk, i * 3 + 2, none⟩ = some u) ∧ W.frozen? ⟨blk, i * 3 + 2, none⟩ = false
theorem LR.keep {w W W' : World} {a : Option Addr} {n : Nat} (h : LR w a n W) (hb : ∀ k, w.heap.size + 2 ≤ k → k < W.heap.size → W'.heap[k]? = W.heap[k]?) : LR w a n W' := fun i hi => by
 obtain ⟨blk, e, h1, ⟨u, hu⟩, h2⟩ := h i hi
 have hl := World.block_lt_of_cell? W _ hu
 exact ⟨blk, e, h1, ⟨u, (World.cell?_of_block (w := W) (w' := W') (a := ⟨blk, i * 3 + 2, none⟩) (hb blk h1 hl)).trans hu⟩, (World.frozen?_of_block (w := W) (w' := W') (a := ⟨blk, i * 3 + 2, none⟩) (hb blk h1 hl)).trans h2⟩
theorem LR.set {w W : World} {a : Option Addr} {n : Nat} (h : LR w a n W) (p : Addr) (v : Value) : LR w a n (W.setCell p v) := fun i hi => by
 obtain ⟨blk, e, h1, ⟨u, hu⟩, h2⟩ := h i hi
 refine ⟨blk, e, h1, ?_, by rw [World.frozen?_setCell]; exact h2⟩
 by_cases c : p = ⟨blk, i * 3 + 2, none⟩
 ·subst c
  exact ⟨v, World.cell?_setCell_same _ _ _ hu⟩
 ·exact ⟨u, by rw [World.cell?_setCell_other _ _ _ _ c]; exact hu⟩
theorem OR.lr {w W : World} {ls : List Ln} {a : Option Addr} {n c : Nat} (h : OR (w.heap.size + 2) 50 3 LnR W ls (.slice a n c)) (hn : ls.length = n) : LR w a n W := by
 obtain ⟨⟨uss, hl, he, _, ⟨h1, h2⟩ | ⟨b, cap, cur, h1, hB, hg, hn', _, hsz, _⟩⟩, _⟩ := h
 ·intro i hi
  omega
 ·injection h1 with e1 e2 e3
  subst e1
  intro i hi
  refine ⟨b, rfl, hB, ?_, frz0 hg _⟩
  have hlt : i * 3 + 2 < cur.size := by omega
  exact ⟨cur[i * 3 + 2], by rw [Lib.cell_of_heap hg, Array.getElem?_eq_getElem hlt]⟩
structure LKp (w wr W : World) : Prop where
 size : wr.heap.size ≤ W.heap.size
 block : ∀ b, w.heap.size + 2 ≤ b → b < wr.heap.size → W.heap[b]? = wr.heap[b]?
theorem LKp.refl (w wr : World) : LKp w wr wr := ⟨Nat.le_refl _, fun _ _ _ => rfl⟩
theorem LKp.dr {w wr W : World} (h : LKp w wr W) : LKp w wr W.drew := ⟨h.size, h.block⟩
theorem LKp.al {w wr W : World} (h : LKp w wr W) (o : Obj) : LKp w wr (W.alloc o) := ⟨by rw [Deep.nblk_alloc]; have := h.size; omega, fun b h1 h2 => (Deep.blk_alloc_lt _ _ _ (Nat.lt_of_lt_of_le h2 h.size)).trans (h.block b h1 h2)⟩
theorem LKp.apart {w wr W W' : World} {g : Nat} (h : LKp w wr W) (hg : g < w.heap.size + 2) (ha : Apart g W W') : LKp w wr W' := ⟨Nat.le_trans h.size ha.1.size, fun b h1 h2 => (ha.block (by omega) (Nat.lt_of_lt_of_le h2 h.size)).trans (h.block b h1 h2)⟩
theorem LKp.two {w wr W : World} (h : LKp w wr W) (y z : List UInt8) : LKp w wr ((W.setCell ⟨w.heap.size + 1, 7, none⟩ (.string ⟨y.toArray⟩)).setCell ⟨w.heap.size + 1, 8, none⟩ (.string ⟨z.toArray⟩)) :=
 ⟨by rw [World.size_setCell, World.size_setCell]; exact h.size, fun b h1 h2 => (Deep.blk_setCell_other _ _ _ _ (by show b ≠ w.heap.size + 1; omega)).trans ((Deep.blk_setCell_other _ _ _ _ (by show b ≠ w.heap.size + 1; omega)).trans (h.block b h1 h2))⟩
theorem LKp.lines {w wr W : World} (h : LKp w wr W) {ls : List Ln} {v : Value} (ho : OR (w.heap.size + 2) 50 3 LnR wr ls v) : OR (w.heap.size + 2) 50 3 LnR W ls v := ho.keep h.block (fun _ _ h => h)
theorem IS.two {w W : World} {g : Nat} {x0 x1 x2 x3 x5 x6 : Int} {lv fv : Value} (h : IS w g (⟨x0, x1, x2, x3, lv, x5, x6, [], [], fv⟩ : Ev) W) (hg : g < w.heap.size) (y z : List UInt8) :
  IS w g (⟨x0, x1, x2, x3, lv, x5, x6, y, z, fv⟩ : Ev) ((W.setCell ⟨w.heap.size + 1, 7, none⟩ (.string ⟨y.toArray⟩)).setCell ⟨w.heap.size + 1, 8, none⟩ (.string ⟨z.toArray⟩)) :=
 (h.set (E' := ⟨x0, x1, x2, x3, lv, x5, x6, y, [], fv⟩) hg 7 _ rfl).set hg 8 _ rfl
end Go.Proofs.YtmpbjaodgajnfaaGreatDoor

/-
 Joined: EvA, EvB, EvC, EvD, ShelfB, MtCg.
-/
import Derived.Test.YtmpbjaodgajnfaaGreatDoorEhA
import Derived.Test.YtmpbjaodgajnfaaGreatDoorEhH
import Derived.Lib.SliceRun
import Derived.Sort.Statements
import Derived.Shelf.SlSortCmp.InsertionK
import Derived.Test.YtmpbjaodgajnfaaGreatDoorProg
namespace Go.Proofs.YtmpbjaodgajnfaaGreatDoor
open Go.RowKit
abbrev Ln := Int × Int × List UInt8
abbrev Fd := List UInt8 × List UInt8
def LnR (x : Ln) (us : List Value) : Prop := us = [.int .i64 x.1, .int .i64 x.2.1, .string ⟨x.2.2.toArray⟩]
def FdR (x : Fd) (us : List Value) : Prop := us = [.string ⟨x.1.toArray⟩, .string ⟨x.2.toArray⟩]
def SR (x : List UInt8) (us : List Value) : Prop := us = [.string ⟨x.toArray⟩]
def txtL (ls : List Ln) : List UInt8 := Lib.join (ls.map (·.2.2)) [10]
theorem OR.strs {B : Nat} {e : TypeId} {w : World} {xs : List (List UInt8)} {v : Value} (h : OR B e 1 SR w xs v) : ∃ a c, v = .slice a xs.length c ∧ (0 < xs.length → ∃ g, a = some ⟨g, 0, none⟩ ∧ g < w.heap.size ∧ xs.length ≤ c ∧ ∀ i (hi : i < xs.length), w.cell? ⟨g, i, none⟩ = some (.string ⟨(xs[i]).toArray⟩)) := by
 obtain ⟨a, c, e1, hm, hk⟩ := h.rw (F := fun _ => True) (fun _ _ => trivial)
 obtain ⟨⟨uss, hlen, hel, _, h0 | ⟨q, cap, cur, e2, hB, hg, hrest⟩⟩, hsz⟩ := h
 ·exact ⟨a, c, e1, fun h => by have := h0.2; omega⟩
 ·obtain ⟨h1, h2, h3, h4⟩ := hrest
  rw [e2] at e1
  injection e1 with e3 e4 e5
  subst e3 e5
  refine ⟨_, _, e2, fun h0 => ⟨q, rfl, heap_lt hg, h1, fun i hi => ?_⟩⟩
  obtain ⟨blk, off, e6, _, _, hc⟩ := hk h0
  injection e6 with e6
  injection e6 with e7 e8 e9
  subst e7 e8
  obtain ⟨us, hu, hcell, hr⟩ := hc i hi
  unfold SR at hr
  subst hr
  have := hcell 0 (by decide)
  simpa using this
set_option maxHeartbeats 8000000 in
set_option maxRecDepth 1000000 in
theorem text_any {F : Nat → Prop} (ls : List Ln) (lv : Value) (e0 e1 e2 e3 e5 e6 : Int) (s7 s8 : List UInt8) (fa : Option Addr) (fn fc : Nat) (w : World) (h : RW F 3 LnR w ls lv) (hn : ls.length ≤ 1000) (ht : (txtL ls).length ≤ 1000000) :
  Calls Tryz.prog 29 #[.agg #[.int .i64 e0, .int .i64 e1, .int .i64 e2, .int .i64 e3, lv, .int .i64 e5, .int .i64 e6, .string ⟨s7.toArray⟩, .string ⟨s8.toArray⟩, .slice fa fn fc]] w fun e w' => e = .returned (.string ⟨(txtL ls).toArray⟩) ∧ Below w.heap.size w w' := by
 obtain ⟨a, c, rfl, hmc, hel⟩ := h
 obtain ⟨W1, hW1⟩ : ∃ W1, w.alloc (.cells #[.int .i64 e0, .int .i64 e1, .int .i64 e2, .int .i64 e3, .slice a ls.length c, .int .i64 e5, .int .i64 e6, .string ⟨s7.toArray⟩, .string ⟨s8.toArray⟩, .slice fa fn fc] 44) = W1 := ⟨_, rfl⟩
 have hb1 : Below w.heap.size w W1 := by rw [← hW1]; exact (Below.refl _ _).alloc (Nat.le_refl _) _
 have hs1 : W1.heap.size = w.heap.size + 1 := by rw [← hW1]; exact Deep.nblk_alloc _ _
 have k4 : W1.cell? ⟨w.heap.size, 4, none⟩ = some (.slice a ls.length c) := by
  have hx1 : W1.heap[w.heap.size]? = some (.cells #[.int .i64 e0, .int .i64 e1, .int .i64 e2, .int .i64 e3, .slice a ls.length c, .int .i64 e5, .int .i64 e6, .string ⟨s7.toArray⟩, .string ⟨s8.toArray⟩, .slice fa fn fc] 44 (0, 0)) := by rw [← hW1]; exact Deep.blk_alloc_new _ _
  rw [Lib.cell_of_heap hx1]
  rfl
 have HB1 := Lib.hid hb1
 have HS1 := Lib.hid hs1
 have HEL := Lib.hid hel
 have HT := Lib.hid ht
 have HJ := Lib.hid (fun (xs : List (List UInt8)) (g c : Nat) (W : World) (h : ∀ i (hi : i < xs.length), W.cell? ⟨g, i, none⟩ = some (.string ⟨(xs[i]).toArray⟩)) (hg : g < W.heap.size) (hc : xs.length ≤ c) (hx : xs.length ≤ 1000) (hl : (Lib.join xs [10]).length ≤ 1000000) => show Calls Tryz.prog 55 #[.slice (some ⟨g, 0, none⟩) xs.length c, .string ⟨#[10]⟩] W (fun e w' => e = .returned (.string ⟨(Lib.join xs [10]).toArray⟩) ∧ Below W.heap.size W w') from by
  have hm : (xs.map fun x => (⟨x.toArray⟩ : ByteArray)).map (·.data.toList) = xs := by
   rw [List.map_map]
   exact (List.map_congr_left (g := id) fun x _ => rfl).trans (List.map_id _)
  have := Tryz.strings_Join g 0 c (xs.map fun x => (⟨x.toArray⟩ : ByteArray)) ⟨#[10]⟩ W (fun j x hj => by
   rw [List.getElem?_map] at hj
   obtain ⟨y, hy, rfl⟩ := Option.map_eq_some_iff.1 hj
   obtain ⟨hl, rfl⟩ := List.getElem?_eq_some_iff.1 hy
   rw [Nat.zero_add]
   exact h j hl) hg (by simp; omega) (by simpa using hc) (by rw [hm]; exact Nat.le_trans hl (by decide))
  rw [hm, List.length_map] at this
  exact this)
 have HJ0 := Lib.hid (fun (c : Nat) (q : Option Addr) (W : World) => Tryz.strings_Join_none q c ⟨#[10]⟩ W)
 clear hb1 hs1 hel ht hmc
 go_enter Tryz.func29, Tryz.ntmps29
 go_wp2_with fail
 go_loopw [3, 9] (fun v i wr => ∃ n : Nat, i = .int .i64 (n : Int) ∧ n ≤ ls.length ∧ Hid (OR (w.heap.size + 1) 9 1 SR wr ((ls.take n).map (·.2.2)) v) ∧ Hid (Below (w.heap.size + 1) W1 wr)) (fun _ i _ => ls.length - (intOf i).toNat)
 case atStart => exact ⟨0, rfl, Nat.zero_le _, Lib.hid OR.nil, Lib.hid (Below.refl _ _)⟩
 case round =>
  obtain ⟨n, rfl, hn2, HOR, HB⟩ := hrel
  have hsz : w.heap.size + 1 ≤ wr.heap.size := by rw [← HS1.out]; exact HB.out.size
  have hbw : Below w.heap.size w wr := HB1.out.trans (HB.out.mono (Nat.le_succ _))
  by_cases hlt : n < ls.length
  ·obtain ⟨blk, off, ha, hbl, _, hcc⟩ := HEL.out (by omega)
   subst ha
   obtain ⟨us, hus, hcell, hr⟩ := hcc n hlt
   unfold LnR at hr
   subst hr
   obtain ⟨x, hx⟩ : ∃ x, ls[n] = x := ⟨_, rfl⟩
   have htake : (ls.take (n + 1)).map (·.2.2) = (ls.take n).map (·.2.2) ++ [x.2.2] := by
    rw [List.take_succ_eq_append_getElem hlt, List.map_append, hx]
    rfl
   rw [hx] at hcell
   have c0 := (hbw.cell (p := ⟨blk, off + n * 3 + 0, none⟩) hbl).trans (hcell 0 (by decide))
   have c1 := (hbw.cell (p := ⟨blk, off + n * 3 + 1, none⟩) hbl).trans (hcell 1 (by decide))
   have c2 := (hbw.cell (p := ⟨blk, off + n * 3 + 2, none⟩) hbl).trans (hcell 2 (by decide))
   simp only [Nat.add_zero, List.getElem?_cons_zero, List.getElem?_cons_succ] at c0 c1 c2
   obtain ⟨x0, x1, x2⟩ := x
   simp only at c0 c1 c2 htake
   have hlen : ((ls.take n).map (·.2.2)).length = n := by rw [List.length_map, List.length_take]; omega
   obtain ⟨i0, hi, hz0, hz1, hz2⟩ := info_parts infoStr
   obtain ⟨cl, hown, hpush⟩ := HOR.out.cells
   rw [hlen] at hown hpush
   obtain ⟨Wa, hWa⟩ : ∃ Wa, wr.alloc (.cells #[.int .i64 x0, .int .i64 x1, .string ⟨x2.toArray⟩] 50) = Wa := ⟨_, rfl⟩
   have sa : Wa.heap.size = wr.heap.size + 1 := by rw [← hWa]; exact Deep.nblk_alloc _ _
   have ba : Below wr.heap.size wr Wa := by rw [← hWa]; exact (Below.refl _ _).alloc (Nat.le_refl _) _
   have xa : Wa.heap[wr.heap.size]? = some (.cells #[.int .i64 x0, .int .i64 x1, .string ⟨x2.toArray⟩] 50 (0, 0)) := by rw [← hWa]; exact Deep.blk_alloc_new _ _
   obtain ⟨Wb, hWb⟩ : ∃ Wb, Wa.alloc (.cells #[.string ⟨x2.toArray⟩] 9) = Wb := ⟨_, rfl⟩
   have sb : Wb.heap.size = wr.heap.size + 2 := by rw [← hWb, Deep.nblk_alloc, sa]
   have bb : Below wr.heap.size wr Wb := by rw [← hWb]; exact ba.alloc ba.size _
   have xb : Wb.heap[wr.heap.size + 1]? = some (.cells #[.string ⟨x2.toArray⟩] 9 (0, 0)) := by rw [← hWb, ← sa]; exact Deep.blk_alloc_new _ _
   have hownb := own_block hown fun b hb => bb.block b (own_lt hown hb)
   obtain ⟨v', We, hrun, hown2, hgr, _, hnew⟩ := run_append_own2 (P := Tryz.prog) (w := Wb) (w.heap.size + 1) 29 29 9 i0 (.string ⟨#[]⟩) 1 16 Tryz.underlying29 hi hz0 hz1 hz2 rfl (by decide) u3 n cl hownb ⟨wr.heap.size + 1, 0, none⟩ 1 1 [.string ⟨x2.toArray⟩] rfl (World.news_of_block xb) (by intro u hu; simp only [List.mem_cons, List.not_mem_nil, or_false] at hu; subst hu; rfl) (by unfold maxLen; omega) (by omega) (by omega)
   have k2 : Wa.cell? ⟨wr.heap.size, 2, none⟩ = some (.string ⟨x2.toArray⟩) := by rw [Lib.cell_of_heap xa]; rfl
   have k4r := ((HB.out.mono (by omega : w.heap.size + 1 ≤ w.heap.size + 1)).cell (p := ⟨w.heap.size, 4, none⟩) (by show w.heap.size < w.heap.size + 1; omega)).trans k4
   have HOR2 : Hid (OR (w.heap.size + 1) 9 1 SR We ((ls.take (n + 1)).map (·.2.2)) v') := Lib.hid (by
    rw [htake]
    exact hpush SR We x2 [.string ⟨x2.toArray⟩] v' (fun _ _ h => h) rfl rfl (by omega) hown2)
   have HB2 : Hid (Below (w.heap.size + 1) W1 We) := Lib.hid ((HB.out.trans (bb.mono hsz)).grown hgr (by omega) (fun k hk => (HOR.out.lt hk).1))
   have i1 : (n : Int) < (ls.length : Int) := by omega
   clear hi hz0 hz1 hz2 hown hpush hownb hown2 hgr hnew xa xb hcc hcell hx htake hbw hlen ba bb sb
   go_wp2_with (at_builtin; refine wpList_append_run rfl _ _ _ rfl _ _ _ rfl rfl hrun ?_)
   go_roundw
   case rel => exact ⟨n + 1, by go_num, by omega, HOR2, HB2⟩
   case measure => simp [intOf]; omega
  ·obtain rfl : n = ls.length := by omega
   have HOR2 := Lib.hid HOR.out
   rw [List.take_length] at HOR2
   obtain ⟨ra, rc, rfl, hstr⟩ := HOR2.out.strs
   rw [List.length_map]
   have HSTR := Lib.hid hstr
   have HBW := Lib.hid hbw
   have HT2 := HT.out
   unfold txtL at HT2
   clear hstr hbw HOR HOR2
   rcases Nat.eq_zero_or_pos ls.length with h0 | h0
   ·have hl0 : ls = [] := List.length_eq_zero_iff.1 h0
    subst hl0
    have HJ00 := Lib.hid (HJ0.out rc ra wr)
    simp only [List.length_nil]
    clear h0 HT2
    go_wp2_with (go_at_call 55; refine HJ00.out.mono ?_; rintro e w' ⟨rfl, rfl⟩)
    go_ret
    exact ⟨rfl, HBW.out⟩
   ·obtain ⟨q, hq, hql, hqc, hqe⟩ := HSTR.out (by rw [List.length_map]; omega)
    subst hq
    have HJJ := HJ.out (ls.map (·.2.2)) q rc wr (fun i hi => hqe i (by simpa using hi)) hql hqc (by rw [List.length_map]; exact hn) HT2
    rw [List.length_map] at HJJ
    have HJJ := Lib.hid HJJ
    clear hqe hqc h0 HT2
    go_wp2_with (go_at_call 55; refine HJJ.out.mono ?_; rintro e w' ⟨rfl, hb⟩)
    go_ret
    exact ⟨rfl, HBW.out.trans (hb.mono HBW.out.size)⟩
end Go.Proofs.YtmpbjaodgajnfaaGreatDoor
namespace Go.Proofs.YtmpbjaodgajnfaaGreatDoor
open Go.RowKit
theorem infoFd : (Tryz.prog.info? 52).map (fun i => (i.zero, i.size, i.bytes)) = some (some (.agg #[.string ⟨#[]⟩, .string ⟨#[]⟩]), 2, 32) := by kernel_rfl
def encFd (x : Fd) : List Value := [.string ⟨x.1.toArray⟩, .string ⟨x.2.toArray⟩]
def fcl (fs : List Fd) : List Value := (fs.map encFd).flatten
theorem fcl_len (fs : List Fd) : (fcl fs).length = fs.length * 2 := by
 unfold fcl
 induction fs with
 | nil => rfl
 | cons x d ih => simp only [List.map_cons, List.flatten_cons, List.length_append, ih, List.length_cons]; simp [encFd]; omega
theorem fcl_one (fs : List Fd) : ∀ u ∈ fcl fs, u.oneCell' = true := by
 intro u hu
 unfold fcl at hu
 obtain ⟨l, hl, hx⟩ := List.mem_flatten.1 hu
 obtain ⟨x, _, rfl⟩ := List.mem_map.1 hl
 simp [encFd] at hx
 rcases hx with rfl | rfl <;> rfl
theorem own_fds {w : World} {B : Nat} {fs : List Fd} {v : Value} (h : w.ownsRow B 52 2 v fs.length (fcl fs)) (hs : fs.length ≤ 1000000) : OR B 52 2 FdR w fs v :=
 ⟨⟨fs.map encFd, by simp, fun i h1 h2 => ⟨by rw [List.getElem_map]; rfl, by rw [List.getElem_map]; rfl⟩, h⟩, hs⟩
theorem OR.fcl {w : World} {B : Nat} {fs : List Fd} {v : Value} (h : OR B 52 2 FdR w fs v) : w.ownsRow B 52 2 v fs.length (fcl fs) := by
 obtain ⟨⟨uss, hl, he, ho⟩, _⟩ := h
 have : uss = fs.map encFd := by
  apply List.ext_getElem
  ·simp [hl]
  ·intro i h1 h2
   rw [List.getElem_map]
   exact (he i (by omega) h1).2
 rw [this] at ho
 exact ho
theorem fcl_mem {F : Nat → Prop} {w : World} {fs : List Fd} {g off c : Nat} (h : RW F 2 FdR w fs (.slice (some ⟨g, off, none⟩) fs.length c)) : ∀ j u, (fcl fs)[j]? = some u → w.cell? ⟨g, off + j, none⟩ = some u := by
 intro j u hj
 obtain ⟨a, c', e, hm, hk⟩ := h
 injection e with e1 e2 e3
 subst e1 e3
 have hj2 : j < fs.length * 2 := by rw [← fcl_len]; exact (List.getElem?_eq_some_iff.1 hj).1
 obtain ⟨blk, o, e4, hl, _, hc⟩ := hk (by omega)
 injection e4 with e4
 injection e4 with e5 e6
 subst e5 e6
 obtain ⟨us, hu, hcell, hr⟩ := hc (j / 2) (by omega)
 unfold FdR at hr
 have h1 := hcell (j % 2) (by omega)
 have h2 := flat_at 2 (fs.map encFd) (fun u hu => by obtain ⟨x, _, rfl⟩ := List.mem_map.1 hu; rfl) (j / 2) (j % 2) (by simp; omega) (by omega)
 rw [show j / 2 * 2 + j % 2 = j by omega, List.getElem_map] at h2
 unfold fcl at hj
 rw [h2] at hj
 rw [show off + j / 2 * 2 + j % 2 = off + j by omega] at h1
 rw [h1, hr]
 exact hj
set_option maxRecDepth 1000000 in
theorem clone_any {F : Nat → Prop} (fs : List Fd) (fv : Value) (w : World) (h : RW F 2 FdR w fs fv) (hz : fs = [] → fv = .slice none 0 0) (hn : fs.length ≤ 1000) :
  Calls Tryz.prog 31 #[fv] w fun e w' => ∃ v, e = .returned v ∧ OR w.heap.size 52 2 FdR w' fs v ∧ Below w.heap.size w w' ∧ (fs = [] → v = .slice none 0 0) := by
 by_cases h0 : fs = []
 ·have hv := hz h0
  subst h0
  subst hv
  have hnil : (binOp .eql 42 (.slice none 0 0) (.slice none 0 0)).run Tryz.prog w = .ok (.bool true) w :=
   Lib.run_eql_slice_nil w 42 52 none 0 0 0 0 Tryz.underlying42
  go_enter Tryz.func31, Tryz.ntmps31
  go_wp2_with fail
  go_ret
  exact ⟨_, rfl, OR.nil, Below.refl _ _, by first | exact fun _ => rfl | rfl⟩
 ·have hpos : 0 < fs.length := List.length_pos_iff.2 h0
  have hh := h
  obtain ⟨a, cap, rfl, hm, hk⟩ := h
  obtain ⟨g, off, ha, hgl, _, _⟩ := hk hpos
  subst ha
  have hc := fcl_mem hh
  have HNE := Lib.hid h0
  obtain ⟨i0, hi, hz0, hz1, hz2⟩ := info_parts infoFd
  have HC := Lib.hid hc
  clear hc hk hh hm hz h0
  have hnil : (binOp .eql 42 (.slice (some ⟨g, off, none⟩) fs.length cap) (.slice none 0 0)).run Tryz.prog w = .ok (.bool false) w :=
   Lib.run_eql_slice_nil w 42 52 (some ⟨g, off, none⟩) fs.length cap 0 0 Tryz.underlying42
  have hown : (w.alloc (.cells #[] 52)).ownsRow w.heap.size 52 2 (.slice (some ⟨w.heap.size, 0, none⟩) 0 0) 0 [] :=
   ⟨rfl, .inr ⟨w.heap.size, 0, #[], rfl, Nat.le_refl _, by simp [World.alloc, -World.alloc_eq], Nat.le_refl _, by unfold maxLen; omega, rfl, rfl⟩⟩
  have hnews : ∀ j u, (fcl fs)[j]? = some u → (w.alloc (.cells #[] 52)).cell? ((⟨g, off, none⟩ : Addr).add j) = some u := fun j u hj => by
   rw [addp]
   have h := HC.out j u hj
   exact (((Below.refl w.heap.size w).alloc (Nat.le_refl _) _).cell (p := ⟨g, off + j, none⟩) (World.block_lt_of_cell? w _ h)).trans h
  have HN := Lib.hid hnews
  have q1 : 0 + fs.length ≤ maxLen := by unfold maxLen; omega
  have q2 : (0 + fs.length) * 32 ≤ 140737488355328 := by omega
  have Q3 := Lib.hid (fcl_len fs)
  clear hnews
  go_enter Tryz.func31, Tryz.ntmps31
  go_wp2_with (at_builtin; refine wpList_append_own _ rfl _ _ 42 rfl w.heap.size 52 i0 (.agg #[.string ⟨#[]⟩, .string ⟨#[]⟩]) 2 32 Tryz.underlying42 hi hz0 hz1 hz2 rfl (by decide) _ _ _ rfl hown ⟨g, off, none⟩ fs.length cap (fcl fs) rfl Q3.out HN.out (fcl_one fs) q1 q2 (by simp) ?_; intro v' w2 hown' hgrow _)
  rw [Nat.zero_add, List.nil_append] at hown'
  go_ret
  exact ⟨_, rfl, own_fds hown' (by omega), ((Below.refl _ w).alloc (Nat.le_refl _) _).grown hgrow (by simp) (fun k hk => by cases hk; exact Nat.le_refl _), fun h => absurd h HNE.out⟩
end Go.Proofs.YtmpbjaodgajnfaaGreatDoor
namespace Go.Proofs.YtmpbjaodgajnfaaGreatDoor
open Go.RowKit
set_option maxRecDepth 1000000 in
theorem sclosure_any (x y t : List UInt8) (W : World) : Calls Tryz.prog 33 #[.agg #[.string ⟨x.toArray⟩, .string ⟨y.toArray⟩], .string ⟨t.toArray⟩] W fun e w' =>
  e = .returned (.int .i64 (Lib.compareBytes x t)) ∧ Below W.heap.size W w' := by
 have hcon := Lib.hid fun W' => Tryz.strings_Compare ⟨x.toArray⟩ ⟨t.toArray⟩ W'
 obtain ⟨W1, hW1⟩ : ∃ W1, W.alloc (.cells #[.string ⟨x.toArray⟩, .string ⟨y.toArray⟩] 52) = W1 := ⟨_, rfl⟩
 have hb1 : Below W.heap.size W W1 := by rw [← hW1]; exact (Below.refl _ _).alloc (Nat.le_refl _) _
 have hx1 : W1.heap[W.heap.size]? = some (.cells #[.string ⟨x.toArray⟩, .string ⟨y.toArray⟩] 52 (0, 0)) := by rw [← hW1]; exact Deep.blk_alloc_new _ _
 have k0 : W1.cell? ⟨W.heap.size, 0, none⟩ = some (.string ⟨x.toArray⟩) := by rw [Lib.cell_of_heap hx1]; rfl
 have HB := Lib.hid hb1
 clear hb1 hx1
 go_enter Tryz.func33, Tryz.ntmps33
 go_wp2_with (go_at_call 34; refine (hcon.out _).mono ?_; rintro e w' ⟨rfl, rfl⟩)
 go_ret
 exact ⟨rfl, HB.out⟩
structure SeaP (fs : List Fd) (t : List UInt8) (i : Nat) (b : Bool) : Prop where
 le : i ≤ fs.length
 lo : ∀ j (h : j < fs.length), j < i → Lib.compareBytes fs[j].1 t < 0
 hi : ∀ j (h : j < fs.length), i ≤ j → 0 ≤ Lib.compareBytes fs[j].1 t
 at_ : b = true ↔ ∃ h : i < fs.length, Lib.compareBytes fs[i].1 t = 0
set_option maxHeartbeats 8000000 in
set_option maxRecDepth 1000000 in
theorem search_any {F : Nat → Prop} (fs : List Fd) (fv : Value) (t : List UInt8) (w : World) (h : RW F 2 FdR w fs fv) (hn : fs.length ≤ 1000)
  (hmono : ∀ a b (ha : a < fs.length) (hb : b < fs.length), a ≤ b → Lib.compareBytes fs[b].1 t < 0 → Lib.compareBytes fs[a].1 t < 0) :
  Calls Tryz.prog 32 #[fv, .string ⟨t.toArray⟩, .func (.func 33) #[] #[]] w fun e w' => (∃ (i : Nat) (b : Bool), e = .returned (.tuple #[.int .i64 (i : Int), .bool b]) ∧ SeaP fs t i b) ∧ Below w.heap.size w w' := by
 obtain ⟨a, cap, rfl, hm, hk⟩ := h
 have HK := Lib.hid hk
 have HM := Lib.hid hmono
 have HC := Lib.hid fun (x y : List UInt8) W => sclosure_any x y t W
 obtain ⟨n, hnn⟩ : ∃ n, fs.length = n := ⟨_, rfl⟩
 have HN := Lib.hid hnn
 rw [hnn] at hn ⊢
 clear hk hmono hm hnn
 go_enter Tryz.func32, Tryz.ntmps32
 go_wp2_with fail
 go_loopg [9, 10] n (fun kx s9 s10 wr => ∃ lo hi : Nat, s9 = .int .i64 lo ∧ s10 = .int .i64 hi ∧ lo ≤ hi ∧ hi ≤ n ∧ hi - lo ≤ kx ∧ Hid (Below w.heap.size w wr) ∧
  Hid ((∀ j (h : j < fs.length), j < lo → Lib.compareBytes fs[j].1 t < 0) ∧ (∀ j (h : j < fs.length), hi ≤ j → 0 ≤ Lib.compareBytes fs[j].1 t)))
 case atStart => exact ⟨0, n, rfl, rfl, Nat.zero_le _, Nat.le_refl _, by omega, Lib.hid (Below.refl _ _), Lib.hid ⟨fun j h hj => absurd hj (Nat.not_lt_zero _), fun j h hj => by have := HN.out; omega⟩⟩
 case round =>
  obtain ⟨lo, hi, rfl, rfl, hlh, hin, hg, HB, HI⟩ := hrel
  by_cases hlt : lo < hi
  ·have hml : (lo + hi) / 2 < fs.length := by rw [HN.out]; omega
   obtain ⟨blk, off, ha, hbl, _, hcc⟩ := HK.out (by omega)
   subst ha
   obtain ⟨us, hus, hcell, hr⟩ := hcc _ hml
   unfold FdR at hr
   subst hr
   obtain ⟨y, hy⟩ : ∃ y, fs[(lo + hi) / 2] = y := ⟨_, rfl⟩
   rw [hy] at hcell
   have c0 := (HB.out.cell (p := ⟨blk, off + (lo + hi) / 2 * 2 + 0, none⟩) hbl).trans (hcell 0 (by decide))
   have c1 := (HB.out.cell (p := ⟨blk, off + (lo + hi) / 2 * 2 + 1, none⟩) hbl).trans (hcell 1 (by decide))
   simp only [Nat.add_zero, List.getElem?_cons_zero, List.getElem?_cons_succ] at c0 c1
   have HY := Lib.hid hy
   obtain ⟨y1, y2⟩ := y
   simp only at c0 c1
   have HCC := Lib.hid (HC.out y1 y2)
   clear hcell hus hcc hy
   by_cases hyx : Lib.compareBytes y1 t < 0
   ·go_wp2_with fail
    refine (HCC.out _).mono ?_
    rintro e w2 ⟨rfl, hb2⟩
    have HB2 := Lib.hid (HB.out.trans (hb2.mono HB.out.size))
    clear hb2
    go_wp2_with fail
    go_roundg (hi - ((lo + hi) / 2 + 1))
    case measure => omega
    case rel =>
     exact ⟨(lo + hi) / 2 + 1, hi, by rw [show ((lo : Int) + (hi : Int)) / 2 + 1 = (((lo + hi) / 2 + 1 : Nat) : Int) by omega], rfl, by omega, hin, Nat.le_refl _, HB2, Lib.hid ⟨fun j h hj => HM.out j ((lo + hi) / 2) h hml (by omega) (by rw [HY.out]; exact hyx), HI.out.2⟩⟩
   ·go_wp2_with fail
    refine (HCC.out _).mono ?_
    rintro e w2 ⟨rfl, hb2⟩
    have HB2 := Lib.hid (HB.out.trans (hb2.mono HB.out.size))
    clear hb2
    go_wp2_with fail
    go_roundg ((lo + hi) / 2 - lo)
    case measure => omega
    case rel =>
     exact ⟨lo, (lo + hi) / 2, rfl, by rw [show ((lo : Int) + (hi : Int)) / 2 = (((lo + hi) / 2 : Nat) : Int) by omega], by omega, by omega, Nat.le_refl _, HB2, Lib.hid ⟨HI.out.1, fun j h hj => Int.not_lt.1 fun hl => by have := HM.out ((lo + hi) / 2) j hml h hj hl; rw [HY.out] at this; simp only at this; omega⟩⟩
  ·obtain rfl : hi = lo := by omega
   by_cases hnl : hi < n
   ·have hml : hi < fs.length := by rw [HN.out]; omega
    obtain ⟨blk, off, ha, hbl, _, hcc⟩ := HK.out (by omega)
    subst ha
    obtain ⟨us, hus, hcell, hr⟩ := hcc _ hml
    unfold FdR at hr
    subst hr
    obtain ⟨y, hy⟩ : ∃ y, fs[hi] = y := ⟨_, rfl⟩
    rw [hy] at hcell
    have c0 := (HB.out.cell (p := ⟨blk, off + hi * 2 + 0, none⟩) hbl).trans (hcell 0 (by decide))
    have c1 := (HB.out.cell (p := ⟨blk, off + hi * 2 + 1, none⟩) hbl).trans (hcell 1 (by decide))
    simp only [Nat.add_zero, List.getElem?_cons_zero, List.getElem?_cons_succ] at c0 c1
    have HY := Lib.hid hy
    obtain ⟨y1, y2⟩ := y
    simp only at c0 c1
    have HCC := Lib.hid (HC.out y1 y2)
    clear hcell hus hcc hy
    by_cases hyx : Lib.compareBytes y1 t = 0
    ·go_wp2_with fail
     refine (HCC.out _).mono ?_
     rintro e w2 ⟨rfl, hb2⟩
     have HB2 := Lib.hid (HB.out.trans (hb2.mono HB.out.size))
     clear hb2
     go_wp2_with fail
     go_ret2
     exact ⟨⟨hi, true, rfl, by rw [HN.out]; exact hin, HI.out.1, HI.out.2, by simp only [true_iff]; exact ⟨hml, by rw [HY.out]; exact hyx⟩⟩, HB2.out⟩
    ·have hyb : (Lib.compareBytes y1 t == (0 : Int)) = false := by simpa using hyx
     go_wp2_with fail
     refine (HCC.out _).mono ?_
     rintro e w2 ⟨rfl, hb2⟩
     have HB2 := Lib.hid (HB.out.trans (hb2.mono HB.out.size))
     clear hb2
     go_wp2_with fail
     go_ret2
     exact ⟨⟨hi, false, rfl, by rw [HN.out]; exact hin, HI.out.1, HI.out.2, by simp only [Bool.false_eq_true, false_iff, not_exists]; intro _; rw [HY.out]; exact hyx⟩, HB2.out⟩
   ·go_wp2_with fail
    go_ret2
    exact ⟨⟨hi, false, rfl, by rw [HN.out]; exact hin, HI.out.1, HI.out.2, by simp only [Bool.false_eq_true, false_iff, not_exists]; intro h; have := HN.out; omega⟩, HB.out⟩
end Go.Proofs.YtmpbjaodgajnfaaGreatDoor
namespace Go.Proofs.YtmpbjaodgajnfaaGreatDoor
open Go.RowKit
set_option maxHeartbeats 4000000 in
set_option maxRecDepth 1000000 in
theorem ins_end {B : Nat} (fs : List Fd) (fv : Value) (x1 x2 : List UInt8) (q : Nat) (w : World) (h : OR B 52 2 FdR w fs fv) (hx : w.heap[q]? = some (.cells #[.string ⟨x1.toArray⟩, .string ⟨x2.toArray⟩] 52 (0, 0))) (hB : B ≤ w.heap.size) (hn : fs.length ≤ 1000) :
  Calls Tryz.prog 35 #[fv, .int .i64 (fs.length : Int), .slice (some ⟨q, 0, none⟩) 1 1] w fun e w' => ∃ v, e = .returned v ∧ OR B 52 2 FdR w' (fs ++ [(x1, x2)]) v ∧ Below B w w' ∧ ∀ k, k < w.heap.size → fv.ownBlock ≠ some k → w'.heap[k]? = w.heap[k]? := by
 obtain ⟨i0, hi, hz0, hz1, hz2⟩ := info_parts infoFd
 obtain ⟨cl, hown, hpush⟩ := h.cells
 obtain ⟨v', We, hrun, hown2, hgr, _, hnew⟩ := run_append_own2 (P := Tryz.prog) (w := w) B 42 42 52 i0 (.agg #[.string ⟨#[]⟩, .string ⟨#[]⟩]) 2 32 Tryz.underlying42 hi hz0 hz1 hz2 rfl (by decide) fv fs.length cl hown ⟨q, 0, none⟩ 1 1 [.string ⟨x1.toArray⟩, .string ⟨x2.toArray⟩] rfl (World.news_of_block hx) (by intro u hu; simp only [List.mem_cons, List.not_mem_nil, or_false] at hu; rcases hu with rfl | rfl <;> rfl) (by unfold maxLen; omega) (by omega) hB
 have HOR : Hid (OR B 52 2 FdR We (fs ++ [(x1, x2)]) v') := Lib.hid (hpush FdR We (x1, x2) _ v' (fun _ _ h => h) rfl rfl (by omega) hown2)
 have HB : Hid (Below B w We) := Lib.hid ((Below.refl B w).grown hgr hB (fun k hk => (h.lt hk).1))
 have HK : Hid (∀ k, k < w.heap.size → fv.ownBlock ≠ some k → We.heap[k]? = w.heap[k]?) := Lib.hid (fun k hk hne => hgr.block k hk (fun e => hne e.symm))
 obtain ⟨n, hnn⟩ : ∃ n, fs.length = n := ⟨_, rfl⟩
 have hsh : fv = .slice none 0 0 ∧ n = 0 ∨ ∃ g c, fv = .slice (some ⟨g, 0, none⟩) n c ∧ n ≤ c ∧ c ≤ 9223372036854775807 := by
  rw [← hnn]
  obtain ⟨⟨uss, _, _, _, h0 | ⟨g, cap, cur, e2, _, _, h1, h2, _⟩⟩, _⟩ := h
  ·exact .inl h0
  ·exact .inr ⟨g, cap, e2, h1, Nat.le_trans h2 (by unfold maxLen; decide)⟩
 rw [hnn]
 clear hi hz0 hz1 hz2 hown hpush hown2 hgr hnew h hx hnn
 rcases hsh with ⟨rfl, rfl⟩ | ⟨g, c, rfl, hnc, hc63⟩
 ·go_enter Tryz.func35, Tryz.ntmps35
  go_wp2_with (at_builtin; refine wpList_append_run rfl _ _ _ rfl _ _ _ rfl rfl hrun ?_)
  go_ret
  exact ⟨_, rfl, HOR.out, HB.out, HK.out⟩
 ·go_enter Tryz.func35, Tryz.ntmps35
  go_wp2_with (at_builtin; refine wpList_append_run rfl _ _ _ rfl _ _ _ rfl rfl hrun ?_)
  all_goals
   go_ret
   exact ⟨_, rfl, HOR.out, HB.out, HK.out⟩
end Go.Proofs.YtmpbjaodgajnfaaGreatDoor
namespace Go.Proofs
open Go.Shelf
def Tryz.insField_ren : Go.Shelf.Ren := ⟨fun | 20 => 162 | n => n, fun | 24 => 85 | 22 => 78 | 3 => 3 | 25 => 183 | 4 => 4 | 0 => 0 | n => n, fun | n => n⟩
theorem Tryz.insField : Go.Proofs.SlLaysF0.n20 Tryz.prog Tryz.insField_ren := {
 mixed := by kernel_rfl
 f20 := ⟨Tryz.f162.name, by decide, Tryz.func162.trans (congrArg some (by kernel_rfl))⟩
 t0 := Tryz.underlying0
 a0 := Tryz.isAgg0
 z0 := Tryz.sizeOf0
 v0 := Tryz.zeroValue0
 t3 := Tryz.underlying3
 a3 := Tryz.isAgg3
 z3 := Tryz.sizeOf3
 v3 := Tryz.zeroValue3
 t4 := Tryz.underlying4
 a4 := Tryz.isAgg4
 z4 := Tryz.sizeOf4
 v4 := Tryz.zeroValue4
 t22 := Tryz.underlying78
 a22 := Tryz.isAgg78
 z22 := Tryz.sizeOf78
 v22 := Tryz.zeroValue78
 t25 := Tryz.underlying183
 a25 := Tryz.isAgg183
 z25 := Tryz.sizeOf183
 v25 := Tryz.zeroValue183 }
end Go.Proofs
namespace Go.Proofs.YtmpbjaodgajnfaaGreatDoor
open Go.RowKit Go.Sort Go.Shelf
abbrev Grp := List UInt8 × Int × Int
def encG (x : Grp) : List Value := [.string ⟨x.1.toArray⟩, .int .i64 x.2.1, .int .i64 x.2.2]
def cmpG (x y : Grp) : Int := Lib.compareInt x.2.1 y.2.1
theorem gclosure_any (x y : Grp) (W : World) : Calls Tryz.prog 115 #[.agg #[.string ⟨x.1.toArray⟩, .int .i64 x.2.1, .int .i64 x.2.2], .agg #[.string ⟨y.1.toArray⟩, .int .i64 y.2.1, .int .i64 y.2.2]] W fun e w' =>
  e = .returned (.int .i64 (cmpG x y)) ∧ ∃ q os', w' = grow (W.drewN q) os' := by
 have hcon := Lib.hid fun W' => Tryz.cmp_Compare_int x.2.1 y.2.1 W'
 go_enter Tryz.func115, Tryz.ntmps115
 go_wp2_with (go_at_call 116; refine (hcon.out _).mono ?_; rintro e w' ⟨rfl, rfl⟩)
 go_ret
 exact ⟨rfl, 0, _, by rw [alloc_eq_grow, alloc_eq_grow, grow_grow]; rfl⟩
theorem gcmp_lays (blk off size : Nat) (w : World) : CmpLays Tryz.prog 115 #[] encG 3 cmpG blk off size w :=
 fun _ _ _ _ x y => gclosure_any x y _
def sortG (d : Array Grp) : Array Grp := Sort.insertionSort (ltOf cmpG) d 0 d.size
theorem ins_inner_size {α : Type} [Inhabited α] (lt : α → α → Bool) (a : Nat) : ∀ (j : Nat) (d : Array α), (Sort.insInner lt a j d).size = d.size
 | 0, d => rfl
 | j + 1, d => by
  rw [Sort.insInner]
  split
  ·rw [ins_inner_size lt a j]
   unfold Sort.swp
   rw [Array.size_setIfInBounds, Array.size_setIfInBounds]
  ·rfl
theorem ins_outer_size {α : Type} [Inhabited α] (lt : α → α → Bool) (a b : Nat) : ∀ (n i : Nat) (d : Array α), b - i ≤ n → (Sort.insOuter lt a b i d).size = d.size
 | 0, i, d, h => by rw [Sort.insOuter, if_neg (by omega)]
 | n + 1, i, d, h => by
  rw [Sort.insOuter]
  split
  ·rw [ins_outer_size lt a b n (i + 1) _ (by omega), ins_inner_size]
  ·rfl
theorem sortG_size (d : Array Grp) : (sortG d).size = d.size := ins_outer_size _ _ _ _ _ _ (Nat.le_refl _)
theorem gins_any (blk off cap : Nat) (d : Array Grp) (w : World) (hH : HoldsK encG 3 w blk off d) (hblk : blk < w.heap.size) (h : d.size ≤ 19) :
  Calls Tryz.prog 162 #[.slice (some ⟨blk, off, none⟩) d.size cap, .int .i64 0, .int .i64 d.size, .func (.func 115) #[] #[]] w fun e w' =>
   e = .returned (.tuple #[]) ∧ ∃ n os, w' = sortWorldK encG 3 w blk off n (sortG d) os :=
 AnyQ.insertionSortCmpFunc Tryz.insField 3 Tryz.isAgg85 Tryz.sizeOf85 encG (fun _ => rfl) (fun x v hv => by simp [encG] at hv; rcases hv with rfl | rfl | rfl <;> rfl) cmpG 115 #[] blk off cap 0 d.size d w
  (enters_of Tryz.func115 (by kernel_rfl) rfl) (gcmp_lays blk off d.size w) hH hblk (Nat.zero_le _) (Nat.le_refl _) (by omega)
structure SrtP (blk : Nat) (w w' : World) : Prop where
 os : w'.os = w.os
 tape : w'.tape = w.tape
 output : w'.output = w.output
 size : w.heap.size ≤ w'.heap.size
 block : ∀ b, b < w.heap.size → b ≠ blk → w'.heap[b]? = w.heap[b]?
theorem SrtP.refl (blk : Nat) (w : World) : SrtP blk w w := ⟨rfl, rfl, rfl, Nat.le_refl _, fun _ _ _ => rfl⟩
theorem srt_world (w : World) (blk off n : Nat) (r : Array Grp) (os : Array Obj) : SrtP blk w (sortWorldK encG 3 w blk off n r os) := by
 have hsz : (putRowK encG 3 (Sort.ahead w n) blk off r).heap.size = w.heap.size := by rw [size_putRowK]; rfl
 refine ⟨rfl, rfl, rfl, ?_, fun b hb hne => ?_⟩
 ·unfold sortWorldK
  rw [size_grow, hsz]
  exact Nat.le_add_right _ _
 ·unfold sortWorldK
  rw [Sort.heap_grow_old _ os (by rw [hsz]; exact hb)]
  unfold putRowK putRow mapBlock
  simp only
  rw [Array.getElem?_modify, if_neg (fun e => hne e.symm)]
  rfl
def SrtS (blk off : Nat) (d : Array Grp) (w w' : World) : Prop := SrtP blk w w' ∧ HoldsK encG 3 w' blk off (sortG d)
theorem gstable_any (blk off cap : Nat) (d : Array Grp) (w : World) (hH : HoldsK encG 3 w blk off d) (hblk : blk < w.heap.size) (h : d.size ≤ 19) :
  Calls Tryz.prog 140 #[.slice (some ⟨blk, off, none⟩) d.size cap, .int .i64 d.size, .func (.func 115) #[] #[]] w fun e w' =>
   e = .returned (.tuple #[]) ∧ SrtS blk off d w w' := by
 have HI := Lib.hid ((gins_any blk off cap d w hH hblk h).mono fun e w' (h : _ ∧ ∃ n os, w' = sortWorldK encG 3 w blk off n (sortG d) os) => show e = .returned (.tuple #[]) ∧ SrtS blk off d w w' from ⟨h.1, by obtain ⟨_, n, os, rfl⟩ := h; exact ⟨srt_world w blk off n _ os, holdsK_sortWorldK_c encG 3 w blk off d (sortG d) n os hH hblk (sortG_size d)⟩⟩)
 clear hH
 generalize d.size = n at *
 have t1 : decide ((20 : Int) ≤ (n : Int)) = false := by simp; omega
 have t2 : decide ((20 : Int) < (n : Int)) = false := by simp; omega
 go_enter Tryz.func140, Tryz.ntmps140
 go_wp2_with fail
 refine wp_loop_rounds 1 ?_
 rw [rounds_succ]
 go_wp2_with (go_at_call 162; refine HI.out.mono ?_; rintro e w' ⟨rfl, hs⟩)
 refine wp_loop_rounds 1 ?_
 rw [rounds_succ]
 go_wp2_with fail
 go_end0
 exact ⟨rfl, hs⟩
theorem gsort_any (blk off cap : Nat) (d : Array Grp) (w : World) (hH : HoldsK encG 3 w blk off d) (hblk : blk < w.heap.size) (h : d.size ≤ 19) :
  Calls Tryz.prog 114 #[.slice (some ⟨blk, off, none⟩) d.size cap, .func (.func 115) #[] #[]] w fun e w' =>
   e = .returned (.tuple #[]) ∧ SrtS blk off d w w' := by
 have HI := Lib.hid (gstable_any blk off cap d w hH hblk h)
 clear hH
 generalize d.size = n at *
 go_enter Tryz.func114, Tryz.ntmps114
 go_wp2_with (go_at_call 140; refine HI.out.mono ?_; rintro e w' ⟨rfl, hs⟩)
 go_end0
 exact ⟨rfl, hs⟩
end Go.Proofs.YtmpbjaodgajnfaaGreatDoor

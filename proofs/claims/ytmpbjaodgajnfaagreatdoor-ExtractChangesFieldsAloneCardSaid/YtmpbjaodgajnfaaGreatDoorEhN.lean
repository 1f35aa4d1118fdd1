/-
 Joined: EgF.
-/
import Derived.Test.YtmpbjaodgajnfaaGreatDoorEhM
import Derived.Deep.RegionWith
namespace Go.Proofs.YtmpbjaodgajnfaaGreatDoor
open Go.RowKit
structure ItG (h f fr : Int) (F : Nat → Prop) (E : Ev) (ls : List Ln) (fs : List Fd) (W : World) : Prop where
 host : E.host = h
 file : E.file = f
 frm : E.lo = fr
 lines : LnG fr E.hi ls
 nl : 0 < ls.length ∧ ls.length ≤ 3
 lmem : RW F 3 LnR W ls E.lv
 fmem : RW F 2 FdR W fs E.fv
 flds : GenF 4 fs
 fnil : fs = [] → E.fv = .slice none 0 0
 time : 0 ≤ E.time ∧ E.time ≤ 253402300799999
 weight : E.weight = 1 ∨ E.weight = 2 ∨ E.weight = 5 ∨ E.weight = 10 ∨ E.weight = 5040
 trace : E.trace.length ≤ 10
 stream : E.stream.length ≤ 10
theorem ItG.go {h f fr : Int} {F F' : Nat → Prop} {E : Ev} {ls : List Ln} {fs : List Fd} {W W' : World} (k : ItG h f fr F E ls fs W) (hs : Stay F F' W W') : ItG h f fr F' E ls fs W' :=
 ⟨k.host, k.file, k.frm, k.lines, k.nl, k.lmem.go hs (fun _ _ h => h), k.fmem.go hs (fun _ _ h => h), k.flds, k.fnil, k.time, k.weight, k.trace, k.stream⟩
def Ev.Sl (E : Ev) : Prop := (∃ a n c, E.lv = .slice a n c) ∧ ∃ a n c, E.fv = .slice a n c
def ItemP (g : Nat) (h f fr : Int) (w : World) (e : Ending) (w' : World) : Prop := ∃ (r : List UInt8) (E : Ev), e = .returned (.agg (itC r E)) ∧ CodesAt w' g ∧ Apart g w w' ∧ (fr < E.hi ∧ E.hi ≤ fr + 186) ∧ E.Sl ∧ (r = [] → ∃ ls fs, ItG h f fr (fun b => w.heap.size ≤ b) E ls fs w')
set_option maxRecDepth 100000 in
set_option maxHeartbeats 40000000 in
theorem item_full (g : Nat) (h f fr : Int) (w : World) (hc : CodesAt w g) (hfr : 0 ≤ fr ∧ fr ≤ 50000) : Calls Tryz.prog 46 #[.pointer (some ⟨g, 0, none⟩), .int .i64 h, .int .i64 f, .int .i64 fr] w (ItemP g h f fr w) := by
 have HGW := Lib.hid hc.1
 have HI0 := Lib.hid (IS.start hc h f fr)
 obtain ⟨hf1, hf2⟩ := hfr
 clear hc
 go_enter Tryz.func46, Tryz.ntmps46
 go_wp2_with fail
 refine (next_any g 3 _ HI0.out.codes (by omega) (by omega)).mono ?_
 rintro e w1 ⟨n, hn, rfl, hca, hap⟩
 have HL := Lib.hid (show LS w g (evI h f fr) fr fr [] w1 from ⟨HI0.out.go HGW.out hap hca, OR.nil, rfl⟩)
 clear hca hap HI0
 go_wp2_with fail
 go_loopw [10, 11] (fun a i wr => ∃ (t : Int) (j : Nat) (ls : List Ln) (v : Value), a = .int .i64 t ∧ i = .int .i64 (j : Int) ∧ ls.length + j ≤ 3 ∧ 1 ≤ ls.length + j ∧ fr + (ls.length : Int) ≤ t ∧ t ≤ fr + 62 * (ls.length : Int) ∧ Hid (LS w g { evI h f fr with lv := v } fr t ls wr)) (fun _ i _ => (intOf i).toNat)
 case atStart => exact ⟨fr, 1 + n, [], .slice none 0 0, rfl, by go_num, by simp only [List.length_nil]; omega, by simp only [List.length_nil]; omega, by simp, by simp, HL⟩
 case round =>
  obtain ⟨t, j, ls, lv, rfl, rfl, hjn, hj1, ht1, ht2, HN⟩ := hrel
  obtain ⟨m, hm⟩ : ∃ m, ls.length = m := ⟨_, rfl⟩
  rw [hm] at hjn hj1 ht1 ht2
  have HM := Lib.hid hm
  clear HL hm
  obtain ⟨la, lc, hlv, _⟩ := HN.out.own.rw (F := fun _ => True) (fun _ _ => trivial)
  rw [HM.out] at hlv
  simp only at hlv
  subst hlv
  cases j with
  | zero =>
   have c3 : wr.cell? ⟨w.heap.size + 1, 3, none⟩ = some (.int .i64 0) := HN.out.is.cell 3 rfl
   have f3 := HN.out.is.fz 3
   have hE0 := HN.out.is.set (E' := ⟨h, f, fr, t, .slice la m lc, 0, 0, [], [], .slice none 0 0⟩) HGW.out 3 (.int .i64 t) rfl
   have HO0 : Hid (OR (w.heap.size + 2) 50 3 LnR (wr.setCell ⟨w.heap.size + 1, 3, none⟩ (.int .i64 t)) ls (.slice la m lc)) := Lib.hid (HN.out.own.keep (fun b hb _ => Deep.blk_setCell_other _ _ _ _ (by show b ≠ w.heap.size + 1; omega)) (fun _ _ h => h))
   have HLG := Lib.hid HN.out.lines
   have HE0 := Lib.hid hE0
   clear hE0 HN
   go_wp2_with fail
   refine (next_any g 5 _ HE0.out.codes (by omega) (by omega)).mono ?_
   rintro e w2 ⟨q, hq, rfl, hca, hap⟩
   have HE1 := Lib.hid (HE0.out.go HGW.out hap hca)
   have HO1 := Lib.hid (HO0.out.keep (fun k hk hl => hap.block (by have := HGW.out; omega) hl) (fun _ _ h => h))
   clear hca hap HE0 HO0 c3 f3
   by_cases q4 : q = 4
   ·subst q4
    have HLR := Lib.hid (HO1.out.lr HM.out)
    have c4 : w2.cell? ⟨w.heap.size + 1, 4, none⟩ = some (.slice la m lc) := HE1.out.cell 4 rfl
    go_wp2_with fail
    clear c4
    go_loopw [14] (fun i wr => ∃ k : Nat, i = .int .i64 k ∧ k ≤ m ∧ Hid (IS w g ⟨h, f, fr, t, .slice la m lc, 0, 0, [], [], .slice none 0 0⟩ wr) ∧ Hid (LR w la m wr)) (fun i _ => m - (intOf i).toNat)
    case atStart => exact ⟨0, rfl, by omega, HE1, HLR⟩
    case round =>
     obtain ⟨k, rfl, hk, HE, HL⟩ := hrel
     have c4 : wr.cell? ⟨w.heap.size + 1, 4, none⟩ = some (.slice la m lc) := HE.out.cell 4 rfl
     clear HE1 HLR
     by_cases hlt : k < m
     ·obtain ⟨blk, rfl, hblk, ⟨u, hu⟩, hf⟩ := HL.out k hlt
      have i1 : (k : Int) < (m : Int) := by omega
      have i2 : (0 : Int) ≤ (k : Int) := by omega
      have HB := Lib.hid ((Below.refl (w.heap.size + 2) wr).setCell (p := ⟨blk, k * 3 + 2, none⟩) hblk (.string ⟨#[]⟩))
      go_wp2_with fail
      exact ⟨⟨k + 1, by go_num, by omega, Lib.hid (HE.out.on HGW.out HB.out), Lib.hid (HL.out.set _ _)⟩, by simp [intOf]; omega⟩
     ·obtain rfl : k = m := by omega
      have HED := Lib.hid (HE.out.dr HGW.out)
      have HG := Lib.hid (Nat.lt_of_lt_of_le (show g < w.heap.size + 2 by have := HGW.out; omega) HE.out.big)
      have HFIN : Hid (∀ (W' W : World) (r : List UInt8), r ≠ [] → IS w g ⟨h, f, fr, t, .slice la k lc, 0, 0, [], [], .slice none 0 0⟩ W → CodesAt W' g → Apart g w W' → ItemP g h f fr w (.returned (.agg (itC r ⟨h, f, fr, t, .slice la k lc, 0, 0, [], [], .slice none 0 0⟩))) W') := Lib.hid (fun W' W r hr _ hc ha => ⟨r, _, rfl, hc, ha, ⟨by show fr < t; omega, by show t ≤ fr + 186; omega⟩, ⟨⟨_, _, _, rfl⟩, ⟨_, _, _, rfl⟩⟩, fun e => absurd e hr⟩)
      have hne1 : ¬ (w.heap.size + 1 = wr.heap.size) := by have := HE.out.big; omega
      have hne2 : ¬ (wr.heap.size = w.heap.size + 1) := by have := HE.out.big; omega
      have hlt1 : w.heap.size + 1 < wr.heap.size := by have := HE.out.big; omega
      have b0 : wr.cell? ⟨w.heap.size + 1, 0, none⟩ = some (.int .i64 h) := HE.out.cell 0 rfl
      have b1 : wr.cell? ⟨w.heap.size + 1, 1, none⟩ = some (.int .i64 f) := HE.out.cell 1 rfl
      have b2 : wr.cell? ⟨w.heap.size + 1, 2, none⟩ = some (.int .i64 fr) := HE.out.cell 2 rfl
      have b3 : wr.cell? ⟨w.heap.size + 1, 3, none⟩ = some (.int .i64 t) := HE.out.cell 3 rfl
      have b4 : wr.cell? ⟨w.heap.size + 1, 4, none⟩ = some (.slice la k lc) := HE.out.cell 4 rfl
      have b5 : wr.cell? ⟨w.heap.size + 1, 5, none⟩ = some (.int .i64 0) := HE.out.cell 5 rfl
      have b6 : wr.cell? ⟨w.heap.size + 1, 6, none⟩ = some (.int .i64 0) := HE.out.cell 6 rfl
      have b7 : wr.cell? ⟨w.heap.size + 1, 7, none⟩ = some (.string ⟨#[]⟩) := HE.out.cell 7 rfl
      have b8 : wr.cell? ⟨w.heap.size + 1, 8, none⟩ = some (.string ⟨#[]⟩) := HE.out.cell 8 rfl
      have b9 : wr.cell? ⟨w.heap.size + 1, 9, none⟩ = some (.slice none 0 0) := HE.out.cell 9 rfl
      have bd0 : wr.drew.cell? ⟨w.heap.size + 1, 0, none⟩ = some (.int .i64 h) := HED.out.cell 0 rfl
      have bd1 : wr.drew.cell? ⟨w.heap.size + 1, 1, none⟩ = some (.int .i64 f) := HED.out.cell 1 rfl
      have bd2 : wr.drew.cell? ⟨w.heap.size + 1, 2, none⟩ = some (.int .i64 fr) := HED.out.cell 2 rfl
      have bd3 : wr.drew.cell? ⟨w.heap.size + 1, 3, none⟩ = some (.int .i64 t) := HED.out.cell 3 rfl
      have bd4 : wr.drew.cell? ⟨w.heap.size + 1, 4, none⟩ = some (.slice la k lc) := HED.out.cell 4 rfl
      have bd5 : wr.drew.cell? ⟨w.heap.size + 1, 5, none⟩ = some (.int .i64 0) := HED.out.cell 5 rfl
      have bd6 : wr.drew.cell? ⟨w.heap.size + 1, 6, none⟩ = some (.int .i64 0) := HED.out.cell 6 rfl
      have bd7 : wr.drew.cell? ⟨w.heap.size + 1, 7, none⟩ = some (.string ⟨#[]⟩) := HED.out.cell 7 rfl
      have bd8 : wr.drew.cell? ⟨w.heap.size + 1, 8, none⟩ = some (.string ⟨#[]⟩) := HED.out.cell 8 rfl
      have bd9 : wr.drew.cell? ⟨w.heap.size + 1, 9, none⟩ = some (.slice none 0 0) := HED.out.cell 9 rfl
      have HAD := Lib.hid (HED.out.al HGW.out (.cells #[.string ⟨#[115, 97, 109, 112, 108, 101]⟩, .string ⟨#[100, 114, 111, 112]⟩, .string ⟨#[116, 111, 111, 45, 108, 111, 110, 103]⟩] 9))
      have ba0 : (wr.drew.alloc (.cells #[.string ⟨#[115, 97, 109, 112, 108, 101]⟩, .string ⟨#[100, 114, 111, 112]⟩, .string ⟨#[116, 111, 111, 45, 108, 111, 110, 103]⟩] 9)).cell? ⟨w.heap.size + 1, 0, none⟩ = some (.int .i64 h) := HAD.out.cell 0 rfl
      have ba1 : (wr.drew.alloc (.cells #[.string ⟨#[115, 97, 109, 112, 108, 101]⟩, .string ⟨#[100, 114, 111, 112]⟩, .string ⟨#[116, 111, 111, 45, 108, 111, 110, 103]⟩] 9)).cell? ⟨w.heap.size + 1, 1, none⟩ = some (.int .i64 f) := HAD.out.cell 1 rfl
      have ba2 : (wr.drew.alloc (.cells #[.string ⟨#[115, 97, 109, 112, 108, 101]⟩, .string ⟨#[100, 114, 111, 112]⟩, .string ⟨#[116, 111, 111, 45, 108, 111, 110, 103]⟩] 9)).cell? ⟨w.heap.size + 1, 2, none⟩ = some (.int .i64 fr) := HAD.out.cell 2 rfl
      have ba3 : (wr.drew.alloc (.cells #[.string ⟨#[115, 97, 109, 112, 108, 101]⟩, .string ⟨#[100, 114, 111, 112]⟩, .string ⟨#[116, 111, 111, 45, 108, 111, 110, 103]⟩] 9)).cell? ⟨w.heap.size + 1, 3, none⟩ = some (.int .i64 t) := HAD.out.cell 3 rfl
      have ba4 : (wr.drew.alloc (.cells #[.string ⟨#[115, 97, 109, 112, 108, 101]⟩, .string ⟨#[100, 114, 111, 112]⟩, .string ⟨#[116, 111, 111, 45, 108, 111, 110, 103]⟩] 9)).cell? ⟨w.heap.size + 1, 4, none⟩ = some (.slice la k lc) := HAD.out.cell 4 rfl
      have ba5 : (wr.drew.alloc (.cells #[.string ⟨#[115, 97, 109, 112, 108, 101]⟩, .string ⟨#[100, 114, 111, 112]⟩, .string ⟨#[116, 111, 111, 45, 108, 111, 110, 103]⟩] 9)).cell? ⟨w.heap.size + 1, 5, none⟩ = some (.int .i64 0) := HAD.out.cell 5 rfl
      have ba6 : (wr.drew.alloc (.cells #[.string ⟨#[115, 97, 109, 112, 108, 101]⟩, .string ⟨#[100, 114, 111, 112]⟩, .string ⟨#[116, 111, 111, 45, 108, 111, 110, 103]⟩] 9)).cell? ⟨w.heap.size + 1, 6, none⟩ = some (.int .i64 0) := HAD.out.cell 6 rfl
      have ba7 : (wr.drew.alloc (.cells #[.string ⟨#[115, 97, 109, 112, 108, 101]⟩, .string ⟨#[100, 114, 111, 112]⟩, .string ⟨#[116, 111, 111, 45, 108, 111, 110, 103]⟩] 9)).cell? ⟨w.heap.size + 1, 7, none⟩ = some (.string ⟨#[]⟩) := HAD.out.cell 7 rfl
      have ba8 : (wr.drew.alloc (.cells #[.string ⟨#[115, 97, 109, 112, 108, 101]⟩, .string ⟨#[100, 114, 111, 112]⟩, .string ⟨#[116, 111, 111, 45, 108, 111, 110, 103]⟩] 9)).cell? ⟨w.heap.size + 1, 8, none⟩ = some (.string ⟨#[]⟩) := HAD.out.cell 8 rfl
      have ba9 : (wr.drew.alloc (.cells #[.string ⟨#[115, 97, 109, 112, 108, 101]⟩, .string ⟨#[100, 114, 111, 112]⟩, .string ⟨#[116, 111, 111, 45, 108, 111, 110, 103]⟩] 9)).cell? ⟨w.heap.size + 1, 9, none⟩ = some (.slice none 0 0) := HAD.out.cell 9 rfl
      go_wp2_with fail
      go_region_with (first
       | (go_at_call 21; refine (next_any g 3 _ (by first | exact HED.out.codes | exact HED.out.codes.al _) (by omega) (by omega)).mono ?_; rintro e w3 ⟨q, hq, rfl, hca, hap⟩; have i1 : (q : Int) < 3 := (by omega); have i2 : (0 : Int) ≤ (q : Int) := (by omega); obtain ⟨y, hyl, hyw, hyq⟩ := rule_at q hq; have HYW := Lib.hid hyw; have HE3 : Hid (IS w g ⟨h, f, fr, t, .slice la k lc, 0, 0, [], [], .slice none 0 0⟩ w3) := (by first | exact HED.out.go HGW.out hap hca | exact (HED.out.al HGW.out _).go HGW.out hap hca); (try (have hcell : w3.cell? ⟨wr.heap.size, q, none⟩ = some (.string ⟨y.toArray⟩) := (hap.cell (p := ⟨wr.heap.size, q, none⟩) (Nat.ne_of_gt HG.out) (by simp)).trans (HYW.out wr.drew))); have hne3 : ¬ (w.heap.size + 1 = w3.heap.size) := (by have := HE3.out.big; omega); have hlt3 : w.heap.size + 1 < w3.heap.size := (by have := HE3.out.big; omega); have hne4 : ¬ (w3.heap.size = w.heap.size + 1) := (by have := HE3.out.big; omega); have HA3 := Lib.hid (HE3.out.al HGW.out (.cells #[.string ⟨#[115, 97, 109, 112, 108, 101]⟩, .string ⟨#[100, 114, 111, 112]⟩, .string ⟨#[116, 111, 111, 45, 108, 111, 110, 103]⟩] 9)); have pd0 : w3.cell? ⟨w.heap.size + 1, 0, none⟩ = some (.int .i64 h) := HE3.out.cell 0 rfl; have pd1 : w3.cell? ⟨w.heap.size + 1, 1, none⟩ = some (.int .i64 f) := HE3.out.cell 1 rfl; have pd2 : w3.cell? ⟨w.heap.size + 1, 2, none⟩ = some (.int .i64 fr) := HE3.out.cell 2 rfl; have pd3 : w3.cell? ⟨w.heap.size + 1, 3, none⟩ = some (.int .i64 t) := HE3.out.cell 3 rfl; have pd4 : w3.cell? ⟨w.heap.size + 1, 4, none⟩ = some (.slice la k lc) := HE3.out.cell 4 rfl; have pd5 : w3.cell? ⟨w.heap.size + 1, 5, none⟩ = some (.int .i64 0) := HE3.out.cell 5 rfl; have pd6 : w3.cell? ⟨w.heap.size + 1, 6, none⟩ = some (.int .i64 0) := HE3.out.cell 6 rfl; have pd7 : w3.cell? ⟨w.heap.size + 1, 7, none⟩ = some (.string ⟨#[]⟩) := HE3.out.cell 7 rfl; have pd8 : w3.cell? ⟨w.heap.size + 1, 8, none⟩ = some (.string ⟨#[]⟩) := HE3.out.cell 8 rfl; have pd9 : w3.cell? ⟨w.heap.size + 1, 9, none⟩ = some (.slice none 0 0) := HE3.out.cell 9 rfl; have pu0 : w3.cell? ⟨w.heap.size, 0, none⟩ = some (.string ⟨#[]⟩) := (by rw [Lib.cell_of_heap HE3.out.it]; rfl); have pu1 : w3.cell? ⟨w.heap.size, 1, none⟩ = some (.int .i64 0) := (by rw [Lib.cell_of_heap HE3.out.it]; rfl); have pu2 : w3.cell? ⟨w.heap.size, 2, none⟩ = some (.int .i64 0) := (by rw [Lib.cell_of_heap HE3.out.it]; rfl); have pu3 : w3.cell? ⟨w.heap.size, 3, none⟩ = some (.int .i64 0) := (by rw [Lib.cell_of_heap HE3.out.it]; rfl); have pu4 : w3.cell? ⟨w.heap.size, 4, none⟩ = some (.int .i64 0) := (by rw [Lib.cell_of_heap HE3.out.it]; rfl); have pu5 : w3.cell? ⟨w.heap.size, 5, none⟩ = some (.slice none 0 0) := (by rw [Lib.cell_of_heap HE3.out.it]; rfl); have pu6 : w3.cell? ⟨w.heap.size, 6, none⟩ = some (.int .i64 0) := (by rw [Lib.cell_of_heap HE3.out.it]; rfl); have pu7 : w3.cell? ⟨w.heap.size, 7, none⟩ = some (.int .i64 0) := (by rw [Lib.cell_of_heap HE3.out.it]; rfl); have pu8 : w3.cell? ⟨w.heap.size, 8, none⟩ = some (.string ⟨#[]⟩) := (by rw [Lib.cell_of_heap HE3.out.it]; rfl); have pu9 : w3.cell? ⟨w.heap.size, 9, none⟩ = some (.string ⟨#[]⟩) := (by rw [Lib.cell_of_heap HE3.out.it]; rfl); have pu10 : w3.cell? ⟨w.heap.size, 10, none⟩ = some (.slice none 0 0) := (by rw [Lib.cell_of_heap HE3.out.it]; rfl); have pf0 : w3.frozen? ⟨w.heap.size, 0, none⟩ = false := frz0 HE3.out.it 0; have pf1 : w3.frozen? ⟨w.heap.size, 1, none⟩ = false := frz0 HE3.out.it 1; have pf2 : w3.frozen? ⟨w.heap.size, 2, none⟩ = false := frz0 HE3.out.it 2; have pf3 : w3.frozen? ⟨w.heap.size, 3, none⟩ = false := frz0 HE3.out.it 3; have pf4 : w3.frozen? ⟨w.heap.size, 4, none⟩ = false := frz0 HE3.out.it 4; have pf5 : w3.frozen? ⟨w.heap.size, 5, none⟩ = false := frz0 HE3.out.it 5; have pf6 : w3.frozen? ⟨w.heap.size, 6, none⟩ = false := frz0 HE3.out.it 6; have pf7 : w3.frozen? ⟨w.heap.size, 7, none⟩ = false := frz0 HE3.out.it 7; have pf8 : w3.frozen? ⟨w.heap.size, 8, none⟩ = false := frz0 HE3.out.it 8; have pf9 : w3.frozen? ⟨w.heap.size, 9, none⟩ = false := frz0 HE3.out.it 9; have pf10 : w3.frozen? ⟨w.heap.size, 10, none⟩ = false := frz0 HE3.out.it 10; have qd0 : (w3.alloc (.cells #[.string ⟨#[115, 97, 109, 112, 108, 101]⟩, .string ⟨#[100, 114, 111, 112]⟩, .string ⟨#[116, 111, 111, 45, 108, 111, 110, 103]⟩] 9)).cell? ⟨w.heap.size + 1, 0, none⟩ = some (.int .i64 h) := HA3.out.cell 0 rfl; have qd1 : (w3.alloc (.cells #[.string ⟨#[115, 97, 109, 112, 108, 101]⟩, .string ⟨#[100, 114, 111, 112]⟩, .string ⟨#[116, 111, 111, 45, 108, 111, 110, 103]⟩] 9)).cell? ⟨w.heap.size + 1, 1, none⟩ = some (.int .i64 f) := HA3.out.cell 1 rfl; have qd2 : (w3.alloc (.cells #[.string ⟨#[115, 97, 109, 112, 108, 101]⟩, .string ⟨#[100, 114, 111, 112]⟩, .string ⟨#[116, 111, 111, 45, 108, 111, 110, 103]⟩] 9)).cell? ⟨w.heap.size + 1, 2, none⟩ = some (.int .i64 fr) := HA3.out.cell 2 rfl; have qd3 : (w3.alloc (.cells #[.string ⟨#[115, 97, 109, 112, 108, 101]⟩, .string ⟨#[100, 114, 111, 112]⟩, .string ⟨#[116, 111, 111, 45, 108, 111, 110, 103]⟩] 9)).cell? ⟨w.heap.size + 1, 3, none⟩ = some (.int .i64 t) := HA3.out.cell 3 rfl; have qd4 : (w3.alloc (.cells #[.string ⟨#[115, 97, 109, 112, 108, 101]⟩, .string ⟨#[100, 114, 111, 112]⟩, .string ⟨#[116, 111, 111, 45, 108, 111, 110, 103]⟩] 9)).cell? ⟨w.heap.size + 1, 4, none⟩ = some (.slice la k lc) := HA3.out.cell 4 rfl; have qd5 : (w3.alloc (.cells #[.string ⟨#[115, 97, 109, 112, 108, 101]⟩, .string ⟨#[100, 114, 111, 112]⟩, .string ⟨#[116, 111, 111, 45, 108, 111, 110, 103]⟩] 9)).cell? ⟨w.heap.size + 1, 5, none⟩ = some (.int .i64 0) := HA3.out.cell 5 rfl; have qd6 : (w3.alloc (.cells #[.string ⟨#[115, 97, 109, 112, 108, 101]⟩, .string ⟨#[100, 114, 111, 112]⟩, .string ⟨#[116, 111, 111, 45, 108, 111, 110, 103]⟩] 9)).cell? ⟨w.heap.size + 1, 6, none⟩ = some (.int .i64 0) := HA3.out.cell 6 rfl; have qd7 : (w3.alloc (.cells #[.string ⟨#[115, 97, 109, 112, 108, 101]⟩, .string ⟨#[100, 114, 111, 112]⟩, .string ⟨#[116, 111, 111, 45, 108, 111, 110, 103]⟩] 9)).cell? ⟨w.heap.size + 1, 7, none⟩ = some (.string ⟨#[]⟩) := HA3.out.cell 7 rfl; have qd8 : (w3.alloc (.cells #[.string ⟨#[115, 97, 109, 112, 108, 101]⟩, .string ⟨#[100, 114, 111, 112]⟩, .string ⟨#[116, 111, 111, 45, 108, 111, 110, 103]⟩] 9)).cell? ⟨w.heap.size + 1, 8, none⟩ = some (.string ⟨#[]⟩) := HA3.out.cell 8 rfl; have qd9 : (w3.alloc (.cells #[.string ⟨#[115, 97, 109, 112, 108, 101]⟩, .string ⟨#[100, 114, 111, 112]⟩, .string ⟨#[116, 111, 111, 45, 108, 111, 110, 103]⟩] 9)).cell? ⟨w.heap.size + 1, 9, none⟩ = some (.slice none 0 0) := HA3.out.cell 9 rfl; have qu0 : (w3.alloc (.cells #[.string ⟨#[115, 97, 109, 112, 108, 101]⟩, .string ⟨#[100, 114, 111, 112]⟩, .string ⟨#[116, 111, 111, 45, 108, 111, 110, 103]⟩] 9)).cell? ⟨w.heap.size, 0, none⟩ = some (.string ⟨#[]⟩) := (by rw [Lib.cell_of_heap HA3.out.it]; rfl); have qu1 : (w3.alloc (.cells #[.string ⟨#[115, 97, 109, 112, 108, 101]⟩, .string ⟨#[100, 114, 111, 112]⟩, .string ⟨#[116, 111, 111, 45, 108, 111, 110, 103]⟩] 9)).cell? ⟨w.heap.size, 1, none⟩ = some (.int .i64 0) := (by rw [Lib.cell_of_heap HA3.out.it]; rfl); have qu2 : (w3.alloc (.cells #[.string ⟨#[115, 97, 109, 112, 108, 101]⟩, .string ⟨#[100, 114, 111, 112]⟩, .string ⟨#[116, 111, 111, 45, 108, 111, 110, 103]⟩] 9)).cell? ⟨w.heap.size, 2, none⟩ = some (.int .i64 0) := (by rw [Lib.cell_of_heap HA3.out.it]; rfl); have qu3 : (w3.alloc (.cells #[.string ⟨#[115, 97, 109, 112, 108, 101]⟩, .string ⟨#[100, 114, 111, 112]⟩, .string ⟨#[116, 111, 111, 45, 108, 111, 110, 103]⟩] 9)).cell? ⟨w.heap.size, 3, none⟩ = some (.int .i64 0) := (by rw [Lib.cell_of_heap HA3.out.it]; rfl); have qu4 : (w3.alloc (.cells #[.string ⟨#[115, 97, 109, 112, 108, 101]⟩, .string ⟨#[100, 114, 111, 112]⟩, .string ⟨#[116, 111, 111, 45, 108, 111, 110, 103]⟩] 9)).cell? ⟨w.heap.size, 4, none⟩ = some (.int .i64 0) := (by rw [Lib.cell_of_heap HA3.out.it]; rfl); have qu5 : (w3.alloc (.cells #[.string ⟨#[115, 97, 109, 112, 108, 101]⟩, .string ⟨#[100, 114, 111, 112]⟩, .string ⟨#[116, 111, 111, 45, 108, 111, 110, 103]⟩] 9)).cell? ⟨w.heap.size, 5, none⟩ = some (.slice none 0 0) := (by rw [Lib.cell_of_heap HA3.out.it]; rfl); have qu6 : (w3.alloc (.cells #[.string ⟨#[115, 97, 109, 112, 108, 101]⟩, .string ⟨#[100, 114, 111, 112]⟩, .string ⟨#[116, 111, 111, 45, 108, 111, 110, 103]⟩] 9)).cell? ⟨w.heap.size, 6, none⟩ = some (.int .i64 0) := (by rw [Lib.cell_of_heap HA3.out.it]; rfl); have qu7 : (w3.alloc (.cells #[.string ⟨#[115, 97, 109, 112, 108, 101]⟩, .string ⟨#[100, 114, 111, 112]⟩, .string ⟨#[116, 111, 111, 45, 108, 111, 110, 103]⟩] 9)).cell? ⟨w.heap.size, 7, none⟩ = some (.int .i64 0) := (by rw [Lib.cell_of_heap HA3.out.it]; rfl); have qu8 : (w3.alloc (.cells #[.string ⟨#[115, 97, 109, 112, 108, 101]⟩, .string ⟨#[100, 114, 111, 112]⟩, .string ⟨#[116, 111, 111, 45, 108, 111, 110, 103]⟩] 9)).cell? ⟨w.heap.size, 8, none⟩ = some (.string ⟨#[]⟩) := (by rw [Lib.cell_of_heap HA3.out.it]; rfl); have qu9 : (w3.alloc (.cells #[.string ⟨#[115, 97, 109, 112, 108, 101]⟩, .string ⟨#[100, 114, 111, 112]⟩, .string ⟨#[116, 111, 111, 45, 108, 111, 110, 103]⟩] 9)).cell? ⟨w.heap.size, 9, none⟩ = some (.string ⟨#[]⟩) := (by rw [Lib.cell_of_heap HA3.out.it]; rfl); have qu10 : (w3.alloc (.cells #[.string ⟨#[115, 97, 109, 112, 108, 101]⟩, .string ⟨#[100, 114, 111, 112]⟩, .string ⟨#[116, 111, 111, 45, 108, 111, 110, 103]⟩] 9)).cell? ⟨w.heap.size, 10, none⟩ = some (.slice none 0 0) := (by rw [Lib.cell_of_heap HA3.out.it]; rfl); have qf0 : (w3.alloc (.cells #[.string ⟨#[115, 97, 109, 112, 108, 101]⟩, .string ⟨#[100, 114, 111, 112]⟩, .string ⟨#[116, 111, 111, 45, 108, 111, 110, 103]⟩] 9)).frozen? ⟨w.heap.size, 0, none⟩ = false := frz0 HA3.out.it 0; have qf1 : (w3.alloc (.cells #[.string ⟨#[115, 97, 109, 112, 108, 101]⟩, .string ⟨#[100, 114, 111, 112]⟩, .string ⟨#[116, 111, 111, 45, 108, 111, 110, 103]⟩] 9)).frozen? ⟨w.heap.size, 1, none⟩ = false := frz0 HA3.out.it 1; have qf2 : (w3.alloc (.cells #[.string ⟨#[115, 97, 109, 112, 108, 101]⟩, .string ⟨#[100, 114, 111, 112]⟩, .string ⟨#[116, 111, 111, 45, 108, 111, 110, 103]⟩] 9)).frozen? ⟨w.heap.size, 2, none⟩ = false := frz0 HA3.out.it 2; have qf3 : (w3.alloc (.cells #[.string ⟨#[115, 97, 109, 112, 108, 101]⟩, .string ⟨#[100, 114, 111, 112]⟩, .string ⟨#[116, 111, 111, 45, 108, 111, 110, 103]⟩] 9)).frozen? ⟨w.heap.size, 3, none⟩ = false := frz0 HA3.out.it 3; have qf4 : (w3.alloc (.cells #[.string ⟨#[115, 97, 109, 112, 108, 101]⟩, .string ⟨#[100, 114, 111, 112]⟩, .string ⟨#[116, 111, 111, 45, 108, 111, 110, 103]⟩] 9)).frozen? ⟨w.heap.size, 4, none⟩ = false := frz0 HA3.out.it 4; have qf5 : (w3.alloc (.cells #[.string ⟨#[115, 97, 109, 112, 108, 101]⟩, .string ⟨#[100, 114, 111, 112]⟩, .string ⟨#[116, 111, 111, 45, 108, 111, 110, 103]⟩] 9)).frozen? ⟨w.heap.size, 5, none⟩ = false := frz0 HA3.out.it 5; have qf6 : (w3.alloc (.cells #[.string ⟨#[115, 97, 109, 112, 108, 101]⟩, .string ⟨#[100, 114, 111, 112]⟩, .string ⟨#[116, 111, 111, 45, 108, 111, 110, 103]⟩] 9)).frozen? ⟨w.heap.size, 6, none⟩ = false := frz0 HA3.out.it 6; have qf7 : (w3.alloc (.cells #[.string ⟨#[115, 97, 109, 112, 108, 101]⟩, .string ⟨#[100, 114, 111, 112]⟩, .string ⟨#[116, 111, 111, 45, 108, 111, 110, 103]⟩] 9)).frozen? ⟨w.heap.size, 7, none⟩ = false := frz0 HA3.out.it 7; have qf8 : (w3.alloc (.cells #[.string ⟨#[115, 97, 109, 112, 108, 101]⟩, .string ⟨#[100, 114, 111, 112]⟩, .string ⟨#[116, 111, 111, 45, 108, 111, 110, 103]⟩] 9)).frozen? ⟨w.heap.size, 8, none⟩ = false := frz0 HA3.out.it 8; have qf9 : (w3.alloc (.cells #[.string ⟨#[115, 97, 109, 112, 108, 101]⟩, .string ⟨#[100, 114, 111, 112]⟩, .string ⟨#[116, 111, 111, 45, 108, 111, 110, 103]⟩] 9)).frozen? ⟨w.heap.size, 9, none⟩ = false := frz0 HA3.out.it 9; have qf10 : (w3.alloc (.cells #[.string ⟨#[115, 97, 109, 112, 108, 101]⟩, .string ⟨#[100, 114, 111, 112]⟩, .string ⟨#[116, 111, 111, 45, 108, 111, 110, 103]⟩] 9)).frozen? ⟨w.heap.size, 10, none⟩ = false := frz0 HA3.out.it 10; clear hca hap hyw))
      all_goals (go_wp2_with fail)
      all_goals
       first
        | rw [nest11 w3]; exact HE3.out.ret11 HGW.out _ _ rfl y (by rfl) (fun W' _ _ hc ha => HFIN.out W' w3 y hyl.1 HE3.out hc ha)
        | rw [nest11 (w3.alloc _)]; exact HA3.out.ret11 HGW.out _ _ rfl y (by rfl) (fun W' _ _ hc ha => HFIN.out W' w3 y hyl.1 HE3.out hc ha)
   ·have z4 : ((q : Int) == 4) = false := by rw [beq_eq_false_iff_ne]; omega
    clear q4
    go_wp2_with fail
    refine (dtime_any g w2 HE1.out.codes).mono ?_
    rintro e w3 ⟨tm, htm, rfl, hca, hap⟩
    have HE3 := Lib.hid (HE1.out.go HGW.out hap hca)
    have HO3 := Lib.hid (HO1.out.keep (fun k hk hl => hap.block (by have := HGW.out; omega) hl) (fun _ _ h => h))
    clear hca hap HE1 HO1
    go_wp2_with fail
    refine (dweight_any g w3 HE3.out.codes).mono ?_
    rintro e w4 ⟨wt, hwt, rfl, hca, hap⟩
    have HE4 := Lib.hid (HE3.out.go HGW.out hap hca)
    have HO4 := Lib.hid (HO3.out.keep (fun k hk hl => hap.block (by have := HGW.out; omega) hl) (fun _ _ h => h))
    clear hca hap HE3 HO3
    have c5 : w4.cell? ⟨w.heap.size + 1, 5, none⟩ = some (.int .i64 0) := HE4.out.cell 5 rfl
    have c6 : w4.cell? ⟨w.heap.size + 1, 6, none⟩ = some (.int .i64 0) := HE4.out.cell 6 rfl
    have f5 := HE4.out.fz 5
    have f6 := HE4.out.fz 6
    have hE5 := HE4.out.set (E' := ⟨h, f, fr, t, .slice la m lc, tm, 0, [], [], .slice none 0 0⟩) HGW.out 5 (.int .i64 tm) rfl
    have hE6 := hE5.set (E' := ⟨h, f, fr, t, .slice la m lc, tm, wt, [], [], .slice none 0 0⟩) HGW.out 6 (.int .i64 wt) rfl
    have c6' : (w4.setCell ⟨w.heap.size + 1, 5, none⟩ (.int .i64 tm)).cell? ⟨w.heap.size + 1, 6, none⟩ = some (.int .i64 0) := hE5.cell 6 rfl
    have f6' : (w4.setCell ⟨w.heap.size + 1, 5, none⟩ (.int .i64 tm)).frozen? ⟨w.heap.size + 1, 6, none⟩ = false := hE5.fz 6
    have HE5 := Lib.hid hE6
    have HO5 := Lib.hid ((HO4.out.keep (W' := w4.setCell ⟨w.heap.size + 1, 5, none⟩ (.int .i64 tm)) (fun b hb _ => Deep.blk_setCell_other _ _ _ _ (by show b ≠ w.heap.size + 1; omega)) (fun _ _ h => h)).keep (W' := (w4.setCell ⟨w.heap.size + 1, 5, none⟩ (.int .i64 tm)).setCell ⟨w.heap.size + 1, 6, none⟩ (.int .i64 wt)) (fun b hb _ => Deep.blk_setCell_other _ _ _ _ (by show b ≠ w.heap.size + 1; omega)) (fun _ _ h => h))
    clear hE5 hE6 HE4 HO4
    go_upto_region 18 with fail
    clear c5 c6 f5 f6 c6' f6'
    obtain ⟨wr, hwr⟩ : ∃ wr, (w4.setCell ⟨w.heap.size + 1, 5, none⟩ (.int .i64 tm)).setCell ⟨w.heap.size + 1, 6, none⟩ (.int .i64 wt) = wr := ⟨_, rfl⟩
    rw [hwr] at HE5 HO5 ⊢
    clear hwr
    go_cut [] (fun wx => ∃ tr st : List UInt8, tr.length ≤ 10 ∧ st.length ≤ 10 ∧ Hid (IS w g ⟨h, f, fr, t, .slice la m lc, tm, wt, tr, st, .slice none 0 0⟩ wx) ∧ Hid (OR (w.heap.size + 2) 50 3 LnR wx ls (.slice la m lc)))
    case first =>
     have HED := Lib.hid (HE5.out.dr HGW.out)
     have HG := Lib.hid (Nat.lt_of_lt_of_le (show g < w.heap.size + 2 by have := HGW.out; omega) HE5.out.big)
     have HK0 := Lib.hid (LKp.refl w wr)
     go_region_with (first
      | (go_at_call_of 21 (Value.int .i64 4); refine (next_any g 4 _ (by first | exact HED.out.codes | exact HED.out.codes.al _ | exact (HED.out.codes.al _).al _) (by omega) (by omega)).mono ?_; rintro e w5 ⟨k, hk, rfl, hca, hap⟩; have HAP := Lib.hid hap; clear hap; have i1 : (k : Int) < 4 := (by omega); have i2 : (0 : Int) ≤ (k : Int) := (by omega); obtain ⟨y, hyl, hyw, hyq⟩ := trace_at k hk; have HYW := Lib.hid hyw; clear hyw; have HE5 : Hid (IS w g ⟨h, f, fr, t, .slice la m lc, tm, wt, [], [], .slice none 0 0⟩ w5) := (by first | exact HED.out.go HGW.out HAP.out hca | exact (HED.out.al HGW.out _).go HGW.out HAP.out hca | exact ((HED.out.al HGW.out _).al HGW.out _).go HGW.out HAP.out hca); have HK5 : Hid (LKp w wr w5) := Lib.hid (by first | exact (HK0.out.dr).apart (by have := HGW.out; omega) HAP.out | exact ((HK0.out.dr).al _).apart (by have := HGW.out; omega) HAP.out | exact (((HK0.out.dr).al _).al _).apart (by have := HGW.out; omega) HAP.out); have hl5 : w.heap.size + 1 < w5.heap.size := HE5.out.big; have hl5z : w.heap.size < w5.heap.size := Nat.lt_of_succ_lt hl5; have HG5 := Lib.hid HE5.out.codes.1; clear hca; (try (have hp1 : Has w5 (wr.heap.size) k y := (by first | exact (Has.new (W := wr.drew) (o := traceO) HYW.out).go HAP.out HG.out | exact (Has.al (Has.new (W := wr.drew) (o := traceO) HYW.out) streamO).go HAP.out HG.out); have hp1a := hp1.1; have hp1b := hp1.2)); (try (have hp2 : Has w5 (wr.heap.size + 1) k y := (by first | exact (Has.new2 (W := wr.drew) (o := traceO) (o' := streamO) HYW.out).go HAP.out (Nat.lt_succ_of_lt HG.out)); have hp2a := hp2.1; have hp2b := hp2.2)); skip)
      | (go_at_call_of 21 (Value.int .i64 2); refine (next_any g 2 _ (by first | exact HE5.out.codes | exact HE5.out.codes.al _ | exact (HE5.out.codes.al _).al _) (by omega) (by omega)).mono ?_; rintro e w6 ⟨mq, hmq, rfl, hca, hap⟩; have HAP6 := Lib.hid hap; clear hap; have j1 : (mq : Int) < 2 := (by omega); have j2 : (0 : Int) ≤ (mq : Int) := (by omega); obtain ⟨z, hzl, hzw, hzq⟩ := stream_at mq hmq; have HZW := Lib.hid hzw; clear hzw; have HE6 : Hid (IS w g ⟨h, f, fr, t, .slice la m lc, tm, wt, [], [], .slice none 0 0⟩ w6) := (by first | exact HE5.out.go HGW.out HAP6.out hca | exact (HE5.out.al HGW.out _).go HGW.out HAP6.out hca | exact ((HE5.out.al HGW.out _).al HGW.out _).go HGW.out HAP6.out hca); have HK6 : Hid (LKp w wr w6) := Lib.hid (by first | exact HK5.out.apart (by have := HGW.out; omega) HAP6.out | exact (HK5.out.al _).apart (by have := HGW.out; omega) HAP6.out | exact ((HK5.out.al _).al _).apart (by have := HGW.out; omega) HAP6.out); have hl6 : w.heap.size + 1 < w6.heap.size := HE6.out.big; have hl6z : w.heap.size < w6.heap.size := Nat.lt_of_succ_lt hl6;  have B7 : ∀ o oo, ((w6.alloc o).alloc oo).cell? ⟨w.heap.size + 1, 7, none⟩ = some (.string ⟨#[]⟩) := (fun o oo => ((HE6.out.al HGW.out o).al HGW.out oo).cell 7 rfl); have B8 : ∀ o oo, ((w6.alloc o).alloc oo).cell? ⟨w.heap.size + 1, 8, none⟩ = some (.string ⟨#[]⟩) := (fun o oo => ((HE6.out.al HGW.out o).al HGW.out oo).cell 8 rfl); have F7 : ∀ o oo, ((w6.alloc o).alloc oo).frozen? ⟨w.heap.size + 1, 7, none⟩ = false := (fun o oo => ((HE6.out.al HGW.out o).al HGW.out oo).fz 7); have F8 : ∀ o oo, ((w6.alloc o).alloc oo).frozen? ⟨w.heap.size + 1, 8, none⟩ = false := (fun o oo => ((HE6.out.al HGW.out o).al HGW.out oo).fz 8); clear hca; have d7 := HE6.out.cell 7 (v := .string ⟨#[]⟩) rfl; have d8 := HE6.out.cell 8 (v := .string ⟨#[]⟩) rfl; have fd7 := HE6.out.fz 7; have fd8 := HE6.out.fz 8; (try (have hq1 : Has w6 (wr.heap.size) k y := (by first | exact hp1.go HAP6.out HG.out | exact (hp1.al _).go HAP6.out HG.out | exact ((hp1.al _).al _).go HAP6.out HG.out); have hq1a := hq1.1; have hq1b := hq1.2)); (try (have hq2 : Has w6 (wr.heap.size + 1) k y := (by first | exact hp2.go HAP6.out (Nat.lt_succ_of_lt HG.out) | exact (hp2.al _).go HAP6.out (Nat.lt_succ_of_lt HG.out)); have hq2a := hq2.1; have hq2b := hq2.2)); (try (have hq3 : Has w6 (w5.heap.size) k y := (by first | exact (Has.new (W := w5) (o := traceO) HYW.out).go HAP6.out HG5.out | exact (Has.al (Has.new (W := w5) (o := traceO) HYW.out) streamO).go HAP6.out HG5.out); have hq3a := hq3.1; have hq3b := hq3.2)); (try (have hq4 : Has w6 (w5.heap.size + 1) k y := (by first | exact (Has.new2 (W := w5) (o := traceO) (o' := streamO) HYW.out).go HAP6.out (Nat.lt_succ_of_lt HG5.out)); have hq4a := hq4.1; have hq4b := hq4.2)); (try (have hr1 : Has w6 (wr.heap.size) mq z := (by first | exact ((Has.new (W := wr.drew) (o := streamO) HZW.out).go HAP.out HG.out).go HAP6.out HG.out | exact (((Has.new (W := wr.drew) (o := streamO) HZW.out).go HAP.out HG.out).al _).go HAP6.out HG.out | exact ((Has.al (Has.new (W := wr.drew) (o := streamO) HZW.out) traceO).go HAP.out HG.out).go HAP6.out HG.out | exact (((Has.al (Has.new (W := wr.drew) (o := streamO) HZW.out) traceO).go HAP.out HG.out).al _).go HAP6.out HG.out); have hr1a := hr1.1; have hr1b := hr1.2)); (try (have hr2 : Has w6 (wr.heap.size + 1) mq z := (by first | exact ((Has.new2 (W := wr.drew) (o := streamO) (o' := traceO) HZW.out).go HAP.out (Nat.lt_succ_of_lt HG.out)).go HAP6.out (Nat.lt_succ_of_lt HG.out) | exact (((Has.new2 (W := wr.drew) (o := streamO) (o' := traceO) HZW.out).go HAP.out (Nat.lt_succ_of_lt HG.out)).al _).go HAP6.out (Nat.lt_succ_of_lt HG.out)); have hr2a := hr2.1; have hr2b := hr2.2)); (try (have hr3 : Has w6 (w5.heap.size) mq z := (by first | exact (Has.new (W := w5) (o := streamO) HZW.out).go HAP6.out HG5.out | exact (Has.al (Has.new (W := w5) (o := streamO) HZW.out) traceO).go HAP6.out HG5.out); have hr3a := hr3.1; have hr3b := hr3.2)); (try (have hr4 : Has w6 (w5.heap.size + 1) mq z := (by first | exact (Has.new2 (W := w5) (o := streamO) (o' := traceO) HZW.out).go HAP6.out (Nat.lt_succ_of_lt HG5.out)); have hr4a := hr4.1; have hr4b := hr4.2)); skip))
     all_goals (go_wp2_with fail)
     all_goals go_meet
     all_goals
      first
       | exact ⟨y, z, hyl, hzl, Lib.hid (HE6.out.two HGW.out y z), Lib.hid ((HK6.out.two y z).lines HO5.out)⟩
       | exact ⟨y, z, hyl, hzl, Lib.hid ((HE6.out.two HGW.out y z).al HGW.out _), Lib.hid (((HK6.out.two y z).al _).lines HO5.out)⟩
       | exact ⟨y, z, hyl, hzl, Lib.hid (((HE6.out.two HGW.out y z).al HGW.out _).al HGW.out _), Lib.hid ((((HK6.out.two y z).al _).al _).lines HO5.out)⟩
       | exact ⟨y, z, hyl, hzl, Lib.hid ((HE6.out.al HGW.out _).two HGW.out y z), Lib.hid (((HK6.out.al _).two y z).lines HO5.out)⟩
       | exact ⟨y, z, hyl, hzl, Lib.hid (((HE6.out.al HGW.out _).al HGW.out _).two HGW.out y z), Lib.hid ((((HK6.out.al _).al _).two y z).lines HO5.out)⟩
    case rest =>
     obtain ⟨tr, st, htr, hst, HE, HO⟩ := hcut
     clear HE5 HO5
     go_wp2_with fail
     refine (dfields_any g wc HE.out.codes).mono ?_
     rintro e w7 ⟨v, d, rfl, hor, hgf, hfn, hca, hap⟩
     have HE7 := Lib.hid (HE.out.go HGW.out hap hca)
     have HO7 := Lib.hid (HO.out.keep (fun k hk hl => hap.block (by have := HGW.out; omega) hl) (fun _ _ h => h))
     obtain ⟨fa, fc, hfv, _⟩ := hor.rw (F := fun _ => True) (fun _ _ => trivial)
     obtain ⟨nf, hnf⟩ : ∃ n, d.length = n := ⟨_, rfl⟩
     rw [hnf] at hfv
     subst hfv
     have hbg := HE.out.big
     have hown : ∀ k, (Value.slice fa nf fc).ownBlock = some k → wc.heap.size + 1 ≤ k := fun k hk => (hor.lt hk).1
     have HFM := Lib.hid (hor.rw (F := fun b => w.heap.size + 2 ≤ b) (fun b hb => by omega))
     have HFN := Lib.hid hfn
     have HGF := Lib.hid hgf
     have c9 : w7.cell? ⟨w.heap.size + 1, 9, none⟩ = some (.slice none 0 0) := HE7.out.cell 9 rfl
     have f9 := HE7.out.fz 9
     have hE8 := HE7.out.set (E' := ⟨h, f, fr, t, .slice la m lc, tm, wt, tr, st, .slice fa nf fc⟩) HGW.out 9 (.slice fa nf fc) rfl
     obtain ⟨W8, hW8⟩ : ∃ W8, w7.setCell ⟨w.heap.size + 1, 9, none⟩ (.slice fa nf fc) = W8 := ⟨_, rfl⟩
     have hb8 : ∀ k, k ≠ w.heap.size + 1 → W8.heap[k]? = w7.heap[k]? := fun k hk => by rw [← hW8]; exact Deep.blk_setCell_other _ _ _ _ hk
     have hs8 : W8.heap.size = w7.heap.size := by rw [← hW8, World.size_setCell]
     rw [hW8] at hE8
     have HE8 := Lib.hid hE8
     have HS8 := Lib.hid (And.intro hb8 hs8)
     have pd0 : W8.cell? ⟨w.heap.size + 1, 0, none⟩ = some (.int .i64 h) := HE8.out.cell 0 rfl
     have pd1 : W8.cell? ⟨w.heap.size + 1, 1, none⟩ = some (.int .i64 f) := HE8.out.cell 1 rfl
     have pd2 : W8.cell? ⟨w.heap.size + 1, 2, none⟩ = some (.int .i64 fr) := HE8.out.cell 2 rfl
     have pd3 : W8.cell? ⟨w.heap.size + 1, 3, none⟩ = some (.int .i64 t) := HE8.out.cell 3 rfl
     have pd4 : W8.cell? ⟨w.heap.size + 1, 4, none⟩ = some (.slice la m lc) := HE8.out.cell 4 rfl
     have pd5 : W8.cell? ⟨w.heap.size + 1, 5, none⟩ = some (.int .i64 tm) := HE8.out.cell 5 rfl
     have pd6 : W8.cell? ⟨w.heap.size + 1, 6, none⟩ = some (.int .i64 wt) := HE8.out.cell 6 rfl
     have pd7 : W8.cell? ⟨w.heap.size + 1, 7, none⟩ = some (.string ⟨tr.toArray⟩) := HE8.out.cell 7 rfl
     have pd8 : W8.cell? ⟨w.heap.size + 1, 8, none⟩ = some (.string ⟨st.toArray⟩) := HE8.out.cell 8 rfl
     have pd9 : W8.cell? ⟨w.heap.size + 1, 9, none⟩ = some (.slice fa nf fc) := HE8.out.cell 9 rfl
     have pu0 : W8.cell? ⟨w.heap.size, 0, none⟩ = some (.string ⟨#[]⟩) := (by rw [Lib.cell_of_heap HE8.out.it]; rfl)
     have pu1 : W8.cell? ⟨w.heap.size, 1, none⟩ = some (.int .i64 0) := (by rw [Lib.cell_of_heap HE8.out.it]; rfl)
     have pu2 : W8.cell? ⟨w.heap.size, 2, none⟩ = some (.int .i64 0) := (by rw [Lib.cell_of_heap HE8.out.it]; rfl)
     have pu3 : W8.cell? ⟨w.heap.size, 3, none⟩ = some (.int .i64 0) := (by rw [Lib.cell_of_heap HE8.out.it]; rfl)
     have pu4 : W8.cell? ⟨w.heap.size, 4, none⟩ = some (.int .i64 0) := (by rw [Lib.cell_of_heap HE8.out.it]; rfl)
     have pu5 : W8.cell? ⟨w.heap.size, 5, none⟩ = some (.slice none 0 0) := (by rw [Lib.cell_of_heap HE8.out.it]; rfl)
     have pu6 : W8.cell? ⟨w.heap.size, 6, none⟩ = some (.int .i64 0) := (by rw [Lib.cell_of_heap HE8.out.it]; rfl)
     have pu7 : W8.cell? ⟨w.heap.size, 7, none⟩ = some (.int .i64 0) := (by rw [Lib.cell_of_heap HE8.out.it]; rfl)
     have pu8 : W8.cell? ⟨w.heap.size, 8, none⟩ = some (.string ⟨#[]⟩) := (by rw [Lib.cell_of_heap HE8.out.it]; rfl)
     have pu9 : W8.cell? ⟨w.heap.size, 9, none⟩ = some (.string ⟨#[]⟩) := (by rw [Lib.cell_of_heap HE8.out.it]; rfl)
     have pu10 : W8.cell? ⟨w.heap.size, 10, none⟩ = some (.slice none 0 0) := (by rw [Lib.cell_of_heap HE8.out.it]; rfl)
     have pf0 : W8.frozen? ⟨w.heap.size, 0, none⟩ = false := frz0 HE8.out.it 0
     have pf1 : W8.frozen? ⟨w.heap.size, 1, none⟩ = false := frz0 HE8.out.it 1
     have pf2 : W8.frozen? ⟨w.heap.size, 2, none⟩ = false := frz0 HE8.out.it 2
     have pf3 : W8.frozen? ⟨w.heap.size, 3, none⟩ = false := frz0 HE8.out.it 3
     have pf4 : W8.frozen? ⟨w.heap.size, 4, none⟩ = false := frz0 HE8.out.it 4
     have pf5 : W8.frozen? ⟨w.heap.size, 5, none⟩ = false := frz0 HE8.out.it 5
     have pf6 : W8.frozen? ⟨w.heap.size, 6, none⟩ = false := frz0 HE8.out.it 6
     have pf7 : W8.frozen? ⟨w.heap.size, 7, none⟩ = false := frz0 HE8.out.it 7
     have pf8 : W8.frozen? ⟨w.heap.size, 8, none⟩ = false := frz0 HE8.out.it 8
     have pf9 : W8.frozen? ⟨w.heap.size, 9, none⟩ = false := frz0 HE8.out.it 9
     have pf10 : W8.frozen? ⟨w.heap.size, 10, none⟩ = false := frz0 HE8.out.it 10
     have hwt2 : (wt : Int) = 1 ∨ (wt : Int) = 2 ∨ (wt : Int) = 5 ∨ (wt : Int) = 10 ∨ (wt : Int) = 5040 := by rcases hwt with rfl | rfl | rfl | rfl | rfl <;> simp
     have HFIN : Hid (∀ W', W'.heap.size = W8.heap.size → (∀ k, k ≠ w.heap.size → W'.heap[k]? = W8.heap[k]?) → CodesAt W' g → Apart g w W' → ItemP g h f fr w (.returned (.agg (itC [] ⟨h, f, fr, t, .slice la m lc, tm, wt, tr, st, .slice fa nf fc⟩))) W') := Lib.hid (fun W' hsz hk hc ha => by
      have hkeep : ∀ b, w.heap.size + 2 ≤ b → b < w7.heap.size → W'.heap[b]? = w7.heap[b]? := fun b h1 h2 => (hk b (by omega)).trans (HS8.out.1 b (by omega))
      refine ⟨[], _, rfl, hc, ha, ⟨by show fr < t; omega, by show t ≤ fr + 186; omega⟩, ⟨⟨_, _, _, rfl⟩, ⟨_, _, _, rfl⟩⟩, fun _ => ⟨ls, d, ?_⟩⟩
      exact ⟨rfl, rfl, rfl, HLG.out, by rw [HM.out]; omega, (HO7.out.keep hkeep (fun _ _ h => h)).rw (fun b hb => by omega), HFM.out.go ⟨by rw [hsz, HS8.out.2]; omega, fun b hb hl => ⟨by omega, hkeep b hb hl⟩⟩ (fun _ _ h => h), HGF.out, HFN.out, ⟨by show (0 : Int) ≤ (tm : Int); omega, by show (tm : Int) ≤ _; omega⟩, hwt2, htr, hst⟩)
     clear hor hgf hca hap hE8 hb8 hs8 hbg hown hnf hwt2 hfn
     go_wp2_with fail
     rw [nest11 W8]
     exact HE8.out.ret11 HGW.out _ _ rfl [] (by rfl) HFIN.out
  | succ j =>
   have hj0 : (0 : Int) < (j : Int) + 1 := by omega
   go_wp2_with fail
   refine (dtext_any g wr HN.out.is.codes).mono ?_
   rintro e w2 ⟨x, hx, rfl, hca, hap⟩
   have HN2 := Lib.hid (HN.out.go HGW.out hap hca)
   clear hca hap
   go_wp2_with fail
   refine (next_any g 2 w2 HN2.out.is.codes (by omega) (by omega)).mono ?_
   rintro e w3 ⟨q, hq, rfl, hca, hap⟩
   have HN3 := Lib.hid (HN2.out.go HGW.out hap hca)
   clear hca hap HN HN2
   have hbig := HN3.out.is.big
   obtain ⟨i0, hi, hz0, hz1, hz2⟩ := info_parts infoLn
   obtain ⟨cl, hown, hpush⟩ := HN3.out.own.cells
   rw [HM.out] at hown hpush
   simp only at hown
   obtain ⟨y, hy⟩ : ∃ y : Int, (x.length : Int) + 1 + (q : Int) = y := ⟨_, rfl⟩
   obtain ⟨Wd, hWd⟩ : ∃ Wd, w3.alloc (.cells #[.int .i64 t, .int .i64 y, .string ⟨x.toArray⟩] 50) = Wd := ⟨_, rfl⟩
   have hdb : Below w3.heap.size w3 Wd := by rw [← hWd]; exact (Below.refl w3.heap.size w3).alloc (Nat.le_refl _) _
   have hds : Wd.heap.size = w3.heap.size + 1 := by rw [← hWd, Deep.nblk_alloc]
   have hnb : Wd.heap[w3.heap.size]? = some (.cells #[.int .i64 t, .int .i64 y, .string ⟨x.toArray⟩] 50 (0, 0)) := by rw [← hWd]; exact Deep.blk_alloc_new w3 _
   have hownd := own_block hown fun b hb => hdb.block b (own_lt hown hb)
   obtain ⟨gv', We, hrun, hown2, hgr, _, hnew⟩ := run_append_own2 (P := Tryz.prog) (w := Wd) (w.heap.size + 2) 41 41 50 i0 (.agg #[.int .i64 0, .int .i64 0, .string ⟨#[]⟩]) 3 32 Tryz.underlying41 hi hz0 hz1 hz2 rfl (by decide) (.slice la m lc) m cl hownd ⟨w3.heap.size, 0, none⟩ 1 1 [.int .i64 t, .int .i64 y, .string ⟨x.toArray⟩] rfl (World.news_of_block hnb) (by intro u hu; simp only [List.mem_cons, List.not_mem_nil, or_false] at hu; rcases hu with rfl | rfl | rfl <;> rfl) (by unfold maxLen; omega) (by omega) (by omega)
   obtain ⟨a5, c5, hg5⟩ : ∃ a c, gv' = .slice a (m + 1) c := by
    obtain ⟨_, ⟨h1, h2⟩ | ⟨q, cap, cur, h1, _⟩⟩ := hown2
    ·omega
    ·exact ⟨_, _, h1⟩
   subst hg5
   have hB : Below (w.heap.size + 2) w3 We := (hdb.mono hbig).grown hgr (by omega) (fun b hb => by
    have := HN3.out.own.lt (j := b) (by rw [show ({ evI h f fr with lv := Value.slice la m lc } : Ev).lv = .slice la m lc from rfl]; exact hb)
    exact this.1)
   have hISe := HN3.out.is.on HGW.out hB
   have hISn := hISe.set (E' := { evI h f fr with lv := .slice a5 (m + 1) c5 }) HGW.out 4 (.slice a5 (m + 1) c5) rfl
   have hor5 : OR (w.heap.size + 2) 50 3 LnR We (ls ++ [(t, y, x)]) (.slice a5 (m + 1) c5) := hpush LnR We (t, y, x) _ _ (fun _ _ h => h) rfl rfl (by omega) hown2
   have k1 : w3.cell? ⟨w.heap.size + 1, 4, none⟩ = some (.slice la m lc) := HN3.out.is.cell 4 rfl
   have k2 : Wd.cell? ⟨w.heap.size + 1, 4, none⟩ = some (.slice la m lc) := (hdb.cell (p := ⟨w.heap.size + 1, 4, none⟩) (by show w.heap.size + 1 < w3.heap.size; omega)).trans k1
   have k3 : We.cell? ⟨w.heap.size + 1, 4, none⟩ = some (.slice la m lc) := hISe.cell 4 rfl
   have k4 := hISe.fz 4
   have HLN : Hid (LS w g { evI h f fr with lv := .slice a5 (m + 1) c5 } fr (t + y) (ls ++ [(t, y, x)]) (We.setCell ⟨w.heap.size + 1, 4, none⟩ (.slice a5 (m + 1) c5))) := Lib.hid ⟨hISn, hor5.keep (fun b hb _ => Deep.blk_setCell_other _ _ _ _ (by show b ≠ w.heap.size + 1; omega)) (fun _ _ h => h), HN3.out.lines.snoc y x (by omega) (by omega) hx⟩
   have hyb : 1 ≤ y ∧ y ≤ 62 := by omega
   obtain ⟨hy1, hy2⟩ := hyb
   have HMM := Lib.hid (show (ls ++ [((t, y, x) : Ln)]).length = m + 1 by rw [List.length_append, HM.out]; rfl)
   clear hi hz0 hz1 hz2 hown hpush hdb hds hnb hownd hown2 hgr hnew hB hISe hISn hor5
   go_wp2_with (at_builtin; refine wpList_append_run rfl _ _ _ rfl _ _ _ rfl rfl hrun ?_)
   exact ⟨⟨t + y, j, ls ++ [(t, y, x)], .slice a5 (m + 1) c5, rfl, rfl, by rw [HMM.out]; omega, by rw [HMM.out]; omega, by rw [HMM.out]; omega, by rw [HMM.out]; omega, HLN⟩, by simp [intOf]⟩
end Go.Proofs.YtmpbjaodgajnfaaGreatDoor

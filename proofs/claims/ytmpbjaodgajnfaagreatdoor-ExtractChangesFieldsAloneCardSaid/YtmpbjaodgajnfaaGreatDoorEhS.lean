/-
 Joined: PzD, NumK.
-/
import Derived.Test.YtmpbjaodgajnfaaGreatDoorEhR
import Derived.Test.YtmpbjaodgajnfaaGreatDoorEhA
import Derived.Lib.ItoaNum
namespace Go.Proofs.YtmpbjaodgajnfaaGreatDoor
open Go.RowKit
def dwsL : List UInt8 := [100, 119, 115]
theorem itz_ret {fn : Func} {p t u : Tmp} (hfn : fn.results = #[.cell p 213, .tmp t, .tmp u]) {w W : World} {f : Nat → Bool} (hg : W.heap[w.heap.size]? = some (.cells (setA f) 213 (0, 0))) {tmps : Array Value} (hp : tmps.getD p undef = .pointer (some ⟨w.heap.size, 0, none⟩)) {b : Nat} {l : List UInt8} {r : Out ((Nat → Bool) × Nat × Bool)} {c : Nat} {one : Bool} {j e : Nat}
  (h1 : tmps.getD t undef = .int .u8 (c : Int)) (h2 : tmps.getD u undef = .bool one) (hq : ZQ b l j e w W) (hc : c < 256) (hr : fits r (f, c, one) j e) : bodyPost Tryz.prog fn (EscZ b l r w) Exit.ret { tmps := tmps, defers := [] } W :=
 ret_set3 hfn hg rfl hp ⟨f, c, one, j, e, by rw [h1, h2], hq, hc, hr⟩
set_option maxHeartbeats 8000000 in
set_option maxRecDepth 1000000 in
theorem itz_bend (b : Nat) (l : List UInt8) (i : Nat) (sg : Bool) (w : World) (h : ZS b l i 0 w) (hc : Asc.at_ l i = 92) (hx : Asc.at_ l (i + 1) = 999) : Calls Tryz.prog 166 #[.pointer (some ⟨b, 0, none⟩), .bool sg] w (EscZ b l (escM l (i + 1)) w) := by
 have hv := (zero_of_info infoS).1
 have hbb := h.st.lt
 have H := Lib.hid h
 have HT := Lib.hid fun W (hW : ZS b l i 0 W) => ztakes_yes b l i W hW 92 hc (by decide)
 have hi1 : i < l.length := Asc.at_lt (by omega)
 have HN := Lib.hid fun W (hW : ZS b l (i + 1) 0 W) => znext_no b l (i + 1) 0 W hW hx
 have HE := Lib.hid fun W (hW : ZS b l (i + 1) 0 W) => esc_any b l (i + 1) W hW
 clear hc hx
 clear h
 go_enter Tryz.func166, Tryz.ntmps166
 go_wp2_with fail
 rw [← setA_false]
 have HQ0 := Lib.hid ((ZQ.refl H.out).on (al_below w (.cells (setA (fun _ => false)) 213)))
 have HB0 := Lib.hid (heap_alloc_new w (.cells (setA (fun _ => false)) 213))
 have hg0 : w.heap.size < (w.alloc (.cells (setA (fun _ => false)) 213)).heap.size := by simp
 refine (HT.out _ HQ0.out.ps).mono ?_
 rintro e w1 ⟨rfl, hq⟩
 have HQ1 := Lib.hid (HQ0.out.trans hq)
 have HB1 := Lib.hid ((hq.ap.block (k := w.heap.size) (by omega) (Array.getElem?_eq_some_iff.1 HB0.out).1).trans HB0.out)
 clear hq HQ0 HB0
 go_wp2_with fail
 refine (HN.out _ HQ1.out.ps).mono ?_
 rintro e w2 ⟨rfl, hq⟩
 have HQ2 := Lib.hid (HQ1.out.trans hq)
 have HB2 := Lib.hid ((hq.ap.block (k := w.heap.size) (by omega) (Array.getElem?_eq_some_iff.1 HB1.out).1).trans HB1.out)
 clear hq HQ1 HB1
 go_wp2_with fail
 refine (HE.out _ HQ2.out.ps).mono ?_
 rintro e w3 ⟨f, c, one, j, e, rfl, hq, hc8, hr⟩
 have HQ3 := Lib.hid (HQ2.out.trans hq)
 have HB3 := Lib.hid ((hq.ap.block (k := w.heap.size) (by omega) (Array.getElem?_eq_some_iff.1 HB2.out).1).trans HB2.out)
 clear hq HQ2 HB2
 obtain ⟨w9, e9, h9, hb9, e9'⟩ := put_set2 HB3.out f
 have HQ9 := Lib.hid (HQ3.out.far (hb9.mono (Nat.le_refl _)) hbb)
 clear hb9
 go_wp2_with fail
 exact itz_ret rfl h9 rfl rfl rfl HQ9.out hc8 hr
set_option maxHeartbeats 8000000 in
set_option maxRecDepth 1000000 in
theorem itz_bany (b : Nat) (l : List UInt8) (i : Nat) (w : World) (h : ZS b l i 0 w) (hc : Asc.at_ l i = 92) (x : UInt8) (hx : Asc.at_ l (i + 1) = x.toNat) : Calls Tryz.prog 166 #[.pointer (some ⟨b, 0, none⟩), .bool false] w (EscZ b l (escM l (i + 1)) w) := by
 have hv := (zero_of_info infoS).1
 have hbb := h.st.lt
 have H := Lib.hid h
 have HT := Lib.hid fun W (hW : ZS b l i 0 W) => ztakes_yes b l i W hW 92 hc (by decide)
 have hi1 : i < l.length := Asc.at_lt (by omega)
 have hx8 : x.toNat < 256 := UInt8.toNat_lt x
 have HN := Lib.hid fun W (hW : ZS b l (i + 1) 0 W) => znext_ok b l (i + 1) W hW x.toNat hx hx8
 have HE := Lib.hid fun W (hW : ZS b l (i + 1) 0 W) => esc_any b l (i + 1) W hW
 clear hc hx
 clear h
 go_enter Tryz.func166, Tryz.ntmps166
 go_wp2_with fail
 rw [← setA_false]
 have HQ0 := Lib.hid ((ZQ.refl H.out).on (al_below w (.cells (setA (fun _ => false)) 213)))
 have HB0 := Lib.hid (heap_alloc_new w (.cells (setA (fun _ => false)) 213))
 have hg0 : w.heap.size < (w.alloc (.cells (setA (fun _ => false)) 213)).heap.size := by simp
 refine (HT.out _ HQ0.out.ps).mono ?_
 rintro e w1 ⟨rfl, hq⟩
 have HQ1 := Lib.hid (HQ0.out.trans hq)
 have HB1 := Lib.hid ((hq.ap.block (k := w.heap.size) (by omega) (Array.getElem?_eq_some_iff.1 HB0.out).1).trans HB0.out)
 clear hq HQ0 HB0
 go_wp2_with fail
 refine (HN.out _ HQ1.out.ps).mono ?_
 rintro e w2 ⟨rfl, hq⟩
 have HQ2 := Lib.hid (HQ1.out.trans hq)
 have HB2 := Lib.hid ((hq.ap.block (k := w.heap.size) (by omega) (Array.getElem?_eq_some_iff.1 HB1.out).1).trans HB1.out)
 clear hq HQ1 HB1
 go_wp2_with fail
 refine (HE.out _ HQ2.out.ps).mono ?_
 rintro e w3 ⟨f, c, one, j, e, rfl, hq, hc8, hr⟩
 have HQ3 := Lib.hid (HQ2.out.trans hq)
 have HB3 := Lib.hid ((hq.ap.block (k := w.heap.size) (by omega) (Array.getElem?_eq_some_iff.1 HB2.out).1).trans HB2.out)
 clear hq HQ2 HB2
 obtain ⟨w9, e9, h9, hb9, e9'⟩ := put_set2 HB3.out f
 have HQ9 := Lib.hid (HQ3.out.far (hb9.mono (Nat.le_refl _)) hbb)
 clear hb9
 go_wp2_with fail
 exact itz_ret rfl h9 rfl rfl rfl HQ9.out hc8 hr
set_option maxHeartbeats 8000000 in
set_option maxRecDepth 1000000 in
theorem itz_bone (b : Nat) (l : List UInt8) (i : Nat) (w : World) (h : ZS b l i 0 w) (hc : Asc.at_ l i = 92) (x : UInt8) (hx : Asc.at_ l (i + 1) = x.toNat) (hn : x ∉ dwsL) : Calls Tryz.prog 166 #[.pointer (some ⟨b, 0, none⟩), .bool true] w (EscZ b l (escM l (i + 1)) w) := by
 have hv := (zero_of_info infoS).1
 have hbb := h.st.lt
 have H := Lib.hid h
 have HT := Lib.hid fun W (hW : ZS b l i 0 W) => ztakes_yes b l i W hW 92 hc (by decide)
 have hi1 : i < l.length := Asc.at_lt (by omega)
 have hx8 : x.toNat < 256 := UInt8.toNat_lt x
 have HN := Lib.hid fun W (hW : ZS b l (i + 1) 0 W) => znext_ok b l (i + 1) W hW x.toNat hx hx8
 have HE := Lib.hid fun W (hW : ZS b l (i + 1) 0 W) => esc_any b l (i + 1) W hW
 have HI := Lib.hid fun W => (show Calls Tryz.prog 154 #[.string ⟨#[100, 119, 115]⟩, .int .u8 (x.toNat : Int)] W _ from ib_no dwsL x W hn)
 clear hc hx hn
 clear h
 go_enter Tryz.func166, Tryz.ntmps166
 go_wp2_with fail
 rw [← setA_false]
 have HQ0 := Lib.hid ((ZQ.refl H.out).on (al_below w (.cells (setA (fun _ => false)) 213)))
 have HB0 := Lib.hid (heap_alloc_new w (.cells (setA (fun _ => false)) 213))
 have hg0 : w.heap.size < (w.alloc (.cells (setA (fun _ => false)) 213)).heap.size := by simp
 refine (HT.out _ HQ0.out.ps).mono ?_
 rintro e w1 ⟨rfl, hq⟩
 have HQ1 := Lib.hid (HQ0.out.trans hq)
 have HB1 := Lib.hid ((hq.ap.block (k := w.heap.size) (by omega) (Array.getElem?_eq_some_iff.1 HB0.out).1).trans HB0.out)
 clear hq HQ0 HB0
 go_wp2_with fail
 refine (HN.out _ HQ1.out.ps).mono ?_
 rintro e w2 ⟨rfl, hq⟩
 have HQ2 := Lib.hid (HQ1.out.trans hq)
 have HB2 := Lib.hid ((hq.ap.block (k := w.heap.size) (by omega) (Array.getElem?_eq_some_iff.1 HB1.out).1).trans HB1.out)
 clear hq HQ1 HB1
 go_wp2_with fail
 refine (HI.out _).mono ?_
 rintro e wp ⟨rfl, rfl⟩
 go_wp2_with fail
 refine (HE.out _ HQ2.out.ps).mono ?_
 rintro e w3 ⟨f, c, one, j, e, rfl, hq, hc8, hr⟩
 have HQ3 := Lib.hid (HQ2.out.trans hq)
 have HB3 := Lib.hid ((hq.ap.block (k := w.heap.size) (by omega) (Array.getElem?_eq_some_iff.1 HB2.out).1).trans HB2.out)
 clear hq HQ2 HB2
 obtain ⟨w9, e9, h9, hb9, e9'⟩ := put_set2 HB3.out f
 have HQ9 := Lib.hid (HQ3.out.far (hb9.mono (Nat.le_refl _)) hbb)
 clear hb9
 go_wp2_with fail
 exact itz_ret rfl h9 rfl rfl rfl HQ9.out hc8 hr
set_option maxHeartbeats 8000000 in
set_option maxRecDepth 1000000 in
theorem itz_bset (b : Nat) (l : List UInt8) (i : Nat) (w : World) (h : ZS b l i 0 w) (hc : Asc.at_ l i = 92) (x : UInt8) (hx : Asc.at_ l (i + 1) = x.toNat) (hn : x ∈ dwsL) : Calls Tryz.prog 166 #[.pointer (some ⟨b, 0, none⟩), .bool true] w (EscZ b l (.error (i, 1)) w) := by
 have hv := (zero_of_info infoS).1
 have hbb := h.st.lt
 have H := Lib.hid h
 have HT := Lib.hid fun W (hW : ZS b l i 0 W) => ztakes_yes b l i W hW 92 hc (by decide)
 have hi1 : i < l.length := Asc.at_lt (by omega)
 have hx8 : x.toNat < 256 := UInt8.toNat_lt x
 have hl2 := h.len
 have hw : IntKind.i64.wrap (((i + 1 : Nat) : Int) - 1) = (i : Int) := by rw [show ((i + 1 : Nat) : Int) - 1 = (i : Int) by omega]; exact IntWalk.i64_in _ (by omega)
 have HN := Lib.hid fun W (hW : ZS b l (i + 1) 0 W) => znext_ok b l (i + 1) W hW x.toNat hx hx8
 have HF := Lib.hid fun W (hW : ZS b l i 0 W) => zfail b l i 0 1 W hW
 rw [if_pos rfl] at HF
 have HI := Lib.hid fun W => (show Calls Tryz.prog 154 #[.string ⟨#[100, 119, 115]⟩, .int .u8 (x.toNat : Int)] W _ from ib_yes dwsL x W hn)
 obtain ⟨K, hK⟩ : ∃ K, Asc.pos dwsL x = K := ⟨_, rfl⟩
 rw [hK] at HI
 have z0 : decide ((0 : Int) ≤ (K : Int)) = true := decide_eq_true (by omega)
 clear hK
 have HLE := Lib.hid (Nat.le_of_lt hi1)
 clear hc hx hn
 clear h
 go_enter Tryz.func166, Tryz.ntmps166
 go_wp2_with fail
 rw [← setA_false]
 have HQ0 := Lib.hid ((ZQ.refl H.out).on (al_below w (.cells (setA (fun _ => false)) 213)))
 have HB0 := Lib.hid (heap_alloc_new w (.cells (setA (fun _ => false)) 213))
 have hg0 : w.heap.size < (w.alloc (.cells (setA (fun _ => false)) 213)).heap.size := by simp
 refine (HT.out _ HQ0.out.ps).mono ?_
 rintro e w1 ⟨rfl, hq⟩
 have HQ1 := Lib.hid (HQ0.out.trans hq)
 have HB1 := Lib.hid ((hq.ap.block (k := w.heap.size) (by omega) (Array.getElem?_eq_some_iff.1 HB0.out).1).trans HB0.out)
 clear hq HQ0 HB0
 go_wp2_with fail
 refine (HN.out _ HQ1.out.ps).mono ?_
 rintro e w2 ⟨rfl, hq⟩
 have HQ2 := Lib.hid (HQ1.out.trans hq)
 have HB2 := Lib.hid ((hq.ap.block (k := w.heap.size) (by omega) (Array.getElem?_eq_some_iff.1 HB1.out).1).trans HB1.out)
 clear hq HQ1 HB1
 have c1 := HQ2.out.ps.c1
 have f1 := HQ2.out.ps.f1
 go_wp2_with fail
 refine (HI.out _).mono ?_
 rintro e wp ⟨rfl, rfl⟩
 go_wp2_with fail
 have HQ3 := Lib.hid (HQ2.out.trans (HQ2.out.ps.to i HLE.out))
 have HB3 := Lib.hid (show (w2.setCell ⟨b, 1, none⟩ (.int .i64 (i : Int))).heap[w.heap.size]? = _ from (Below.heap_setCell _ _ _ w.heap.size (by simp only; omega)).trans HB2.out)
 clear HQ2 HB2 c1 f1
 refine (HF.out _ HQ3.out.ps).mono ?_
 rintro e w8 ⟨rfl, hq⟩
 have HQ8 := Lib.hid (HQ3.out.trans hq)
 have h8 := (hq.ap.block (k := w.heap.size) (by omega) (Array.getElem?_eq_some_iff.1 HB3.out).1).trans HB3.out
 have e8 := put_self h8
 clear hq HQ3 HB3
 go_wp2_with fail
 refine wp_load_set _ rfl w.heap.size rfl _ _ h8 ?_
 go_wp2_with fail
 exact itz_ret rfl h8 rfl rfl rfl HQ8.out (by decide) (fits_err (by decide))
set_option maxHeartbeats 8000000 in
set_option maxRecDepth 1000000 in
theorem itz_end (b : Nat) (l : List UInt8) (i : Nat) (sg : Bool) (w : World) (h : ZS b l i 0 w) (hc : Asc.at_ l i = 999) : Calls Tryz.prog 166 #[.pointer (some ⟨b, 0, none⟩), .bool sg] w (EscZ b l (.error (i, 1)) w) := by
 have hv := (zero_of_info infoS).1
 have hbb := h.st.lt
 have H := Lib.hid h
 have hc0 : nxN l i 0 ≠ 92 := by rw [nxN_ok, hc]; decide
 have HT := Lib.hid fun W (hW : ZS b l i 0 W) => ztakes_no b l i 0 W hW 92 hc0
 have HN := Lib.hid fun W (hW : ZS b l i 0 W) => znext_no b l i 0 W hW hc
 have HF := Lib.hid fun W (hW : ZS b l i 0 W) => zfail b l i 0 1 W hW
 rw [if_pos rfl] at HF
 clear hc hc0
 clear h
 go_enter Tryz.func166, Tryz.ntmps166
 go_wp2_with fail
 rw [← setA_false]
 have HQ0 := Lib.hid ((ZQ.refl H.out).on (al_below w (.cells (setA (fun _ => false)) 213)))
 have HB0 := Lib.hid (heap_alloc_new w (.cells (setA (fun _ => false)) 213))
 have hg0 : w.heap.size < (w.alloc (.cells (setA (fun _ => false)) 213)).heap.size := by simp
 refine (HT.out _ HQ0.out.ps).mono ?_
 rintro e w1 ⟨rfl, hq⟩
 have HQ1 := Lib.hid (HQ0.out.trans hq)
 have HB1 := Lib.hid ((hq.ap.block (k := w.heap.size) (by omega) (Array.getElem?_eq_some_iff.1 HB0.out).1).trans HB0.out)
 clear hq HQ0 HB0
 go_wp2_with fail
 refine (HN.out _ HQ1.out.ps).mono ?_
 rintro e w2 ⟨rfl, hq⟩
 have HQ2 := Lib.hid (HQ1.out.trans hq)
 have HB2 := Lib.hid ((hq.ap.block (k := w.heap.size) (by omega) (Array.getElem?_eq_some_iff.1 HB1.out).1).trans HB1.out)
 clear hq HQ1 HB1
 go_wp2_with fail
 refine (HF.out _ HQ2.out.ps).mono ?_
 rintro e w8 ⟨rfl, hq⟩
 have HQ8 := Lib.hid (HQ2.out.trans hq)
 have h8 := (hq.ap.block (k := w.heap.size) (by omega) (Array.getElem?_eq_some_iff.1 HB2.out).1).trans HB2.out
 have e8 := put_self h8
 clear hq HQ2 HB2
 go_wp2_with fail
 refine wp_load_set _ rfl w.heap.size rfl _ _ h8 ?_
 go_wp2_with fail
 exact itz_ret rfl h8 rfl rfl rfl HQ8.out (by decide) (fits_err (by decide))
set_option maxHeartbeats 8000000 in
set_option maxRecDepth 1000000 in
theorem itz_odd (b : Nat) (l : List UInt8) (i : Nat) (sg : Bool) (w : World) (h : ZS b l i 0 w) (c : UInt8) (hc : Asc.at_ l i = c.toNat) (hc1 : c.toNat ≠ 92) (h1 : c.toNat < 32 ∨ 126 < c.toNat) : Calls Tryz.prog 166 #[.pointer (some ⟨b, 0, none⟩), .bool sg] w (EscZ b l (.error (i, 1)) w) := by
 have hv := (zero_of_info infoS).1
 have hbb := h.st.lt
 have H := Lib.hid h
 have hc0 : nxN l i 0 ≠ 92 := by rw [nxN_ok, hc]; exact hc1
 have hc8 : c.toNat < 256 := UInt8.toNat_lt c
 have HC8 := Lib.hid hc8
 have HT := Lib.hid fun W (hW : ZS b l i 0 W) => ztakes_no b l i 0 W hW 92 hc0
 have HN := Lib.hid fun W (hW : ZS b l i 0 W) => znext_ok b l i W hW c.toNat hc hc8
 have HF := Lib.hid fun W (hW : ZS b l i 0 W) => zfail b l i 0 1 W hW
 rw [if_pos rfl] at HF
 have HPR := Lib.hid fun W => printable_no c.toNat W h1
 clear hc hc0 hc1 h1 hc8
 clear h
 go_enter Tryz.func166, Tryz.ntmps166
 go_wp2_with fail
 rw [← setA_false]
 have HQ0 := Lib.hid ((ZQ.refl H.out).on (al_below w (.cells (setA (fun _ => false)) 213)))
 have HB0 := Lib.hid (heap_alloc_new w (.cells (setA (fun _ => false)) 213))
 have hg0 : w.heap.size < (w.alloc (.cells (setA (fun _ => false)) 213)).heap.size := by simp
 refine (HT.out _ HQ0.out.ps).mono ?_
 rintro e w1 ⟨rfl, hq⟩
 have HQ1 := Lib.hid (HQ0.out.trans hq)
 have HB1 := Lib.hid ((hq.ap.block (k := w.heap.size) (by omega) (Array.getElem?_eq_some_iff.1 HB0.out).1).trans HB0.out)
 clear hq HQ0 HB0
 go_wp2_with fail
 refine (HN.out _ HQ1.out.ps).mono ?_
 rintro e w2 ⟨rfl, hq⟩
 have HQ2 := Lib.hid (HQ1.out.trans hq)
 have HB2 := Lib.hid ((hq.ap.block (k := w.heap.size) (by omega) (Array.getElem?_eq_some_iff.1 HB1.out).1).trans HB1.out)
 clear hq HQ1 HB1
 go_wp2_with fail
 refine (HPR.out _).mono ?_
 rintro e wp ⟨rfl, rfl⟩
 go_wp2_with fail
 refine (HF.out _ HQ2.out.ps).mono ?_
 rintro e w8 ⟨rfl, hq⟩
 have HQ8 := Lib.hid (HQ2.out.trans hq)
 have h8 := (hq.ap.block (k := w.heap.size) (by omega) (Array.getElem?_eq_some_iff.1 HB2.out).1).trans HB2.out
 have e8 := put_self h8
 clear hq HQ2 HB2
 go_wp2_with fail
 refine wp_load_set _ rfl w.heap.size rfl _ _ h8 ?_
 go_wp2_with fail
 exact itz_ret rfl h8 rfl rfl rfl HQ8.out (by decide) (fits_err (by decide))
set_option maxHeartbeats 8000000 in
set_option maxRecDepth 1000000 in
theorem itz_sign (b : Nat) (l : List UInt8) (i : Nat) (sg : Bool) (w : World) (h : ZS b l i 0 w) (c : UInt8) (hc : Asc.at_ l i = c.toNat) (hc1 : c.toNat ≠ 92) (h1 : 32 ≤ c.toNat) (h2 : c.toNat ≤ 126) (hn : c ∈ oddL) : Calls Tryz.prog 166 #[.pointer (some ⟨b, 0, none⟩), .bool sg] w (EscZ b l (.error (i, 1)) w) := by
 have hv := (zero_of_info infoS).1
 have hbb := h.st.lt
 have H := Lib.hid h
 have hc0 : nxN l i 0 ≠ 92 := by rw [nxN_ok, hc]; exact hc1
 have hc8 : c.toNat < 256 := UInt8.toNat_lt c
 have HC8 := Lib.hid hc8
 have HT := Lib.hid fun W (hW : ZS b l i 0 W) => ztakes_no b l i 0 W hW 92 hc0
 have HN := Lib.hid fun W (hW : ZS b l i 0 W) => znext_ok b l i W hW c.toNat hc hc8
 have HF := Lib.hid fun W (hW : ZS b l i 0 W) => zfail b l i 0 1 W hW
 rw [if_pos rfl] at HF
 have HPR := Lib.hid fun W => printable_yes c.toNat W h1 h2
 have HI := Lib.hid fun W => (show Calls Tryz.prog 154 #[.string ⟨#[93, 45, 94, 92]⟩, .int .u8 (c.toNat : Int)] W _ from ib_yes oddL c W hn)
 obtain ⟨K, hK⟩ : ∃ K, Asc.pos oddL c = K := ⟨_, rfl⟩
 rw [hK] at HI
 have z0 : decide ((0 : Int) ≤ (K : Int)) = true := decide_eq_true (by omega)
 clear hK
 clear hc hc0 hc1 h1 h2 hc8 hn
 clear h
 go_enter Tryz.func166, Tryz.ntmps166
 go_wp2_with fail
 rw [← setA_false]
 have HQ0 := Lib.hid ((ZQ.refl H.out).on (al_below w (.cells (setA (fun _ => false)) 213)))
 have HB0 := Lib.hid (heap_alloc_new w (.cells (setA (fun _ => false)) 213))
 have hg0 : w.heap.size < (w.alloc (.cells (setA (fun _ => false)) 213)).heap.size := by simp
 refine (HT.out _ HQ0.out.ps).mono ?_
 rintro e w1 ⟨rfl, hq⟩
 have HQ1 := Lib.hid (HQ0.out.trans hq)
 have HB1 := Lib.hid ((hq.ap.block (k := w.heap.size) (by omega) (Array.getElem?_eq_some_iff.1 HB0.out).1).trans HB0.out)
 clear hq HQ0 HB0
 go_wp2_with fail
 refine (HN.out _ HQ1.out.ps).mono ?_
 rintro e w2 ⟨rfl, hq⟩
 have HQ2 := Lib.hid (HQ1.out.trans hq)
 have HB2 := Lib.hid ((hq.ap.block (k := w.heap.size) (by omega) (Array.getElem?_eq_some_iff.1 HB1.out).1).trans HB1.out)
 clear hq HQ1 HB1
 go_wp2_with fail
 refine (HPR.out _).mono ?_
 rintro e wp ⟨rfl, rfl⟩
 go_wp2_with fail
 refine (HI.out _).mono ?_
 rintro e wp ⟨rfl, rfl⟩
 go_wp2_with fail
 refine (HF.out _ HQ2.out.ps).mono ?_
 rintro e w8 ⟨rfl, hq⟩
 have HQ8 := Lib.hid (HQ2.out.trans hq)
 have h8 := (hq.ap.block (k := w.heap.size) (by omega) (Array.getElem?_eq_some_iff.1 HB2.out).1).trans HB2.out
 have e8 := put_self h8
 clear hq HQ2 HB2
 go_wp2_with fail
 refine wp_load_set _ rfl w.heap.size rfl _ _ h8 ?_
 go_wp2_with fail
 exact itz_ret rfl h8 rfl rfl rfl HQ8.out (by decide) (fits_err (by decide))
set_option maxHeartbeats 8000000 in
set_option maxRecDepth 1000000 in
theorem itz_self (b : Nat) (l : List UInt8) (i : Nat) (sg : Bool) (w : World) (h : ZS b l i 0 w) (c : UInt8) (hc : Asc.at_ l i = c.toNat) (hc1 : c.toNat ≠ 92) (h1 : 32 ≤ c.toNat) (h2 : c.toNat ≤ 126) (hn : c ∉ oddL) : Calls Tryz.prog 166 #[.pointer (some ⟨b, 0, none⟩), .bool sg] w (EscZ b l (.ok ((spanF c.toNat (c.toNat + 1), c.toNat, true), i + 1)) w) := by
 have hv := (zero_of_info infoS).1
 have hbb := h.st.lt
 have H := Lib.hid h
 have hc0 : nxN l i 0 ≠ 92 := by rw [nxN_ok, hc]; exact hc1
 have hc8 : c.toNat < 256 := UInt8.toNat_lt c
 have HC8 := Lib.hid hc8
 have HT := Lib.hid fun W (hW : ZS b l i 0 W) => ztakes_no b l i 0 W hW 92 hc0
 have HN := Lib.hid fun W (hW : ZS b l i 0 W) => znext_ok b l i W hW c.toNat hc hc8
 have hl : i < l.length := Asc.at_lt (by omega)
 have hl2 := h.len
 have hw : IntKind.i64.wrap ((i : Int) + 1) = (i : Int) + 1 := IntWalk.i64_in _ (by omega)
 have HL := Lib.hid hl
 have HPR := Lib.hid fun W => printable_yes c.toNat W h1 h2
 have HI := Lib.hid fun W => (show Calls Tryz.prog 154 #[.string ⟨#[93, 45, 94, 92]⟩, .int .u8 (c.toNat : Int)] W _ from ib_no oddL c W hn)
 have HSN := Lib.hid fun W => span_any c c W
 obtain ⟨f, hf⟩ : ∃ f, spanF c.toNat (c.toNat + 1) = f := ⟨_, rfl⟩
 rw [hf] at HSN ⊢
 clear hc hc0 hc1 h1 h2 hc8 hn hl hf
 clear h
 go_enter Tryz.func166, Tryz.ntmps166
 go_wp2_with fail
 rw [← setA_false]
 have HQ0 := Lib.hid ((ZQ.refl H.out).on (al_below w (.cells (setA (fun _ => false)) 213)))
 have HB0 := Lib.hid (heap_alloc_new w (.cells (setA (fun _ => false)) 213))
 have hg0 : w.heap.size < (w.alloc (.cells (setA (fun _ => false)) 213)).heap.size := by simp
 refine (HT.out _ HQ0.out.ps).mono ?_
 rintro e w1 ⟨rfl, hq⟩
 have HQ1 := Lib.hid (HQ0.out.trans hq)
 have HB1 := Lib.hid ((hq.ap.block (k := w.heap.size) (by omega) (Array.getElem?_eq_some_iff.1 HB0.out).1).trans HB0.out)
 clear hq HQ0 HB0
 go_wp2_with fail
 refine (HN.out _ HQ1.out.ps).mono ?_
 rintro e w2 ⟨rfl, hq⟩
 have HQ2 := Lib.hid (HQ1.out.trans hq)
 have HB2 := Lib.hid ((hq.ap.block (k := w.heap.size) (by omega) (Array.getElem?_eq_some_iff.1 HB1.out).1).trans HB1.out)
 clear hq HQ1 HB1
 have c1 := HQ2.out.ps.c1
 have f1 := HQ2.out.ps.f1
 go_wp2_with fail
 refine (HPR.out _).mono ?_
 rintro e wp ⟨rfl, rfl⟩
 go_wp2_with fail
 refine (HI.out _).mono ?_
 rintro e wp ⟨rfl, rfl⟩
 go_wp2_with fail
 have HQ3 := Lib.hid (HQ2.out.trans (HQ2.out.ps.to (i + 1) HL.out))
 have HB3 := Lib.hid (show (w2.setCell ⟨b, 1, none⟩ (.int .i64 ((i : Int) + 1))).heap[w.heap.size]? = _ from (Below.heap_setCell _ _ _ w.heap.size (by simp only; omega)).trans HB2.out)
 refine (HSN.out _).mono ?_
 rintro e w4 ⟨rfl, hb4⟩
 have HQ4 := Lib.hid (HQ3.out.on hb4)
 have HB4 := Lib.hid ((hb4.block _ (Array.getElem?_eq_some_iff.1 HB3.out).1).trans HB3.out)
 clear hb4 HQ2 HB2 HQ3 HB3 c1 f1
 obtain ⟨w9, e9, h9, hb9, e9'⟩ := put_set2 HB4.out f
 have HQ9 := Lib.hid (HQ4.out.far (hb9.mono (Nat.le_refl _)) hbb)
 clear hb9
 go_wp2_with fail
 exact itz_ret rfl h9 rfl rfl rfl HQ9.out HC8.out fits_ok
theorem dws_iff (x : UInt8) : dws x.toNat = true ↔ x ∈ dwsL := by
 unfold dws dwsL
 simp only [Bool.or_eq_true, decide_eq_true_eq, List.mem_cons, List.not_mem_nil, or_false, ← UInt8.toNat_inj]
 simp [or_assoc]
theorem odd_iff (c : UInt8) : c ∈ oddL ↔ (c.toNat = 93 ∨ c.toNat = 45 ∨ c.toNat = 94 ∨ c.toNat = 92) := by
 unfold oddL
 simp only [List.mem_cons, List.not_mem_nil, or_false, ← UInt8.toNat_inj]
 simp
theorem item_any (b : Nat) (l : List UInt8) (sg : Bool) (i : Nat) (w : World) (h : ZS b l i 0 w) : Calls Tryz.prog 166 #[.pointer (some ⟨b, 0, none⟩), .bool sg] w (EscZ b l (itemM l sg i) w) := by
 unfold itemM
 by_cases h1 : Asc.at_ l i = 92
 ·rw [if_pos h1]
  rcases at_two l (i + 1) with h2 | h2
  ·obtain ⟨x, hx⟩ := at_u8 h2
   rw [hx]
   cases sg with
   | false => exact itz_bany b l i w h h1 x hx
   | true =>
    by_cases hd : x ∈ dwsL
    ·rw [if_pos (by simp [(dws_iff x).2 hd])]
     exact itz_bset b l i w h h1 x hx hd
    ·rw [if_neg (by simpa using fun e => hd ((dws_iff x).1 e))]
     exact itz_bone b l i w h h1 x hx hd
  ·rw [h2, if_neg (by cases sg <;> decide)]
   exact itz_bend b l i sg w h h1 h2
 rw [if_neg h1]
 rcases at_two l i with h2 | h2
 ·obtain ⟨c, hc⟩ := at_u8 h2
  rw [hc] at h1 ⊢
  by_cases ha : c.toNat < 32 ∨ 126 < c.toNat
  ·rw [if_neg (by simp only [selfI, Bool.and_eq_true, decide_eq_true_eq]; omega)]
   exact itz_odd b l i sg w h c hc h1 ha
  ·by_cases hd : c ∈ oddL
   ·have := (odd_iff c).1 hd
    rw [if_neg (by simp only [selfI, Bool.and_eq_true, decide_eq_true_eq]; omega)]
    exact itz_sign b l i sg w h c hc h1 (by omega) (by omega) hd
   ·have hd2 := fun e => hd ((odd_iff c).2 e)
    have hs : selfI c.toNat = true := by
     simp only [selfI, Bool.and_eq_true, decide_eq_true_eq]
     exact ⟨⟨⟨⟨by omega, by omega⟩, fun e => hd2 (.inl e)⟩, fun e => hd2 (.inr (.inl e))⟩, fun e => hd2 (.inr (.inr (.inl e)))⟩
    rw [if_pos hs]
    exact itz_self b l i sg w h c hc h1 (by omega) (by omega) hd
 ·rw [h2, if_neg (by decide)]
  exact itz_end b l i sg w h h2
end Go.Proofs.YtmpbjaodgajnfaaGreatDoor
namespace Go.Proofs.YtmpbjaodgajnfaaGreatDoor.Asc
def val (l : List UInt8) : Nat := l.foldl (fun n c => n * 10 + (c.toNat - 48)) 0
def allD (l : List UInt8) : Bool := l.all fun c => isDigit c.toNat
def digN (l : List UInt8) (most : Nat) : Nat := if 1 ≤ l.length ∧ l.length ≤ most ∧ allD l = true then val l else 0
def digB (l : List UInt8) (most : Nat) : Bool := decide (1 ≤ l.length ∧ l.length ≤ most ∧ allD l = true)
theorem val_snoc (l : List UInt8) (c : UInt8) : val (l ++ [c]) = val l * 10 + (c.toNat - 48) := by unfold val; simp
theorem allD_snoc (l : List UInt8) (c : UInt8) : allD (l ++ [c]) = (allD l && isDigit c.toNat) := by unfold allD; simp
theorem isDigit_iff (c : Nat) : isDigit c = true ↔ 48 ≤ c ∧ c ≤ 57 := by unfold isDigit; simp
theorem allD_take {l : List UInt8} (h : allD l = true) (k : Nat) : allD (l.take k) = true := by
 unfold allD at h ⊢
 rw [List.all_eq_true] at h ⊢
 exact fun x hx => h x (List.mem_of_mem_take hx)
theorem allD_bad {l : List UInt8} (k : Nat) (h : k < l.length) (hb : isDigit (l[k]).toNat = false) : allD l = false := by
 rw [Bool.eq_false_iff]
 intro e
 unfold allD at e
 rw [List.all_eq_true] at e
 have := e _ (List.getElem_mem h)
 rw [hb] at this
 cases this
theorem val_lt_aux (n : Nat) : ∀ l : List UInt8, l.length = n → allD l = true → val l < 10 ^ n := by
 induction n with
 | zero => intro l h _; obtain rfl := List.length_eq_zero_iff.1 h; simp [val]
 | succ n ih =>
  intro l h ha
  have hl : l = l.take n ++ [l[n]] := by rw [← snoc_take l n (by omega), ← h, List.take_length]
  have hn : (l.take n).length = n := by simp; omega
  have hd : isDigit (l[n]).toNat = true := by rw [hl, allD_snoc] at ha; simp at ha; exact ha.2
  rw [isDigit_iff] at hd
  have hi := ih (l.take n) hn (allD_take ha n)
  rw [hl, val_snoc, Nat.pow_succ]
  omega
theorem val_lt {l : List UInt8} (h : allD l = true) : val l < 10 ^ l.length := val_lt_aux _ l rfl h
theorem val_le18 {l : List UInt8} (h : allD l = true) (hl : l.length ≤ 18) : val l < 1000000000000000000 :=
 Nat.lt_of_lt_of_le (val_lt h) (Nat.pow_le_pow_right (n := 10) (by omega) hl)
theorem dig_yes {l : List UInt8} {most : Nat} (h1 : 1 ≤ l.length) (h2 : l.length ≤ most) (h3 : allD l = true) : digN l most = val l ∧ digB l most = true := by
 unfold digN digB; rw [if_pos ⟨h1, h2, h3⟩]; simp [h1, h2, h3]
theorem dig_no {l : List UInt8} {most : Nat} (h : l.length < 1 ∨ most < l.length ∨ allD l = false) : digN l most = 0 ∧ digB l most = false := by
 have hn : ¬ (1 ≤ l.length ∧ l.length ≤ most ∧ allD l = true) := by
  rintro ⟨a, b, c⟩
  rcases h with h | h | h
  ·omega
  ·omega
  ·rw [c] at h; cases h
 unfold digN digB; rw [if_neg hn]; exact ⟨rfl, decide_eq_false hn⟩
def numN (l : List UInt8) : Int := if l.head? = some 45 then -(digN l.tail 18 : Int) else (digN l 18 : Int)
def numB (l : List UInt8) : Bool := if l.head? = some 45 then digB l.tail 18 else digB l 18
theorem num_neg (d : List UInt8) : numN (45 :: d) = -(digN d 18 : Int) ∧ numB (45 :: d) = digB d 18 := by unfold numN numB; simp
theorem num_pos {l : List UInt8} (h : l.head? ≠ some 45) : numN l = (digN l 18 : Int) ∧ numB l = digB l 18 := by unfold numN numB; simp [h]
end Go.Proofs.YtmpbjaodgajnfaaGreatDoor.Asc

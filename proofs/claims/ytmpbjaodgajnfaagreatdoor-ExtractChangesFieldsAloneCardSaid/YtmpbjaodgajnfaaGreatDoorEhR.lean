/-
 Joined: PzC.
-/
import Derived.Test.YtmpbjaodgajnfaaGreatDoorEhQ
namespace Go.Proofs.YtmpbjaodgajnfaaGreatDoor
open Go.RowKit
def EscZ (b : Nat) (l : List UInt8) (r : Out ((Nat → Bool) × Nat × Bool)) (w : World) (en : Ending) (w' : World) : Prop := ∃ f c one j e, en = .returned (.tuple #[.agg (setA f), .int .u8 ((c : Nat) : Int), .bool one]) ∧ ZQ b l j e w w' ∧ c < 256 ∧ fits r (f, c, one) j e
theorem where_word (w : World) (hk : Kinds w) : Calls Tryz.prog 169 #[.func (.func 158) #[] #[]] w fun e w' => e = .returned (.agg (setA Asc.isWord)) ∧ Below w.heap.size w w' :=
 where_any _ (enters_of (P := Tryz.prog) (fn := Tryz.f158) (by kernel_rfl) (by kernel_rfl) rfl) _ w (fun c hc W hb => word_any c W hc (hk.below hb))
theorem where_space (w : World) (hk : Kinds w) : Calls Tryz.prog 169 #[.func (.func 171) #[] #[]] w fun e w' => e = .returned (.agg (setA Asc.isSpace)) ∧ Below w.heap.size w w' :=
 where_any _ (enters_of (P := Tryz.prog) (fn := Tryz.f171) (by kernel_rfl) (by kernel_rfl) rfl) _ w (fun c hc W hb => space_any c W hc (hk.below hb))
theorem at_u8 {l : List UInt8} {i : Nat} (h : Asc.at_ l i < 256) : ∃ c : UInt8, Asc.at_ l i = c.toNat := ⟨UInt8.ofNat (Asc.at_ l i), (ofNat8 h).symm⟩
set_option maxHeartbeats 8000000 in
set_option maxRecDepth 1000000 in
theorem escz_d (b : Nat) (l : List UInt8) (i : Nat) (w : World) (h : ZS b l i 0 w) (hc : Asc.at_ l i = 100) : Calls Tryz.prog 152 #[.pointer (some ⟨b, 0, none⟩)] w (EscZ b l (.ok ((Asc.isDigit, 100, false), i + 1)) w) := by
 have hv := (zero_of_info infoS).1
 have hbb := h.st.lt
 have H := Lib.hid h
 have hl : i < l.length := Asc.at_lt (by omega)
 have hl2 := h.len
 have hw : IntKind.i64.wrap ((i : Int) + 1) = (i : Int) + 1 := IntWalk.i64_in _ (by omega)
 have HL := Lib.hid hl
 have HN := Lib.hid fun W (hW : ZS b l i 0 W) => znext_ok b l i W hW 100 hc (by omega)
 clear hl
 clear h
 go_enter Tryz.func152, Tryz.ntmps152
 go_wp2_with fail
 rw [← setA_false]
 have HQ0 := Lib.hid ((ZQ.refl H.out).on (al_below w (.cells (setA (fun _ => false)) 213)))
 refine (HN.out _ HQ0.out.ps).mono ?_
 rintro e w1 ⟨rfl, hq⟩
 have HQ1 := Lib.hid (HQ0.out.trans hq)
 have HB1 := Lib.hid ((hq.ap.block (k := w.heap.size) (by omega) (by simp)).trans (heap_alloc_new w _))
 clear hq HQ0
 go_wp2_with fail
 refine (where_digit w1 HQ1.out.ps.kd).mono ?_
 rintro e w2 ⟨rfl, hb2⟩
 have HB2 := Lib.hid ((hb2.block _ (Array.getElem?_eq_some_iff.1 HB1.out).1).trans HB1.out)
 have HQ2 := Lib.hid (HQ1.out.on hb2)
 clear hb2 HQ1 HB1
 obtain ⟨w3, e3, h3, hb3, e3'⟩ := put_set2 HB2.out Asc.isDigit
 have HQ3 := Lib.hid (HQ2.out.far (hb3.mono (Nat.le_refl _)) hbb)
 have HB3 := Lib.hid h3
 have c1 := HQ3.out.ps.c1
 have f1 := HQ3.out.ps.f1
 clear h3 hb3 HQ2 HB2
 go_wp2_with fail
 have h4 : (w3.setCell ⟨b, 1, none⟩ (.int .i64 ((i : Int) + 1))).heap[w.heap.size]? = _ := (Below.heap_setCell _ _ _ w.heap.size (by simp only; omega)).trans HB3.out
 have e4 := put_self h4
 refine wp_load_set _ rfl w.heap.size rfl _ _ h4 ?_
 go_wp2_with fail
 exact ret_set3 rfl h4 rfl rfl ⟨Asc.isDigit, 100, false, i + 1, 0, rfl, HQ3.out.trans (HQ3.out.ps.to (i + 1) HL.out), by decide, fits_ok⟩
set_option maxHeartbeats 8000000 in
set_option maxRecDepth 1000000 in
theorem escz_w (b : Nat) (l : List UInt8) (i : Nat) (w : World) (h : ZS b l i 0 w) (hc : Asc.at_ l i = 119) : Calls Tryz.prog 152 #[.pointer (some ⟨b, 0, none⟩)] w (EscZ b l (.ok ((Asc.isWord, 119, false), i + 1)) w) := by
 have hv := (zero_of_info infoS).1
 have hbb := h.st.lt
 have H := Lib.hid h
 have hl : i < l.length := Asc.at_lt (by omega)
 have hl2 := h.len
 have hw : IntKind.i64.wrap ((i : Int) + 1) = (i : Int) + 1 := IntWalk.i64_in _ (by omega)
 have HL := Lib.hid hl
 have HN := Lib.hid fun W (hW : ZS b l i 0 W) => znext_ok b l i W hW 119 hc (by omega)
 clear hl
 clear h
 go_enter Tryz.func152, Tryz.ntmps152
 go_wp2_with fail
 rw [← setA_false]
 have HQ0 := Lib.hid ((ZQ.refl H.out).on (al_below w (.cells (setA (fun _ => false)) 213)))
 refine (HN.out _ HQ0.out.ps).mono ?_
 rintro e w1 ⟨rfl, hq⟩
 have HQ1 := Lib.hid (HQ0.out.trans hq)
 have HB1 := Lib.hid ((hq.ap.block (k := w.heap.size) (by omega) (by simp)).trans (heap_alloc_new w _))
 clear hq HQ0
 go_wp2_with fail
 refine (where_word w1 HQ1.out.ps.kd).mono ?_
 rintro e w2 ⟨rfl, hb2⟩
 have HB2 := Lib.hid ((hb2.block _ (Array.getElem?_eq_some_iff.1 HB1.out).1).trans HB1.out)
 have HQ2 := Lib.hid (HQ1.out.on hb2)
 clear hb2 HQ1 HB1
 obtain ⟨w3, e3, h3, hb3, e3'⟩ := put_set2 HB2.out Asc.isWord
 have HQ3 := Lib.hid (HQ2.out.far (hb3.mono (Nat.le_refl _)) hbb)
 have HB3 := Lib.hid h3
 have c1 := HQ3.out.ps.c1
 have f1 := HQ3.out.ps.f1
 clear h3 hb3 HQ2 HB2
 go_wp2_with fail
 have h4 : (w3.setCell ⟨b, 1, none⟩ (.int .i64 ((i : Int) + 1))).heap[w.heap.size]? = _ := (Below.heap_setCell _ _ _ w.heap.size (by simp only; omega)).trans HB3.out
 have e4 := put_self h4
 refine wp_load_set _ rfl w.heap.size rfl _ _ h4 ?_
 go_wp2_with fail
 exact ret_set3 rfl h4 rfl rfl ⟨Asc.isWord, 119, false, i + 1, 0, rfl, HQ3.out.trans (HQ3.out.ps.to (i + 1) HL.out), by decide, fits_ok⟩
set_option maxHeartbeats 8000000 in
set_option maxRecDepth 1000000 in
theorem escz_s (b : Nat) (l : List UInt8) (i : Nat) (w : World) (h : ZS b l i 0 w) (hc : Asc.at_ l i = 115) : Calls Tryz.prog 152 #[.pointer (some ⟨b, 0, none⟩)] w (EscZ b l (.ok ((Asc.isSpace, 115, false), i + 1)) w) := by
 have hv := (zero_of_info infoS).1
 have hbb := h.st.lt
 have H := Lib.hid h
 have hl : i < l.length := Asc.at_lt (by omega)
 have hl2 := h.len
 have hw : IntKind.i64.wrap ((i : Int) + 1) = (i : Int) + 1 := IntWalk.i64_in _ (by omega)
 have HL := Lib.hid hl
 have HN := Lib.hid fun W (hW : ZS b l i 0 W) => znext_ok b l i W hW 115 hc (by omega)
 clear hl
 clear h
 go_enter Tryz.func152, Tryz.ntmps152
 go_wp2_with fail
 rw [← setA_false]
 have HQ0 := Lib.hid ((ZQ.refl H.out).on (al_below w (.cells (setA (fun _ => false)) 213)))
 refine (HN.out _ HQ0.out.ps).mono ?_
 rintro e w1 ⟨rfl, hq⟩
 have HQ1 := Lib.hid (HQ0.out.trans hq)
 have HB1 := Lib.hid ((hq.ap.block (k := w.heap.size) (by omega) (by simp)).trans (heap_alloc_new w _))
 clear hq HQ0
 go_wp2_with fail
 refine (where_space w1 HQ1.out.ps.kd).mono ?_
 rintro e w2 ⟨rfl, hb2⟩
 have HB2 := Lib.hid ((hb2.block _ (Array.getElem?_eq_some_iff.1 HB1.out).1).trans HB1.out)
 have HQ2 := Lib.hid (HQ1.out.on hb2)
 clear hb2 HQ1 HB1
 obtain ⟨w3, e3, h3, hb3, e3'⟩ := put_set2 HB2.out Asc.isSpace
 have HQ3 := Lib.hid (HQ2.out.far (hb3.mono (Nat.le_refl _)) hbb)
 have HB3 := Lib.hid h3
 have c1 := HQ3.out.ps.c1
 have f1 := HQ3.out.ps.f1
 clear h3 hb3 HQ2 HB2
 go_wp2_with fail
 have h4 : (w3.setCell ⟨b, 1, none⟩ (.int .i64 ((i : Int) + 1))).heap[w.heap.size]? = _ := (Below.heap_setCell _ _ _ w.heap.size (by simp only; omega)).trans HB3.out
 have e4 := put_self h4
 refine wp_load_set _ rfl w.heap.size rfl _ _ h4 ?_
 go_wp2_with fail
 exact ret_set3 rfl h4 rfl rfl ⟨Asc.isSpace, 115, false, i + 1, 0, rfl, HQ3.out.trans (HQ3.out.ps.to (i + 1) HL.out), by decide, fits_ok⟩
set_option maxHeartbeats 8000000 in
set_option maxRecDepth 1000000 in
theorem escz_n (b : Nat) (l : List UInt8) (i : Nat) (w : World) (h : ZS b l i 0 w) (hc : Asc.at_ l i = 110) : Calls Tryz.prog 152 #[.pointer (some ⟨b, 0, none⟩)] w (EscZ b l (.ok ((spanF 10 11, 10, true), i + 1)) w) := by
 have hv := (zero_of_info infoS).1
 have hbb := h.st.lt
 have H := Lib.hid h
 have hl : i < l.length := Asc.at_lt (by omega)
 have hl2 := h.len
 have hw : IntKind.i64.wrap ((i : Int) + 1) = (i : Int) + 1 := IntWalk.i64_in _ (by omega)
 have HL := Lib.hid hl
 have HN := Lib.hid fun W (hW : ZS b l i 0 W) => znext_ok b l i W hW 110 hc (by omega)
 have HSN := Lib.hid (fun W => (show Calls Tryz.prog 149 #[.int .u8 10, .int .u8 10] W (fun e w' => e = .returned (.agg (setA (spanF 10 11))) ∧ Below W.heap.size W w') from span_any 10 10 W))
 clear hl
 clear h
 go_enter Tryz.func152, Tryz.ntmps152
 go_wp2_with fail
 rw [← setA_false]
 have HQ0 := Lib.hid ((ZQ.refl H.out).on (al_below w (.cells (setA (fun _ => false)) 213)))
 refine (HN.out _ HQ0.out.ps).mono ?_
 rintro e w1 ⟨rfl, hq⟩
 have HQ1 := Lib.hid (HQ0.out.trans hq)
 have HB1 := Lib.hid ((hq.ap.block (k := w.heap.size) (by omega) (by simp)).trans (heap_alloc_new w _))
 clear hq HQ0
 have c1 := HQ1.out.ps.c1
 have f1 := HQ1.out.ps.f1
 go_wp2_with fail
 have HQ2 := Lib.hid (HQ1.out.trans (HQ1.out.ps.to (i + 1) HL.out))
 have HB2 := Lib.hid (show (w1.setCell ⟨b, 1, none⟩ (.int .i64 ((i : Int) + 1))).heap[w.heap.size]? = _ from (Below.heap_setCell _ _ _ w.heap.size (by simp only; omega)).trans HB1.out)
 refine (HSN.out _).mono ?_
 rintro e w3 ⟨rfl, hb3⟩
 have HQ3 := Lib.hid (HQ2.out.on hb3)
 have HB3 := Lib.hid ((hb3.block _ (Array.getElem?_eq_some_iff.1 HB2.out).1).trans HB2.out)
 clear hb3 HQ2 HB2 HQ1 HB1 c1 f1
 obtain ⟨w4, e4, h4, hb4, e4'⟩ := put_set2 HB3.out (spanF 10 11)
 have HQ4 := Lib.hid (HQ3.out.far (hb4.mono (Nat.le_refl _)) hbb)
 clear hb4 HQ3 HB3
 go_wp2_with fail
 refine wp_load_set _ rfl w.heap.size rfl _ _ h4 ?_
 go_wp2_with fail
 exact ret_set3 rfl h4 rfl rfl ⟨(spanF 10 11), 10, true, i + 1, 0, rfl, HQ4.out, by first | decide | omega, fits_ok⟩
set_option maxHeartbeats 8000000 in
set_option maxRecDepth 1000000 in
theorem escz_t (b : Nat) (l : List UInt8) (i : Nat) (w : World) (h : ZS b l i 0 w) (hc : Asc.at_ l i = 116) : Calls Tryz.prog 152 #[.pointer (some ⟨b, 0, none⟩)] w (EscZ b l (.ok ((spanF 9 10, 9, true), i + 1)) w) := by
 have hv := (zero_of_info infoS).1
 have hbb := h.st.lt
 have H := Lib.hid h
 have hl : i < l.length := Asc.at_lt (by omega)
 have hl2 := h.len
 have hw : IntKind.i64.wrap ((i : Int) + 1) = (i : Int) + 1 := IntWalk.i64_in _ (by omega)
 have HL := Lib.hid hl
 have HN := Lib.hid fun W (hW : ZS b l i 0 W) => znext_ok b l i W hW 116 hc (by omega)
 have HSN := Lib.hid (fun W => (show Calls Tryz.prog 149 #[.int .u8 9, .int .u8 9] W (fun e w' => e = .returned (.agg (setA (spanF 9 10))) ∧ Below W.heap.size W w') from span_any 9 9 W))
 clear hl
 clear h
 go_enter Tryz.func152, Tryz.ntmps152
 go_wp2_with fail
 rw [← setA_false]
 have HQ0 := Lib.hid ((ZQ.refl H.out).on (al_below w (.cells (setA (fun _ => false)) 213)))
 refine (HN.out _ HQ0.out.ps).mono ?_
 rintro e w1 ⟨rfl, hq⟩
 have HQ1 := Lib.hid (HQ0.out.trans hq)
 have HB1 := Lib.hid ((hq.ap.block (k := w.heap.size) (by omega) (by simp)).trans (heap_alloc_new w _))
 clear hq HQ0
 have c1 := HQ1.out.ps.c1
 have f1 := HQ1.out.ps.f1
 go_wp2_with fail
 have HQ2 := Lib.hid (HQ1.out.trans (HQ1.out.ps.to (i + 1) HL.out))
 have HB2 := Lib.hid (show (w1.setCell ⟨b, 1, none⟩ (.int .i64 ((i : Int) + 1))).heap[w.heap.size]? = _ from (Below.heap_setCell _ _ _ w.heap.size (by simp only; omega)).trans HB1.out)
 refine (HSN.out _).mono ?_
 rintro e w3 ⟨rfl, hb3⟩
 have HQ3 := Lib.hid (HQ2.out.on hb3)
 have HB3 := Lib.hid ((hb3.block _ (Array.getElem?_eq_some_iff.1 HB2.out).1).trans HB2.out)
 clear hb3 HQ2 HB2 HQ1 HB1 c1 f1
 obtain ⟨w4, e4, h4, hb4, e4'⟩ := put_set2 HB3.out (spanF 9 10)
 have HQ4 := Lib.hid (HQ3.out.far (hb4.mono (Nat.le_refl _)) hbb)
 clear hb4 HQ3 HB3
 go_wp2_with fail
 refine wp_load_set _ rfl w.heap.size rfl _ _ h4 ?_
 go_wp2_with fail
 exact ret_set3 rfl h4 rfl rfl ⟨(spanF 9 10), 9, true, i + 1, 0, rfl, HQ4.out, by first | decide | omega, fits_ok⟩
set_option maxHeartbeats 8000000 in
set_option maxRecDepth 1000000 in
theorem escz_self (b : Nat) (l : List UInt8) (i : Nat) (w : World) (h : ZS b l i 0 w) (c : UInt8) (hc : Asc.at_ l i = c.toNat) (hn1 : c.toNat ≠ 100) (hn2 : c.toNat ≠ 119) (hn3 : c.toNat ≠ 115) (hn4 : c.toNat ≠ 110) (hn5 : c.toNat ≠ 116) (h1 : 32 ≤ c.toNat) (h2 : c.toNat ≤ 126) (h3 : Asc.isLetter c.toNat = false) (h4 : Asc.isDigit c.toNat = false) : Calls Tryz.prog 152 #[.pointer (some ⟨b, 0, none⟩)] w (EscZ b l (.ok ((spanF c.toNat (c.toNat + 1), c.toNat, true), i + 1)) w) := by
 have hv := (zero_of_info infoS).1
 have hbb := h.st.lt
 have H := Lib.hid h
 have hlt8 : c.toNat < 256 := UInt8.toNat_lt c
 have hl : i < l.length := Asc.at_lt (by omega)
 have hl2 := h.len
 have hw : IntKind.i64.wrap ((i : Int) + 1) = (i : Int) + 1 := IntWalk.i64_in _ (by omega)
 have HL := Lib.hid hl
 have HN := Lib.hid fun W (hW : ZS b l i 0 W) => znext_ok b l i W hW c.toNat hc (by omega)
 have z100 : ((c.toNat : Int) == 100) = false := by rw [beq_eq_false_iff_ne]; omega
 have z119 : ((c.toNat : Int) == 119) = false := by rw [beq_eq_false_iff_ne]; omega
 have z115 : ((c.toNat : Int) == 115) = false := by rw [beq_eq_false_iff_ne]; omega
 have z110 : ((c.toNat : Int) == 110) = false := by rw [beq_eq_false_iff_ne]; omega
 have z116 : ((c.toNat : Int) == 116) = false := by rw [beq_eq_false_iff_ne]; omega
 have HPR := Lib.hid fun W => printable_yes c.toNat W h1 h2
 have HLT := Lib.hid fun W (hW : ZS b l i 0 W) => letter_any c.toNat W hlt8 hW.kd
 rw [h3] at HLT
 have HDG := Lib.hid fun W (hW : ZS b l i 0 W) => digit_any c.toNat W hlt8 hW.kd
 rw [h4] at HDG
 have HSN := Lib.hid fun W => span_any c c W
 have HC8 := Lib.hid hlt8
 clear hl hc hn1 hn2 hn3 hn4 hn5 h1 h2 h3 h4 hlt8
 obtain ⟨f, hf⟩ : ∃ f, spanF c.toNat (c.toNat + 1) = f := ⟨_, rfl⟩
 rw [hf] at HSN ⊢
 clear hf
 clear h
 go_enter Tryz.func152, Tryz.ntmps152
 go_wp2_with fail
 rw [← setA_false]
 have HQ0 := Lib.hid ((ZQ.refl H.out).on (al_below w (.cells (setA (fun _ => false)) 213)))
 refine (HN.out _ HQ0.out.ps).mono ?_
 rintro e w1 ⟨rfl, hq⟩
 have HQ1 := Lib.hid (HQ0.out.trans hq)
 have HB1 := Lib.hid ((hq.ap.block (k := w.heap.size) (by omega) (by simp)).trans (heap_alloc_new w _))
 clear hq HQ0
 have c1 := HQ1.out.ps.c1
 have f1 := HQ1.out.ps.f1
 go_wp2_with fail
 refine (HPR.out _).mono ?_
 rintro e wp ⟨rfl, rfl⟩
 go_wp2_with fail
 refine (HLT.out _ HQ1.out.ps).mono ?_
 rintro e wp ⟨rfl, rfl⟩
 go_wp2_with fail
 refine (HDG.out _ HQ1.out.ps).mono ?_
 rintro e wp ⟨rfl, rfl⟩
 go_wp2_with fail
 have HQ2 := Lib.hid (HQ1.out.trans (HQ1.out.ps.to (i + 1) HL.out))
 have HB2 := Lib.hid (show (w1.setCell ⟨b, 1, none⟩ (.int .i64 ((i : Int) + 1))).heap[w.heap.size]? = _ from (Below.heap_setCell _ _ _ w.heap.size (by simp only; omega)).trans HB1.out)
 refine (HSN.out _).mono ?_
 rintro e w3 ⟨rfl, hb3⟩
 have HQ3 := Lib.hid (HQ2.out.on hb3)
 have HB3 := Lib.hid ((hb3.block _ (Array.getElem?_eq_some_iff.1 HB2.out).1).trans HB2.out)
 clear hb3 HQ2 HB2 HQ1 HB1 c1 f1
 obtain ⟨w4, e4, h4, hb4, e4'⟩ := put_set2 HB3.out f
 have HQ4 := Lib.hid (HQ3.out.far (hb4.mono (Nat.le_refl _)) hbb)
 clear hb4 HQ3 HB3
 go_wp2_with fail
 refine wp_load_set _ rfl w.heap.size rfl _ _ h4 ?_
 go_wp2_with fail
 exact ret_set3 rfl h4 rfl rfl ⟨f, c.toNat, true, i + 1, 0, rfl, HQ4.out, HC8.out, fits_ok⟩
set_option maxHeartbeats 8000000 in
set_option maxRecDepth 1000000 in
theorem escz_end (b : Nat) (l : List UInt8) (i : Nat) (w : World) (h : ZS b l i 0 w) (hc : Asc.at_ l i = 999) : Calls Tryz.prog 152 #[.pointer (some ⟨b, 0, none⟩)] w (EscZ b l (.error (i, 1)) w) := by
 have hv := (zero_of_info infoS).1
 have hbb := h.st.lt
 have H := Lib.hid h
 have HN := Lib.hid fun W (hW : ZS b l i 0 W) => znext_no b l i 0 W hW hc
 have HF := Lib.hid fun W (hW : ZS b l i 0 W) => zfail b l i 0 1 W hW
 rw [if_pos rfl] at HF
 clear h
 go_enter Tryz.func152, Tryz.ntmps152
 go_wp2_with fail
 rw [← setA_false]
 have HQ0 := Lib.hid ((ZQ.refl H.out).on (al_below w (.cells (setA (fun _ => false)) 213)))
 refine (HN.out _ HQ0.out.ps).mono ?_
 rintro e w1 ⟨rfl, hq⟩
 have HQ1 := Lib.hid (HQ0.out.trans hq)
 have HB1 := Lib.hid ((hq.ap.block (k := w.heap.size) (by omega) (by simp)).trans (heap_alloc_new w _))
 clear hq HQ0
 go_wp2_with fail
 refine (HF.out _ HQ1.out.ps).mono ?_
 rintro e w2 ⟨rfl, hq⟩
 have HQ2 := Lib.hid (HQ1.out.trans hq)
 have h2 := (hq.ap.block (k := w.heap.size) (by omega) (Array.getElem?_eq_some_iff.1 HB1.out).1).trans HB1.out
 have e2 := put_self h2
 clear hq HQ1 HB1
 go_wp2_with fail
 refine wp_load_set _ rfl w.heap.size rfl _ _ h2 ?_
 go_wp2_with fail
 exact ret_set3 rfl h2 rfl rfl ⟨_, 0, false, i, 1, rfl, HQ2.out, by decide, fits_err (by decide)⟩
set_option maxHeartbeats 8000000 in
set_option maxRecDepth 1000000 in
theorem escz_odd (b : Nat) (l : List UInt8) (i : Nat) (w : World) (h : ZS b l i 0 w) (c : UInt8) (hc : Asc.at_ l i = c.toNat) (h1 : c.toNat < 32 ∨ 126 < c.toNat) : Calls Tryz.prog 152 #[.pointer (some ⟨b, 0, none⟩)] w (EscZ b l (.error (i, 1)) w) := by
 have hv := (zero_of_info infoS).1
 have hbb := h.st.lt
 have H := Lib.hid h
 have hlt8 : c.toNat < 256 := UInt8.toNat_lt c
 have HN := Lib.hid fun W (hW : ZS b l i 0 W) => znext_ok b l i W hW c.toNat hc (by omega)
 have z100 : ((c.toNat : Int) == 100) = false := by rw [beq_eq_false_iff_ne]; omega
 have z119 : ((c.toNat : Int) == 119) = false := by rw [beq_eq_false_iff_ne]; omega
 have z115 : ((c.toNat : Int) == 115) = false := by rw [beq_eq_false_iff_ne]; omega
 have z110 : ((c.toNat : Int) == 110) = false := by rw [beq_eq_false_iff_ne]; omega
 have z116 : ((c.toNat : Int) == 116) = false := by rw [beq_eq_false_iff_ne]; omega
 have HF := Lib.hid fun W (hW : ZS b l i 0 W) => zfail b l i 0 1 W hW
 rw [if_pos rfl] at HF
 have HPR := Lib.hid fun W => printable_no c.toNat W h1
 clear hc h1 hlt8
 clear h
 go_enter Tryz.func152, Tryz.ntmps152
 go_wp2_with fail
 rw [← setA_false]
 have HQ0 := Lib.hid ((ZQ.refl H.out).on (al_below w (.cells (setA (fun _ => false)) 213)))
 refine (HN.out _ HQ0.out.ps).mono ?_
 rintro e w1 ⟨rfl, hq⟩
 have HQ1 := Lib.hid (HQ0.out.trans hq)
 have HB1 := Lib.hid ((hq.ap.block (k := w.heap.size) (by omega) (by simp)).trans (heap_alloc_new w _))
 clear hq HQ0
 go_wp2_with fail
 refine (HPR.out _).mono ?_
 rintro e wp ⟨rfl, rfl⟩
 go_wp2_with fail
 refine (HF.out _ HQ1.out.ps).mono ?_
 rintro e w2 ⟨rfl, hq⟩
 have HQ2 := Lib.hid (HQ1.out.trans hq)
 have h2 := (hq.ap.block (k := w.heap.size) (by omega) (Array.getElem?_eq_some_iff.1 HB1.out).1).trans HB1.out
 have e2 := put_self h2
 clear hq HQ1 HB1
 go_wp2_with fail
 refine wp_load_set _ rfl w.heap.size rfl _ _ h2 ?_
 go_wp2_with fail
 exact ret_set3 rfl h2 rfl rfl ⟨_, 0, false, i, 1, rfl, HQ2.out, by decide, fits_err (by decide)⟩
set_option maxHeartbeats 8000000 in
set_option maxRecDepth 1000000 in
theorem escz_letter (b : Nat) (l : List UInt8) (i : Nat) (w : World) (h : ZS b l i 0 w) (c : UInt8) (hc : Asc.at_ l i = c.toNat) (hn1 : c.toNat ≠ 100) (hn2 : c.toNat ≠ 119) (hn3 : c.toNat ≠ 115) (hn4 : c.toNat ≠ 110) (hn5 : c.toNat ≠ 116) (h1 : 32 ≤ c.toNat) (h2 : c.toNat ≤ 126) (h3 : Asc.isLetter c.toNat = true) : Calls Tryz.prog 152 #[.pointer (some ⟨b, 0, none⟩)] w (EscZ b l (.error (i, 1)) w) := by
 have hv := (zero_of_info infoS).1
 have hbb := h.st.lt
 have H := Lib.hid h
 have hlt8 : c.toNat < 256 := UInt8.toNat_lt c
 have HN := Lib.hid fun W (hW : ZS b l i 0 W) => znext_ok b l i W hW c.toNat hc (by omega)
 have z100 : ((c.toNat : Int) == 100) = false := by rw [beq_eq_false_iff_ne]; omega
 have z119 : ((c.toNat : Int) == 119) = false := by rw [beq_eq_false_iff_ne]; omega
 have z115 : ((c.toNat : Int) == 115) = false := by rw [beq_eq_false_iff_ne]; omega
 have z110 : ((c.toNat : Int) == 110) = false := by rw [beq_eq_false_iff_ne]; omega
 have z116 : ((c.toNat : Int) == 116) = false := by rw [beq_eq_false_iff_ne]; omega
 have HF := Lib.hid fun W (hW : ZS b l i 0 W) => zfail b l i 0 1 W hW
 rw [if_pos rfl] at HF
 have HPR := Lib.hid fun W => printable_yes c.toNat W h1 h2
 have HLT := Lib.hid fun W (hW : ZS b l i 0 W) => letter_any c.toNat W hlt8 hW.kd
 rw [h3] at HLT
 clear hc hn1 hn2 hn3 hn4 hn5 h1 h2 h3 hlt8
 clear h
 go_enter Tryz.func152, Tryz.ntmps152
 go_wp2_with fail
 rw [← setA_false]
 have HQ0 := Lib.hid ((ZQ.refl H.out).on (al_below w (.cells (setA (fun _ => false)) 213)))
 refine (HN.out _ HQ0.out.ps).mono ?_
 rintro e w1 ⟨rfl, hq⟩
 have HQ1 := Lib.hid (HQ0.out.trans hq)
 have HB1 := Lib.hid ((hq.ap.block (k := w.heap.size) (by omega) (by simp)).trans (heap_alloc_new w _))
 clear hq HQ0
 go_wp2_with fail
 refine (HPR.out _).mono ?_
 rintro e wp ⟨rfl, rfl⟩
 go_wp2_with fail
 refine (HLT.out _ HQ1.out.ps).mono ?_
 rintro e wp ⟨rfl, rfl⟩
 go_wp2_with fail
 refine (HF.out _ HQ1.out.ps).mono ?_
 rintro e w2 ⟨rfl, hq⟩
 have HQ2 := Lib.hid (HQ1.out.trans hq)
 have h2 := (hq.ap.block (k := w.heap.size) (by omega) (Array.getElem?_eq_some_iff.1 HB1.out).1).trans HB1.out
 have e2 := put_self h2
 clear hq HQ1 HB1
 go_wp2_with fail
 refine wp_load_set _ rfl w.heap.size rfl _ _ h2 ?_
 go_wp2_with fail
 exact ret_set3 rfl h2 rfl rfl ⟨_, 0, false, i, 1, rfl, HQ2.out, by decide, fits_err (by decide)⟩
set_option maxHeartbeats 8000000 in
set_option maxRecDepth 1000000 in
theorem escz_digit (b : Nat) (l : List UInt8) (i : Nat) (w : World) (h : ZS b l i 0 w) (c : UInt8) (hc : Asc.at_ l i = c.toNat) (hn1 : c.toNat ≠ 100) (hn2 : c.toNat ≠ 119) (hn3 : c.toNat ≠ 115) (hn4 : c.toNat ≠ 110) (hn5 : c.toNat ≠ 116) (h1 : 32 ≤ c.toNat) (h2 : c.toNat ≤ 126) (h3 : Asc.isLetter c.toNat = false) (h4 : Asc.isDigit c.toNat = true) : Calls Tryz.prog 152 #[.pointer (some ⟨b, 0, none⟩)] w (EscZ b l (.error (i, 1)) w) := by
 have hv := (zero_of_info infoS).1
 have hbb := h.st.lt
 have H := Lib.hid h
 have hlt8 : c.toNat < 256 := UInt8.toNat_lt c
 have HN := Lib.hid fun W (hW : ZS b l i 0 W) => znext_ok b l i W hW c.toNat hc (by omega)
 have z100 : ((c.toNat : Int) == 100) = false := by rw [beq_eq_false_iff_ne]; omega
 have z119 : ((c.toNat : Int) == 119) = false := by rw [beq_eq_false_iff_ne]; omega
 have z115 : ((c.toNat : Int) == 115) = false := by rw [beq_eq_false_iff_ne]; omega
 have z110 : ((c.toNat : Int) == 110) = false := by rw [beq_eq_false_iff_ne]; omega
 have z116 : ((c.toNat : Int) == 116) = false := by rw [beq_eq_false_iff_ne]; omega
 have HF := Lib.hid fun W (hW : ZS b l i 0 W) => zfail b l i 0 1 W hW
 rw [if_pos rfl] at HF
 have HPR := Lib.hid fun W => printable_yes c.toNat W h1 h2
 have HLT := Lib.hid fun W (hW : ZS b l i 0 W) => letter_any c.toNat W hlt8 hW.kd
 rw [h3] at HLT
 have HDG := Lib.hid fun W (hW : ZS b l i 0 W) => digit_any c.toNat W hlt8 hW.kd
 rw [h4] at HDG
 clear hc hn1 hn2 hn3 hn4 hn5 h1 h2 h3 h4 hlt8
 clear h
 go_enter Tryz.func152, Tryz.ntmps152
 go_wp2_with fail
 rw [← setA_false]
 have HQ0 := Lib.hid ((ZQ.refl H.out).on (al_below w (.cells (setA (fun _ => false)) 213)))
 refine (HN.out _ HQ0.out.ps).mono ?_
 rintro e w1 ⟨rfl, hq⟩
 have HQ1 := Lib.hid (HQ0.out.trans hq)
 have HB1 := Lib.hid ((hq.ap.block (k := w.heap.size) (by omega) (by simp)).trans (heap_alloc_new w _))
 clear hq HQ0
 go_wp2_with fail
 refine (HPR.out _).mono ?_
 rintro e wp ⟨rfl, rfl⟩
 go_wp2_with fail
 refine (HLT.out _ HQ1.out.ps).mono ?_
 rintro e wp ⟨rfl, rfl⟩
 go_wp2_with fail
 refine (HDG.out _ HQ1.out.ps).mono ?_
 rintro e wp ⟨rfl, rfl⟩
 go_wp2_with fail
 refine (HF.out _ HQ1.out.ps).mono ?_
 rintro e w2 ⟨rfl, hq⟩
 have HQ2 := Lib.hid (HQ1.out.trans hq)
 have h2 := (hq.ap.block (k := w.heap.size) (by omega) (Array.getElem?_eq_some_iff.1 HB1.out).1).trans HB1.out
 have e2 := put_self h2
 clear hq HQ1 HB1
 go_wp2_with fail
 refine wp_load_set _ rfl w.heap.size rfl _ _ h2 ?_
 go_wp2_with fail
 exact ret_set3 rfl h2 rfl rfl ⟨_, 0, false, i, 1, rfl, HQ2.out, by decide, fits_err (by decide)⟩
theorem esc_any (b : Nat) (l : List UInt8) (i : Nat) (w : World) (h : ZS b l i 0 w) : Calls Tryz.prog 152 #[.pointer (some ⟨b, 0, none⟩)] w (EscZ b l (escM l i) w) := by
 unfold escM
 by_cases h1 : Asc.at_ l i = 100
 ·rw [if_pos h1]
  exact escz_d b l i w h h1
 rw [if_neg h1]
 by_cases h2 : Asc.at_ l i = 119
 ·rw [if_pos h2]
  exact escz_w b l i w h h2
 rw [if_neg h2]
 by_cases h3 : Asc.at_ l i = 115
 ·rw [if_pos h3]
  exact escz_s b l i w h h3
 rw [if_neg h3]
 by_cases h4 : Asc.at_ l i = 110
 ·rw [if_pos h4]
  exact escz_n b l i w h h4
 rw [if_neg h4]
 by_cases h5 : Asc.at_ l i = 116
 ·rw [if_pos h5]
  exact escz_t b l i w h h5
 rw [if_neg h5]
 by_cases h6 : selfE (Asc.at_ l i) = true
 ·rw [if_pos h6]
  simp only [selfE, Bool.and_eq_true, decide_eq_true_eq, Bool.not_eq_true'] at h6
  obtain ⟨⟨⟨ha, hb⟩, hd⟩, he⟩ := h6
  obtain ⟨c, hc⟩ := at_u8 (l := l) (i := i) (by omega)
  rw [hc] at h1 h2 h3 h4 h5 ha hb hd he ⊢
  exact escz_self b l i w h c hc h1 h2 h3 h4 h5 ha hb hd he
 rw [if_neg h6]
 rcases at_two l i with h9 | h9
 ·obtain ⟨c, hc⟩ := at_u8 (l := l) (i := i) h9
  rw [hc] at h1 h2 h3 h4 h5 h6
  by_cases ha : c.toNat < 32 ∨ 126 < c.toNat
  ·exact escz_odd b l i w h c hc ha
  ·have ha1 : 32 ≤ c.toNat := by omega
   have ha2 : c.toNat ≤ 126 := by omega
   cases hd : Asc.isLetter c.toNat with
   | true => exact escz_letter b l i w h c hc h1 h2 h3 h4 h5 ha1 ha2 hd
   | false =>
    cases he : Asc.isDigit c.toNat with
    | true => exact escz_digit b l i w h c hc h1 h2 h3 h4 h5 ha1 ha2 hd he
    | false => exact absurd (by simp [selfE, ha1, ha2, hd, he]) h6
 ·exact escz_end b l i w h h9
end Go.Proofs.YtmpbjaodgajnfaaGreatDoor

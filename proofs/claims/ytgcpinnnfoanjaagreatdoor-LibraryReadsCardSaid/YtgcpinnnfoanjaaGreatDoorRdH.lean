/-
 Joined: PzC, PzD.
-/
import Derived.Test.YtgcpinnnfoanjaaGreatDoorRdG
namespace Go.Proofs.YtgcpinnnfoanjaaGreatDoor
open Go.RowKit
def EscZ (b : Nat) (l : List UInt8) (r : Out ((Nat → Bool) × Nat × Bool)) (w : World) (en : Ending) (w' : World) : Prop := ∃ f c one j e, en = .returned (.tuple #[.agg (setA f), .int .u8 ((c : Nat) : Int), .bool one]) ∧ ZQ b l j e w w' ∧ c < 256 ∧ fits r (f, c, one) j e
theorem where_word (w : World) (hk : Kinds w) : Calls Tryz.prog 148 #[.func (.func 68) #[] #[]] w fun e w' => e = .returned (.agg (setA Asc.isWord)) ∧ Below w.heap.size w w' :=
 where_any _ (enters_of (P := Tryz.prog) (fn := Tryz.f68) (by kernel_rfl) (by kernel_rfl) rfl) _ w (fun c hc W hb => word_any c W hc (hk.below hb))
theorem where_space (w : World) (hk : Kinds w) : Calls Tryz.prog 148 #[.func (.func 65) #[] #[]] w fun e w' => e = .returned (.agg (setA Asc.isSpace)) ∧ Below w.heap.size w w' :=
 where_any _ (enters_of (P := Tryz.prog) (fn := Tryz.f65) (by kernel_rfl) (by kernel_rfl) rfl) _ w (fun c hc W hb => space_any c W hc (hk.below hb))
theorem at_u8 {l : List UInt8} {i : Nat} (h : Asc.at_ l i < 256) : ∃ c : UInt8, Asc.at_ l i = c.toNat := ⟨UInt8.ofNat (Asc.at_ l i), (ofNat8 h).symm⟩
set_option maxHeartbeats 8000000 in
set_option maxRecDepth 1000000 in
theorem escz_d (b : Nat) (l : List UInt8) (i : Nat) (w : World) (h : ZS b l i 0 w) (hc : Asc.at_ l i = 100) : Calls Tryz.prog 129 #[.pointer (some ⟨b, 0, none⟩)] w (EscZ b l (.ok ((Asc.isDigit, 100, false), i + 1)) w) := by
 have hv := (zero_of_info infoS).1
 have hbb := h.st.lt
 have H := Lib.hid h
 have hl : i < l.length := Asc.at_lt (by omega)
 have hl2 := h.len
 have hw : IntKind.i64.wrap ((i : Int) + 1) = (i : Int) + 1 := IntWalk.i64_in _ (by omega)
 have HL := Lib.hid hl
 have HN := Lib.hid fun W (hW : ZS b l i 0 W) => znext_ok b l i W hW 100 hc (by omega)
 clear hl
 clear h
 go_enter Tryz.func129, Tryz.ntmps129
 go_wp2_with fail
 rw [← setA_false]
 have HQ0 := Lib.hid ((ZQ.refl H.out).on (al_below w (.cells (setA (fun _ => false)) 160)))
 refine (HN.out _ HQ0.out.ps).mono ?_
 rintro e w1 ⟨rfl, hq⟩
 have HQ1 := Lib.hid (HQ0.out.trans hq)
 have HB1 := Lib.hid ((hq.ap.block (k := w.heap.size) (by omega) (by simp)).trans (heap_alloc_new w _))
 clear hq HQ0
 go_wp2_with fail
 refine (where_digit w1 HQ1.out.ps.kd).mono ?_
 rintro e w2 ⟨rfl, hb2⟩
 have HB2 := Lib.hid ((hb2.block _ (Array.getElem?_eq_some_iff.1 HB1.out).1).trans HB1.out)
 have HQ2 := Lib.hid (HQ1.out.on hb2)
 clear hb2 HQ1 HB1
 obtain ⟨w3, e3, h3, hb3, e3'⟩ := put_set2 HB2.out Asc.isDigit
 have HQ3 := Lib.hid (HQ2.out.far (hb3.mono (Nat.le_refl _)) hbb)
 have HB3 := Lib.hid h3
 have c1 := HQ3.out.ps.c1
 have f1 := HQ3.out.ps.f1
 clear h3 hb3 HQ2 HB2
 go_wp2_with fail
 have h4 : (w3.setCell ⟨b, 1, none⟩ (.int .i64 ((i : Int) + 1))).heap[w.heap.size]? = _ := (Below.heap_setCell _ _ _ w.heap.size (by simp only; omega)).trans HB3.out
 have e4 := put_self h4
 refine wp_load_set _ rfl w.heap.size rfl _ _ h4 ?_
 go_wp2_with fail
 exact ret_set3 rfl h4 rfl rfl ⟨Asc.isDigit, 100, false, i + 1, 0, rfl, HQ3.out.trans (HQ3.out.ps.to (i + 1) HL.out), by decide, fits_ok⟩
set_option maxHeartbeats 8000000 in
set_option maxRecDepth 1000000 in
theorem escz_w (b : Nat) (l : List UInt8) (i : Nat) (w : World) (h : ZS b l i 0 w) (hc : Asc.at_ l i = 119) : Calls Tryz.prog 129 #[.pointer (some ⟨b, 0, none⟩)] w (EscZ b l (.ok ((Asc.isWord, 119, false), i + 1)) w) := by
 have hv := (zero_of_info infoS).1
 have hbb := h.st.lt
 have H := Lib.hid h
 have hl : i < l.length := Asc.at_lt (by omega)
 have hl2 := h.len
 have hw : IntKind.i64.wrap ((i : Int) + 1) = (i : Int) + 1 := IntWalk.i64_in _ (by omega)
 have HL := Lib.hid hl
 have HN := Lib.hid fun W (hW : ZS b l i 0 W) => znext_ok b l i W hW 119 hc (by omega)
 clear hl
 clear h
 go_enter Tryz.func129, Tryz.ntmps129
 go_wp2_with fail
 rw [← setA_false]
 have HQ0 := Lib.hid ((ZQ.refl H.out).on (al_below w (.cells (setA (fun _ => false)) 160)))
 refine (HN.out _ HQ0.out.ps).mono ?_
 rintro e w1 ⟨rfl, hq⟩
 have HQ1 := Lib.hid (HQ0.out.trans hq)
 have HB1 := Lib.hid ((hq.ap.block (k := w.heap.size) (by omega) (by simp)).trans (heap_alloc_new w _))
 clear hq HQ0
 go_wp2_with fail
 refine (where_word w1 HQ1.out.ps.kd).mono ?_
 rintro e w2 ⟨rfl, hb2⟩
 have HB2 := Lib.hid ((hb2.block _ (Array.getElem?_eq_some_iff.1 HB1.out).1).trans HB1.out)
 have HQ2 := Lib.hid (HQ1.out.on hb2)
 clear hb2 HQ1 HB1
 obtain ⟨w3, e3, h3, hb3, e3'⟩ := put_set2 HB2.out Asc.isWord
 have HQ3 := Lib.hid (HQ2.out.far (hb3.mono (Nat.le_refl _)) hbb)
 have HB3 := Lib.hid h3
 have c1 := HQ3.out.ps.c1
 have f1 := HQ3.out.ps.f1
 clear h3 hb3 HQ2 HB2
 go_wp2_with fail
 have h4 : (w3.setCell ⟨b, 1, none⟩ (.int .i64 ((i : Int) + 1))).heap[w.heap.size]? = _ := (Below.heap_setCell _ _ _ w.heap.size (by simp only; omega)).trans HB3.out
 have e4 := put_self h4
 refine wp_load_set _ rfl w.heap.size rfl _ _ h4 ?_
 go_wp2_with fail
 exact ret_set3 rfl h4 rfl rfl ⟨Asc.isWord, 119, false, i + 1, 0, rfl, HQ3.out.trans (HQ3.out.ps.to (i + 1) HL.out), by decide, fits_ok⟩
set_option maxHeartbeats 8000000 in
set_option maxRecDepth 1000000 in
theorem escz_s (b : Nat) (l : List UInt8) (i : Nat) (w : World) (h : ZS b l i 0 w) (hc : Asc.at_ l i = 115) : Calls Tryz.prog 129 #[.pointer (some ⟨b, 0, none⟩)] w (EscZ b l (.ok ((Asc.isSpace, 115, false), i + 1)) w) := by
 have hv := (zero_of_info infoS).1
 have hbb := h.st.lt
 have H := Lib.hid h
 have hl : i < l.length := Asc.at_lt (by omega)
 have hl2 := h.len
 have hw : IntKind.i64.wrap ((i : Int) + 1) = (i : Int) + 1 := IntWalk.i64_in _ (by omega)
 have HL := Lib.hid hl
 have HN := Lib.hid fun W (hW : ZS b l i 0 W) => znext_ok b l i W hW 115 hc (by omega)
 clear hl
 clear h
 go_enter Tryz.func129, Tryz.ntmps129
 go_wp2_with fail
 rw [← setA_false]
 have HQ0 := Lib.hid ((ZQ.refl H.out).on (al_below w (.cells (setA (fun _ => false)) 160)))
 refine (HN.out _ HQ0.out.ps).mono ?_
 rintro e w1 ⟨rfl, hq⟩
 have HQ1 := Lib.hid (HQ0.out.trans hq)
 have HB1 := Lib.hid ((hq.ap.block (k := w.heap.size) (by omega) (by simp)).trans (heap_alloc_new w _))
 clear hq HQ0
 go_wp2_with fail
 refine (where_space w1 HQ1.out.ps.kd).mono ?_
 rintro e w2 ⟨rfl, hb2⟩
 have HB2 := Lib.hid ((hb2.block _ (Array.getElem?_eq_some_iff.1 HB1.out).1).trans HB1.out)
 have HQ2 := Lib.hid (HQ1.out.on hb2)
 clear hb2 HQ1 HB1
 obtain ⟨w3, e3, h3, hb3, e3'⟩ := put_set2 HB2.out Asc.isSpace
 have HQ3 := Lib.hid (HQ2.out.far (hb3.mono (Nat.le_refl _)) hbb)
 have HB3 := Lib.hid h3
 have c1 := HQ3.out.ps.c1
 have f1 := HQ3.out.ps.f1
 clear h3 hb3 HQ2 HB2
 go_wp2_with fail
 have h4 : (w3.setCell ⟨b, 1, none⟩ (.int .i64 ((i : Int) + 1))).heap[w.heap.size]? = _ := (Below.heap_setCell _ _ _ w.heap.size (by simp only; omega)).trans HB3.out
 have e4 := put_self h4
 refine wp_load_set _ rfl w.heap.size rfl _ _ h4 ?_
 go_wp2_with fail
 exact ret_set3 rfl h4 rfl rfl ⟨Asc.isSpace, 115, false, i + 1, 0, rfl, HQ3.out.trans (HQ3.out.ps.to (i + 1) HL.out), by decide, fits_ok⟩
set_option maxHeartbeats 8000000 in
set_option maxRecDepth 1000000 in
theorem escz_n (b : Nat) (l : List UInt8) (i : Nat) (w : World) (h : ZS b l i 0 w) (hc : Asc.at_ l i = 110) : Calls Tryz.prog 129 #[.pointer (some ⟨b, 0, none⟩)] w (EscZ b l (.ok ((spanF 10 11, 10, true), i + 1)) w) := by
 have hv := (zero_of_info infoS).1
 have hbb := h.st.lt
 have H := Lib.hid h
 have hl : i < l.length := Asc.at_lt (by omega)
 have hl2 := h.len
 have hw : IntKind.i64.wrap ((i : Int) + 1) = (i : Int) + 1 := IntWalk.i64_in _ (by omega)
 have HL := Lib.hid hl
 have HN := Lib.hid fun W (hW : ZS b l i 0 W) => znext_ok b l i W hW 110 hc (by omega)
 have HSN := Lib.hid (fun W => (show Calls Tryz.prog 126 #[.int .u8 10, .int .u8 10] W (fun e w' => e = .returned (.agg (setA (spanF 10 11))) ∧ Below W.heap.size W w') from span_any 10 10 W))
 clear hl
 clear h
 go_enter Tryz.func129, Tryz.ntmps129
 go_wp2_with fail
 rw [← setA_false]
 have HQ0 := Lib.hid ((ZQ.refl H.out).on (al_below w (.cells (setA (fun _ => false)) 160)))
 refine (HN.out _ HQ0.out.ps).mono ?_
 rintro e w1 ⟨rfl, hq⟩
 have HQ1 := Lib.hid (HQ0.out.trans hq)
 have HB1 := Lib.hid ((hq.ap.block (k := w.heap.size) (by omega) (by simp)).trans (heap_alloc_new w _))
 clear hq HQ0
 have c1 := HQ1.out.ps.c1
 have f1 := HQ1.out.ps.f1
 go_wp2_with fail
 have HQ2 := Lib.hid (HQ1.out.trans (HQ1.out.ps.to (i + 1) HL.out))
 have HB2 := Lib.hid (show (w1.setCell ⟨b, 1, none⟩ (.int .i64 ((i : Int) + 1))).heap[w.heap.size]? = _ from (Below.heap_setCell _ _ _ w.heap.size (by simp only; omega)).trans HB1.out)
 refine (HSN.out _).mono ?_
 rintro e w3 ⟨rfl, hb3⟩
 have HQ3 := Lib.hid (HQ2.out.on hb3)
 have HB3 := Lib.hid ((hb3.block _ (Array.getElem?_eq_some_iff.1 HB2.out).1).trans HB2.out)
 clear hb3 HQ2 HB2 HQ1 HB1 c1 f1
 obtain ⟨w4, e4, h4, hb4, e4'⟩ := put_set2 HB3.out (spanF 10 11)
 have HQ4 := Lib.hid (HQ3.out.far (hb4.mono (Nat.le_refl _)) hbb)
 clear hb4 HQ3 HB3
 go_wp2_with fail
 refine wp_load_set _ rfl w.heap.size rfl _ _ h4 ?_
 go_wp2_with fail
 exact ret_set3 rfl h4 rfl rfl ⟨(spanF 10 11), 10, true, i + 1, 0, rfl, HQ4.out, by first | decide | omega, fits_ok⟩
set_option maxHeartbeats 8000000 in
set_option maxRecDepth 1000000 in
theorem escz_t (b : Nat) (l : List UInt8) (i : Nat) (w : World) (h : ZS b l i 0 w) (hc : Asc.at_ l i = 116) : Calls Tryz.prog 129 #[.pointer (some ⟨b, 0, none⟩)] w (EscZ b l (.ok ((spanF 9 10, 9, true), i + 1)) w) := by
 have hv := (zero_of_info infoS).1
 have hbb := h.st.lt
 have H := Lib.hid h
 have hl : i < l.length := Asc.at_lt (by omega)
 have hl2 := h.len
 have hw : IntKind.i64.wrap ((i : Int) + 1) = (i : Int) + 1 := IntWalk.i64_in _ (by omega)
 have HL := Lib.hid hl
 have HN := Lib.hid fun W (hW : ZS b l i 0 W) => znext_ok b l i W hW 116 hc (by omega)
 have HSN := Lib.hid (fun W => (show Calls Tryz.prog 126 #[.int .u8 9, .int .u8 9] W (fun e w' => e = .returned (.agg (setA (spanF 9 10))) ∧ Below W.heap.size W w') from span_any 9 9 W))
 clear hl
 clear h
 go_enter Tryz.func129, Tryz.ntmps129
 go_wp2_with fail
 rw [← setA_false]
 have HQ0 := Lib.hid ((ZQ.refl H.out).on (al_below w (.cells (setA (fun _ => false)) 160)))
 refine (HN.out _ HQ0.out.ps).mono ?_
 rintro e w1 ⟨rfl, hq⟩
 have HQ1 := Lib.hid (HQ0.out.trans hq)
 have HB1 := Lib.hid ((hq.ap.block (k := w.heap.size) (by omega) (by simp)).trans (heap_alloc_new w _))
 clear hq HQ0
 have c1 := HQ1.out.ps.c1
 have f1 := HQ1.out.ps.f1
 go_wp2_with fail
 have HQ2 := Lib.hid (HQ1.out.trans (HQ1.out.ps.to (i + 1) HL.out))
 have HB2 := Lib.hid (show (w1.setCell ⟨b, 1, none⟩ (.int .i64 ((i : Int) + 1))).heap[w.heap.size]? = _ from (Below.heap_setCell _ _ _ w.heap.size (by simp only; omega)).trans HB1.out)
 refine (HSN.out _).mono ?_
 rintro e w3 ⟨rfl, hb3⟩
 have HQ3 := Lib.hid (HQ2.out.on hb3)
 have HB3 := Lib.hid ((hb3.block _ (Array.getElem?_eq_some_iff.1 HB2.out).1).trans HB2.out)
 clear hb3 HQ2 HB2 HQ1 HB1 c1 f1
 obtain ⟨w4, e4, h4, hb4, e4'⟩ := put_set2 HB3.out (spanF 9 10)
 have HQ4 := Lib.hid (HQ3.out.far (hb4.mono (Nat.le_refl _)) hbb)
 clear hb4 HQ3 HB3
 go_wp2_with fail
 refine wp_load_set _ rfl w.heap.size rfl _ _ h4 ?_
 go_wp2_with fail
 exact ret_set3 rfl h4 rfl rfl ⟨(spanF 9 10), 9, true, i + 1, 0, rfl, HQ4.out, by first | decide | omega, fits_ok⟩
set_option maxHeartbeats 8000000 in
set_option maxRecDepth 1000000 in
theorem escz_self (b : Nat) (l : List UInt8) (i : Nat) (w : World) (h : ZS b l i 0 w) (c : UInt8) (hc : Asc.at_ l i = c.toNat) (hn1 : c.toNat ≠ 100) (hn2 : c.toNat ≠ 119) (hn3 : c.toNat ≠ 115) (hn4 : c.toNat ≠ 110) (hn5 : c.toNat ≠ 116) (h1 : 32 ≤ c.toNat) (h2 : c.toNat ≤ 126) (h3 : Asc.isLetter c.toNat = false) (h4 : Asc.isDigit c.toNat = false) : Calls Tryz.prog 129 #[.pointer (some ⟨b, 0, none⟩)] w (EscZ b l (.ok ((spanF c.toNat (c.toNat + 1), c.toNat, true), i + 1)) w) := by
 have hv := (zero_of_info infoS).1
 have hbb := h.st.lt
 have H := Lib.hid h
 have hlt8 : c.toNat < 256 := UInt8.toNat_lt c
 have hl : i < l.length := Asc.at_lt (by omega)
 have hl2 := h.len
 have hw : IntKind.i64.wrap ((i : Int) + 1) = (i : Int) + 1 := IntWalk.i64_in _ (by omega)
 have HL := Lib.hid hl
 have HN := Lib.hid fun W (hW : ZS b l i 0 W) => znext_ok b l i W hW c.toNat hc (by omega)
 have z100 : ((c.toNat : Int) == 100) = false := by rw [beq_eq_false_iff_ne]; omega
 have z119 : ((c.toNat : Int) == 119) = false := by rw [beq_eq_false_iff_ne]; omega
 have z115 : ((c.toNat : Int) == 115) = false := by rw [beq_eq_false_iff_ne]; omega
 have z110 : ((c.toNat : Int) == 110) = false := by rw [beq_eq_false_iff_ne]; omega
 have z116 : ((c.toNat : Int) == 116) = false := by rw [beq_eq_false_iff_ne]; omega
 have HPR := Lib.hid fun W => printable_yes c.toNat W h1 h2
 have HLT := Lib.hid fun W (hW : ZS b l i 0 W) => letter_any c.toNat W hlt8 hW.kd
 rw [h3] at HLT
 have HDG := Lib.hid fun W (hW : ZS b l i 0 W) => digit_any c.toNat W hlt8 hW.kd
 rw [h4] at HDG
 have HSN := Lib.hid fun W => span_any c c W
 have HC8 := Lib.hid hlt8
 clear hl hc hn1 hn2 hn3 hn4 hn5 h1 h2 h3 h4 hlt8
 obtain ⟨f, hf⟩ : ∃ f, spanF c.toNat (c.toNat + 1) = f := ⟨_, rfl⟩
 rw [hf] at HSN ⊢
 clear hf
 clear h
 go_enter Tryz.func129, Tryz.ntmps129
 go_wp2_with fail
 rw [← setA_false]
 have HQ0 := Lib.hid ((ZQ.refl H.out).on (al_below w (.cells (setA (fun _ => false)) 160)))
 refine (HN.out _ HQ0.out.ps).mono ?_
 rintro e w1 ⟨rfl, hq⟩
 have HQ1 := Lib.hid (HQ0.out.trans hq)
 have HB1 := Lib.hid ((hq.ap.block (k := w.heap.size) (by omega) (by simp)).trans (heap_alloc_new w _))
 clear hq HQ0
 have c1 := HQ1.out.ps.c1
 have f1 := HQ1.out.ps.f1
 go_wp2_with fail
 refine (HPR.out _).mono ?_
 rintro e wp ⟨rfl, rfl⟩
 go_wp2_with fail
 refine (HLT.out _ HQ1.out.ps).mono ?_
 rintro e wp ⟨rfl, rfl⟩
 go_wp2_with fail
 refine (HDG.out _ HQ1.out.ps).mono ?_
 rintro e wp ⟨rfl, rfl⟩
 go_wp2_with fail
 have HQ2 := Lib.hid (HQ1.out.trans (HQ1.out.ps.to (i + 1) HL.out))
 have HB2 := Lib.hid (show (w1.setCell ⟨b, 1, none⟩ (.int .i64 ((i : Int) + 1))).heap[w.heap.size]? = _ from (Below.heap_setCell _ _ _ w.heap.size (by simp only; omega)).trans HB1.out)
 refine (HSN.out _).mono ?_
 rintro e w3 ⟨rfl, hb3⟩
 have HQ3 := Lib.hid (HQ2.out.on hb3)
 have HB3 := Lib.hid ((hb3.block _ (Array.getElem?_eq_some_iff.1 HB2.out).1).trans HB2.out)
 clear hb3 HQ2 HB2 HQ1 HB1 c1 f1
 obtain ⟨w4, e4, h4, hb4, e4'⟩ := put_set2 HB3.out f
 have HQ4 := Lib.hid (HQ3.out.far (hb4.mono (Nat.le_refl _)) hbb)
 clear hb4 HQ3 HB3
 go_wp2_with fail
 refine wp_load_set _ rfl w.heap.size rfl _ _ h4 ?_
 go_wp2_with fail
 exact ret_set3 rfl h4 rfl rfl ⟨f, c.toNat, true, i + 1, 0, rfl, HQ4.out, HC8.out, fits_ok⟩
set_option maxHeartbeats 8000000 in
set_option maxRecDepth 1000000 in
theorem escz_end (b : Nat) (l : List UInt8) (i : Nat) (w : World) (h : ZS b l i 0 w) (hc : Asc.at_ l i = 999) : Calls Tryz.prog 129 #[.pointer (some ⟨b, 0, none⟩)] w (EscZ b l (.error (i, 1)) w) := by
 have hv := (zero_of_info infoS).1
 have hbb := h.st.lt
 have H := Lib.hid h
 have HN := Lib.hid fun W (hW : ZS b l i 0 W) => znext_no b l i 0 W hW hc
 have HF := Lib.hid fun W (hW : ZS b l i 0 W) => zfail b l i 0 1 W hW
 rw [if_pos rfl] at HF
 clear h
 go_enter Tryz.func129, Tryz.ntmps129
 go_wp2_with fail
 rw [← setA_false]
 have HQ0 := Lib.hid ((ZQ.refl H.out).on (al_below w (.cells (setA (fun _ => false)) 160)))
 refine (HN.out _ HQ0.out.ps).mono ?_
 rintro e w1 ⟨rfl, hq⟩
 have HQ1 := Lib.hid (HQ0.out.trans hq)
 have HB1 := Lib.hid ((hq.ap.block (k := w.heap.size) (by omega) (by simp)).trans (heap_alloc_new w _))
 clear hq HQ0
 go_wp2_with fail
 refine (HF.out _ HQ1.out.ps).mono ?_
 rintro e w2 ⟨rfl, hq⟩
 have HQ2 := Lib.hid (HQ1.out.trans hq)
 have h2 := (hq.ap.block (k := w.heap.size) (by omega) (Array.getElem?_eq_some_iff.1 HB1.out).1).trans HB1.out
 have e2 := put_self h2
 clear hq HQ1 HB1
 go_wp2_with fail
 refine wp_load_set _ rfl w.heap.size rfl _ _ h2 ?_
 go_wp2_with fail
 exact ret_set3 rfl h2 rfl rfl ⟨_, 0, false, i, 1, rfl, HQ2.out, by decide, fits_err (by decide)⟩
set_option maxHeartbeats 8000000 in
set_option maxRecDepth 1000000 in
theorem escz_odd (b : Nat) (l : List UInt8) (i : Nat) (w : World) (h : ZS b l i 0 w) (c : UInt8) (hc : Asc.at_ l i = c.toNat) (h1 : c.toNat < 32 ∨ 126 < c.toNat) : Calls Tryz.prog 129 #[.pointer (some ⟨b, 0, none⟩)] w (EscZ b l (.error (i, 1)) w) := by
 have hv := (zero_of_info infoS).1
 have hbb := h.st.lt
 have H := Lib.hid h
 have hlt8 : c.toNat < 256 := UInt8.toNat_lt c
 have HN := Lib.hid fun W (hW : ZS b l i 0 W) => znext_ok b l i W hW c.toNat hc (by omega)
 have z100 : ((c.toNat : Int) == 100) = false := by rw [beq_eq_false_iff_ne]; omega
 have z119 : ((c.toNat : Int) == 119) = false := by rw [beq_eq_false_iff_ne]; omega
 have z115 : ((c.toNat : Int) == 115) = false := by rw [beq_eq_false_iff_ne]; omega
 have z110 : ((c.toNat : Int) == 110) = false := by rw [beq_eq_false_iff_ne]; omega
 have z116 : ((c.toNat : Int) == 116) = false := by rw [beq_eq_false_iff_ne]; omega
 have HF := Lib.hid fun W (hW : ZS b l i 0 W) => zfail b l i 0 1 W hW
 rw [if_pos rfl] at HF
 have HPR := Lib.hid fun W => printable_no c.toNat W h1
 clear hc h1 hlt8
 clear h
 go_enter Tryz.func129, Tryz.ntmps129
 go_wp2_with fail
 rw [← setA_false]
 have HQ0 := Lib.hid ((ZQ.refl H.out).on (al_below w (.cells (setA (fun _ => false)) 160)))
 refine (HN.out _ HQ0.out.ps).mono ?_
 rintro e w1 ⟨rfl, hq⟩
 have HQ1 := Lib.hid (HQ0.out.trans hq)
 have HB1 := Lib.hid ((hq.ap.block (k := w.heap.size) (by omega) (by simp)).trans (heap_alloc_new w _))
 clear hq HQ0
 go_wp2_with fail
 refine (HPR.out _).mono ?_
 rintro e wp ⟨rfl, rfl⟩
 go_wp2_with fail
 refine (HF.out _ HQ1.out.ps).mono ?_
 rintro e w2 ⟨rfl, hq⟩
 have HQ2 := Lib.hid (HQ1.out.trans hq)
 have h2 := (hq.ap.block (k := w.heap.size) (by omega) (Array.getElem?_eq_some_iff.1 HB1.out).1).trans HB1.out
 have e2 := put_self h2
 clear hq HQ1 HB1
 go_wp2_with fail
 refine wp_load_set _ rfl w.heap.size rfl _ _ h2 ?_
 go_wp2_with fail
 exact ret_set3 rfl h2 rfl rfl ⟨_, 0, false, i, 1, rfl, HQ2.out, by decide, fits_err (by decide)⟩
set_option maxHeartbeats 8000000 in
set_option maxRecDepth 1000000 in
theorem escz_letter (b : Nat) (l : List UInt8) (i : Nat) (w : World) (h : ZS b l i 0 w) (c : UInt8) (hc : Asc.at_ l i = c.toNat) (hn1 : c.toNat ≠ 100) (hn2 : c.toNat ≠ 119) (hn3 : c.toNat ≠ 115) (hn4 : c.toNat ≠ 110) (hn5 : c.toNat ≠ 116) (h1 : 32 ≤ c.toNat) (h2 : c.toNat ≤ 126) (h3 : Asc.isLetter c.toNat = true) : Calls Tryz.prog 129 #[.pointer (some ⟨b, 0, none⟩)] w (EscZ b l (.error (i, 1)) w) := by
 have hv := (zero_of_info infoS).1
 have hbb := h.st.lt
 have H := Lib.hid h
 have hlt8 : c.toNat < 256 := UInt8.toNat_lt c
 have HN := Lib.hid fun W (hW : ZS b l i 0 W) => znext_ok b l i W hW c.toNat hc (by omega)
 have z100 : ((c.toNat : Int) == 100) = false := by rw [beq_eq_false_iff_ne]; omega
 have z119 : ((c.toNat : Int) == 119) = false := by rw [beq_eq_false_iff_ne]; omega
 have z115 : ((c.toNat : Int) == 115) = false := by rw [beq_eq_false_iff_ne]; omega
 have z110 : ((c.toNat : Int) == 110) = false := by rw [beq_eq_false_iff_ne]; omega
 have z116 : ((c.toNat : Int) == 116) = false := by rw [beq_eq_false_iff_ne]; omega
 have HF := Lib.hid fun W (hW : ZS b l i 0 W) => zfail b l i 0 1 W hW
 rw [if_pos rfl] at HF
 have HPR := Lib.hid fun W => printable_yes c.toNat W h1 h2
 have HLT := Lib.hid fun W (hW : ZS b l i 0 W) => letter_any c.toNat W hlt8 hW.kd
 rw [h3] at HLT
 clear hc hn1 hn2 hn3 hn4 hn5 h1 h2 h3 hlt8
 clear h
 go_enter Tryz.func129, Tryz.ntmps129
 go_wp2_with fail
 rw [← setA_false]
 have HQ0 := Lib.hid ((ZQ.refl H.out).on (al_below w (.cells (setA (fun _ => false)) 160)))
 refine (HN.out _ HQ0.out.ps).mono ?_
 rintro e w1 ⟨rfl, hq⟩
 have HQ1 := Lib.hid (HQ0.out.trans hq)
 have HB1 := Lib.hid ((hq.ap.block (k := w.heap.size) (by omega) (by simp)).trans (heap_alloc_new w _))
 clear hq HQ0
 go_wp2_with fail
 refine (HPR.out _).mono ?_
 rintro e wp ⟨rfl, rfl⟩
 go_wp2_with fail
 refine (HLT.out _ HQ1.out.ps).mono ?_
 rintro e wp ⟨rfl, rfl⟩
 go_wp2_with fail
 refine (HF.out _ HQ1.out.ps).mono ?_
 rintro e w2 ⟨rfl, hq⟩
 have HQ2 := Lib.hid (HQ1.out.trans hq)
 have h2 := (hq.ap.block (k := w.heap.size) (by omega) (Array.getElem?_eq_some_iff.1 HB1.out).1).trans HB1.out
 have e2 := put_self h2
 clear hq HQ1 HB1
 go_wp2_with fail
 refine wp_load_set _ rfl w.heap.size rfl _ _ h2 ?_
 go_wp2_with fail
 exact ret_set3 rfl h2 rfl rfl ⟨_, 0, false, i, 1, rfl, HQ2.out, by decide, fits_err (by decide)⟩
set_option maxHeartbeats 8000000 in
set_option maxRecDepth 1000000 in
theorem escz_digit (b : Nat) (l : List UInt8) (i : Nat) (w : World) (h : ZS b l i 0 w) (c : UInt8) (hc : Asc.at_ l i = c.toNat) (hn1 : c.toNat ≠ 100) (hn2 : c.toNat ≠ 119) (hn3 : c.toNat ≠ 115) (hn4 : c.toNat ≠ 110) (hn5 : c.toNat ≠ 116) (h1 : 32 ≤ c.toNat) (h2 : c.toNat ≤ 126) (h3 : Asc.isLetter c.toNat = false) (h4 : Asc.isDigit c.toNat = true) : Calls Tryz.prog 129 #[.pointer (some ⟨b, 0, none⟩)] w (EscZ b l (.error (i, 1)) w) := by
 have hv := (zero_of_info infoS).1
 have hbb := h.st.lt
 have H := Lib.hid h
 have hlt8 : c.toNat < 256 := UInt8.toNat_lt c
 have HN := Lib.hid fun W (hW : ZS b l i 0 W) => znext_ok b l i W hW c.toNat hc (by omega)
 have z100 : ((c.toNat : Int) == 100) = false := by rw [beq_eq_false_iff_ne]; omega
 have z119 : ((c.toNat : Int) == 119) = false := by rw [beq_eq_false_iff_ne]; omega
 have z115 : ((c.toNat : Int) == 115) = false := by rw [beq_eq_false_iff_ne]; omega
 have z110 : ((c.toNat : Int) == 110) = false := by rw [beq_eq_false_iff_ne]; omega
 have z116 : ((c.toNat : Int) == 116) = false := by rw [beq_eq_false_iff_ne]; omega
 have HF := Lib.hid fun W (hW : ZS b l i 0 W) => zfail b l i 0 1 W hW
 rw [if_pos rfl] at HF
 have HPR := Lib.hid fun W => printable_yes c.toNat W h1 h2
 have HLT := Lib.hid fun W (hW : ZS b l i 0 W) => letter_any c.toNat W hlt8 hW.kd
 rw [h3] at HLT
 have HDG := Lib.hid fun W (hW : ZS b l i 0 W) => digit_any c.toNat W hlt8 hW.kd
 rw [h4] at HDG
 clear hc hn1 hn2 hn3 hn4 hn5 h1 h2 h3 h4 hlt8
 clear h
 go_enter Tryz.func129, Tryz.ntmps129
 go_wp2_with fail
 rw [← setA_false]
 have HQ0 := Lib.hid ((ZQ.refl H.out).on (al_below w (.cells (setA (fun _ => false)) 160)))
 refine (HN.out _ HQ0.out.ps).mono ?_
 rintro e w1 ⟨rfl, hq⟩
 have HQ1 := Lib.hid (HQ0.out.trans hq)
 have HB1 := Lib.hid ((hq.ap.block (k := w.heap.size) (by omega) (by simp)).trans (heap_alloc_new w _))
 clear hq HQ0
 go_wp2_with fail
 refine (HPR.out _).mono ?_
 rintro e wp ⟨rfl, rfl⟩
 go_wp2_with fail
 refine (HLT.out _ HQ1.out.ps).mono ?_
 rintro e wp ⟨rfl, rfl⟩
 go_wp2_with fail
 refine (HDG.out _ HQ1.out.ps).mono ?_
 rintro e wp ⟨rfl, rfl⟩
 go_wp2_with fail
 refine (HF.out _ HQ1.out.ps).mono ?_
 rintro e w2 ⟨rfl, hq⟩
 have HQ2 := Lib.hid (HQ1.out.trans hq)
 have h2 := (hq.ap.block (k := w.heap.size) (by omega) (Array.getElem?_eq_some_iff.1 HB1.out).1).trans HB1.out
 have e2 := put_self h2
 clear hq HQ1 HB1
 go_wp2_with fail
 refine wp_load_set _ rfl w.heap.size rfl _ _ h2 ?_
 go_wp2_with fail
 exact ret_set3 rfl h2 rfl rfl ⟨_, 0, false, i, 1, rfl, HQ2.out, by decide, fits_err (by decide)⟩
theorem esc_any (b : Nat) (l : List UInt8) (i : Nat) (w : World) (h : ZS b l i 0 w) : Calls Tryz.prog 129 #[.pointer (some ⟨b, 0, none⟩)] w (EscZ b l (escM l i) w) := by
 unfold escM
 by_cases h1 : Asc.at_ l i = 100
 ·rw [if_pos h1]
  exact escz_d b l i w h h1
 rw [if_neg h1]
 by_cases h2 : Asc.at_ l i = 119
 ·rw [if_pos h2]
  exact escz_w b l i w h h2
 rw [if_neg h2]
 by_cases h3 : Asc.at_ l i = 115
 ·rw [if_pos h3]
  exact escz_s b l i w h h3
 rw [if_neg h3]
 by_cases h4 : Asc.at_ l i = 110
 ·rw [if_pos h4]
  exact escz_n b l i w h h4
 rw [if_neg h4]
 by_cases h5 : Asc.at_ l i = 116
 ·rw [if_pos h5]
  exact escz_t b l i w h h5
 rw [if_neg h5]
 by_cases h6 : selfE (Asc.at_ l i) = true
 ·rw [if_pos h6]
  simp only [selfE, Bool.and_eq_true, decide_eq_true_eq, Bool.not_eq_true'] at h6
  obtain ⟨⟨⟨ha, hb⟩, hd⟩, he⟩ := h6
  obtain ⟨c, hc⟩ := at_u8 (l := l) (i := i) (by omega)
  rw [hc] at h1 h2 h3 h4 h5 ha hb hd he ⊢
  exact escz_self b l i w h c hc h1 h2 h3 h4 h5 ha hb hd he
 rw [if_neg h6]
 rcases at_two l i with h9 | h9
 ·obtain ⟨c, hc⟩ := at_u8 (l := l) (i := i) h9
  rw [hc] at h1 h2 h3 h4 h5 h6
  by_cases ha : c.toNat < 32 ∨ 126 < c.toNat
  ·exact escz_odd b l i w h c hc ha
  ·have ha1 : 32 ≤ c.toNat := by omega
   have ha2 : c.toNat ≤ 126 := by omega
   cases hd : Asc.isLetter c.toNat with
   | true => exact escz_letter b l i w h c hc h1 h2 h3 h4 h5 ha1 ha2 hd
   | false =>
    cases he : Asc.isDigit c.toNat with
    | true => exact escz_digit b l i w h c hc h1 h2 h3 h4 h5 ha1 ha2 hd he
    | false => exact absurd (by simp [selfE, ha1, ha2, hd, he]) h6
 ·exact escz_end b l i w h h9
end Go.Proofs.YtgcpinnnfoanjaaGreatDoor
namespace Go.Proofs.YtgcpinnnfoanjaaGreatDoor
open Go.RowKit
def dwsL : List UInt8 := [100, 119, 115]
theorem itz_ret {fn : Func} {p t u : Tmp} (hfn : fn.results = #[.cell p 160, .tmp t, .tmp u]) {w W : World} {f : Nat → Bool} (hg : W.heap[w.heap.size]? = some (.cells (setA f) 160 (0, 0))) {tmps : Array Value} (hp : tmps.getD p undef = .pointer (some ⟨w.heap.size, 0, none⟩)) {b : Nat} {l : List UInt8} {r : Out ((Nat → Bool) × Nat × Bool)} {c : Nat} {one : Bool} {j e : Nat}
  (h1 : tmps.getD t undef = .int .u8 (c : Int)) (h2 : tmps.getD u undef = .bool one) (hq : ZQ b l j e w W) (hc : c < 256) (hr : fits r (f, c, one) j e) : bodyPost Tryz.prog fn (EscZ b l r w) Exit.ret { tmps := tmps, defers := [] } W :=
 ret_set3 hfn hg rfl hp ⟨f, c, one, j, e, by rw [h1, h2], hq, hc, hr⟩
set_option maxHeartbeats 8000000 in
set_option maxRecDepth 1000000 in
theorem itz_bend (b : Nat) (l : List UInt8) (i : Nat) (sg : Bool) (w : World) (h : ZS b l i 0 w) (hc : Asc.at_ l i = 92) (hx : Asc.at_ l (i + 1) = 999) : Calls Tryz.prog 145 #[.pointer (some ⟨b, 0, none⟩), .bool sg] w (EscZ b l (escM l (i + 1)) w) := by
 have hv := (zero_of_info infoS).1
 have hbb := h.st.lt
 have H := Lib.hid h
 have HT := Lib.hid fun W (hW : ZS b l i 0 W) => ztakes_yes b l i W hW 92 hc (by decide)
 have hi1 : i < l.length := Asc.at_lt (by omega)
 have HN := Lib.hid fun W (hW : ZS b l (i + 1) 0 W) => znext_no b l (i + 1) 0 W hW hx
 have HE := Lib.hid fun W (hW : ZS b l (i + 1) 0 W) => esc_any b l (i + 1) W hW
 clear hc hx
 clear h
 go_enter Tryz.func145, Tryz.ntmps145
 go_wp2_with fail
 rw [← setA_false]
 have HQ0 := Lib.hid ((ZQ.refl H.out).on (al_below w (.cells (setA (fun _ => false)) 160)))
 have HB0 := Lib.hid (heap_alloc_new w (.cells (setA (fun _ => false)) 160))
 have hg0 : w.heap.size < (w.alloc (.cells (setA (fun _ => false)) 160)).heap.size := by simp
 refine (HT.out _ HQ0.out.ps).mono ?_
 rintro e w1 ⟨rfl, hq⟩
 have HQ1 := Lib.hid (HQ0.out.trans hq)
 have HB1 := Lib.hid ((hq.ap.block (k := w.heap.size) (by omega) (Array.getElem?_eq_some_iff.1 HB0.out).1).trans HB0.out)
 clear hq HQ0 HB0
 go_wp2_with fail
 refine (HN.out _ HQ1.out.ps).mono ?_
 rintro e w2 ⟨rfl, hq⟩
 have HQ2 := Lib.hid (HQ1.out.trans hq)
 have HB2 := Lib.hid ((hq.ap.block (k := w.heap.size) (by omega) (Array.getElem?_eq_some_iff.1 HB1.out).1).trans HB1.out)
 clear hq HQ1 HB1
 go_wp2_with fail
 refine (HE.out _ HQ2.out.ps).mono ?_
 rintro e w3 ⟨f, c, one, j, e, rfl, hq, hc8, hr⟩
 have HQ3 := Lib.hid (HQ2.out.trans hq)
 have HB3 := Lib.hid ((hq.ap.block (k := w.heap.size) (by omega) (Array.getElem?_eq_some_iff.1 HB2.out).1).trans HB2.out)
 clear hq HQ2 HB2
 obtain ⟨w9, e9, h9, hb9, e9'⟩ := put_set2 HB3.out f
 have HQ9 := Lib.hid (HQ3.out.far (hb9.mono (Nat.le_refl _)) hbb)
 clear hb9
 go_wp2_with fail
 exact itz_ret rfl h9 rfl rfl rfl HQ9.out hc8 hr
set_option maxHeartbeats 8000000 in
set_option maxRecDepth 1000000 in
theorem itz_bany (b : Nat) (l : List UInt8) (i : Nat) (w : World) (h : ZS b l i 0 w) (hc : Asc.at_ l i = 92) (x : UInt8) (hx : Asc.at_ l (i + 1) = x.toNat) : Calls Tryz.prog 145 #[.pointer (some ⟨b, 0, none⟩), .bool false] w (EscZ b l (escM l (i + 1)) w) := by
 have hv := (zero_of_info infoS).1
 have hbb := h.st.lt
 have H := Lib.hid h
 have HT := Lib.hid fun W (hW : ZS b l i 0 W) => ztakes_yes b l i W hW 92 hc (by decide)
 have hi1 : i < l.length := Asc.at_lt (by omega)
 have hx8 : x.toNat < 256 := UInt8.toNat_lt x
 have HN := Lib.hid fun W (hW : ZS b l (i + 1) 0 W) => znext_ok b l (i + 1) W hW x.toNat hx hx8
 have HE := Lib.hid fun W (hW : ZS b l (i + 1) 0 W) => esc_any b l (i + 1) W hW
 clear hc hx
 clear h
 go_enter Tryz.func145, Tryz.ntmps145
 go_wp2_with fail
 rw [← setA_false]
 have HQ0 := Lib.hid ((ZQ.refl H.out).on (al_below w (.cells (setA (fun _ => false)) 160)))
 have HB0 := Lib.hid (heap_alloc_new w (.cells (setA (fun _ => false)) 160))
 have hg0 : w.heap.size < (w.alloc (.cells (setA (fun _ => false)) 160)).heap.size := by simp
 refine (HT.out _ HQ0.out.ps).mono ?_
 rintro e w1 ⟨rfl, hq⟩
 have HQ1 := Lib.hid (HQ0.out.trans hq)
 have HB1 := Lib.hid ((hq.ap.block (k := w.heap.size) (by omega) (Array.getElem?_eq_some_iff.1 HB0.out).1).trans HB0.out)
 clear hq HQ0 HB0
 go_wp2_with fail
 refine (HN.out _ HQ1.out.ps).mono ?_
 rintro e w2 ⟨rfl, hq⟩
 have HQ2 := Lib.hid (HQ1.out.trans hq)
 have HB2 := Lib.hid ((hq.ap.block (k := w.heap.size) (by omega) (Array.getElem?_eq_some_iff.1 HB1.out).1).trans HB1.out)
 clear hq HQ1 HB1
 go_wp2_with fail
 refine (HE.out _ HQ2.out.ps).mono ?_
 rintro e w3 ⟨f, c, one, j, e, rfl, hq, hc8, hr⟩
 have HQ3 := Lib.hid (HQ2.out.trans hq)
 have HB3 := Lib.hid ((hq.ap.block (k := w.heap.size) (by omega) (Array.getElem?_eq_some_iff.1 HB2.out).1).trans HB2.out)
 clear hq HQ2 HB2
 obtain ⟨w9, e9, h9, hb9, e9'⟩ := put_set2 HB3.out f
 have HQ9 := Lib.hid (HQ3.out.far (hb9.mono (Nat.le_refl _)) hbb)
 clear hb9
 go_wp2_with fail
 exact itz_ret rfl h9 rfl rfl rfl HQ9.out hc8 hr
set_option maxHeartbeats 8000000 in
set_option maxRecDepth 1000000 in
theorem itz_bone (b : Nat) (l : List UInt8) (i : Nat) (w : World) (h : ZS b l i 0 w) (hc : Asc.at_ l i = 92) (x : UInt8) (hx : Asc.at_ l (i + 1) = x.toNat) (hn : x ∉ dwsL) : Calls Tryz.prog 145 #[.pointer (some ⟨b, 0, none⟩), .bool true] w (EscZ b l (escM l (i + 1)) w) := by
 have hv := (zero_of_info infoS).1
 have hbb := h.st.lt
 have H := Lib.hid h
 have HT := Lib.hid fun W (hW : ZS b l i 0 W) => ztakes_yes b l i W hW 92 hc (by decide)
 have hi1 : i < l.length := Asc.at_lt (by omega)
 have hx8 : x.toNat < 256 := UInt8.toNat_lt x
 have HN := Lib.hid fun W (hW : ZS b l (i + 1) 0 W) => znext_ok b l (i + 1) W hW x.toNat hx hx8
 have HE := Lib.hid fun W (hW : ZS b l (i + 1) 0 W) => esc_any b l (i + 1) W hW
 have HI := Lib.hid fun W => (show Calls Tryz.prog 131 #[.string ⟨#[100, 119, 115]⟩, .int .u8 (x.toNat : Int)] W _ from ib_no dwsL x W hn)
 clear hc hx hn
 clear h
 go_enter Tryz.func145, Tryz.ntmps145
 go_wp2_with fail
 rw [← setA_false]
 have HQ0 := Lib.hid ((ZQ.refl H.out).on (al_below w (.cells (setA (fun _ => false)) 160)))
 have HB0 := Lib.hid (heap_alloc_new w (.cells (setA (fun _ => false)) 160))
 have hg0 : w.heap.size < (w.alloc (.cells (setA (fun _ => false)) 160)).heap.size := by simp
 refine (HT.out _ HQ0.out.ps).mono ?_
 rintro e w1 ⟨rfl, hq⟩
 have HQ1 := Lib.hid (HQ0.out.trans hq)
 have HB1 := Lib.hid ((hq.ap.block (k := w.heap.size) (by omega) (Array.getElem?_eq_some_iff.1 HB0.out).1).trans HB0.out)
 clear hq HQ0 HB0
 go_wp2_with fail
 refine (HN.out _ HQ1.out.ps).mono ?_
 rintro e w2 ⟨rfl, hq⟩
 have HQ2 := Lib.hid (HQ1.out.trans hq)
 have HB2 := Lib.hid ((hq.ap.block (k := w.heap.size) (by omega) (Array.getElem?_eq_some_iff.1 HB1.out).1).trans HB1.out)
 clear hq HQ1 HB1
 go_wp2_with fail
 refine (HI.out _).mono ?_
 rintro e wp ⟨rfl, rfl⟩
 go_wp2_with fail
 refine (HE.out _ HQ2.out.ps).mono ?_
 rintro e w3 ⟨f, c, one, j, e, rfl, hq, hc8, hr⟩
 have HQ3 := Lib.hid (HQ2.out.trans hq)
 have HB3 := Lib.hid ((hq.ap.block (k := w.heap.size) (by omega) (Array.getElem?_eq_some_iff.1 HB2.out).1).trans HB2.out)
 clear hq HQ2 HB2
 obtain ⟨w9, e9, h9, hb9, e9'⟩ := put_set2 HB3.out f
 have HQ9 := Lib.hid (HQ3.out.far (hb9.mono (Nat.le_refl _)) hbb)
 clear hb9
 go_wp2_with fail
 exact itz_ret rfl h9 rfl rfl rfl HQ9.out hc8 hr
set_option maxHeartbeats 8000000 in
set_option maxRecDepth 1000000 in
theorem itz_bset (b : Nat) (l : List UInt8) (i : Nat) (w : World) (h : ZS b l i 0 w) (hc : Asc.at_ l i = 92) (x : UInt8) (hx : Asc.at_ l (i + 1) = x.toNat) (hn : x ∈ dwsL) : Calls Tryz.prog 145 #[.pointer (some ⟨b, 0, none⟩), .bool true] w (EscZ b l (.error (i, 1)) w) := by
 have hv := (zero_of_info infoS).1
 have hbb := h.st.lt
 have H := Lib.hid h
 have HT := Lib.hid fun W (hW : ZS b l i 0 W) => ztakes_yes b l i W hW 92 hc (by decide)
 have hi1 : i < l.length := Asc.at_lt (by omega)
 have hx8 : x.toNat < 256 := UInt8.toNat_lt x
 have hl2 := h.len
 have hw : IntKind.i64.wrap (((i + 1 : Nat) : Int) - 1) = (i : Int) := by rw [show ((i + 1 : Nat) : Int) - 1 = (i : Int) by omega]; exact IntWalk.i64_in _ (by omega)
 have HN := Lib.hid fun W (hW : ZS b l (i + 1) 0 W) => znext_ok b l (i + 1) W hW x.toNat hx hx8
 have HF := Lib.hid fun W (hW : ZS b l i 0 W) => zfail b l i 0 1 W hW
 rw [if_pos rfl] at HF
 have HI := Lib.hid fun W => (show Calls Tryz.prog 131 #[.string ⟨#[100, 119, 115]⟩, .int .u8 (x.toNat : Int)] W _ from ib_yes dwsL x W hn)
 obtain ⟨K, hK⟩ : ∃ K, Asc.pos dwsL x = K := ⟨_, rfl⟩
 rw [hK] at HI
 have z0 : decide ((0 : Int) ≤ (K : Int)) = true := decide_eq_true (by omega)
 clear hK
 have HLE := Lib.hid (Nat.le_of_lt hi1)
 clear hc hx hn
 clear h
 go_enter Tryz.func145, Tryz.ntmps145
 go_wp2_with fail
 rw [← setA_false]
 have HQ0 := Lib.hid ((ZQ.refl H.out).on (al_below w (.cells (setA (fun _ => false)) 160)))
 have HB0 := Lib.hid (heap_alloc_new w (.cells (setA (fun _ => false)) 160))
 have hg0 : w.heap.size < (w.alloc (.cells (setA (fun _ => false)) 160)).heap.size := by simp
 refine (HT.out _ HQ0.out.ps).mono ?_
 rintro e w1 ⟨rfl, hq⟩
 have HQ1 := Lib.hid (HQ0.out.trans hq)
 have HB1 := Lib.hid ((hq.ap.block (k := w.heap.size) (by omega) (Array.getElem?_eq_some_iff.1 HB0.out).1).trans HB0.out)
 clear hq HQ0 HB0
 go_wp2_with fail
 refine (HN.out _ HQ1.out.ps).mono ?_
 rintro e w2 ⟨rfl, hq⟩
 have HQ2 := Lib.hid (HQ1.out.trans hq)
 have HB2 := Lib.hid ((hq.ap.block (k := w.heap.size) (by omega) (Array.getElem?_eq_some_iff.1 HB1.out).1).trans HB1.out)
 clear hq HQ1 HB1
 have c1 := HQ2.out.ps.c1
 have f1 := HQ2.out.ps.f1
 go_wp2_with fail
 refine (HI.out _).mono ?_
 rintro e wp ⟨rfl, rfl⟩
 go_wp2_with fail
 have HQ3 := Lib.hid (HQ2.out.trans (HQ2.out.ps.to i HLE.out))
 have HB3 := Lib.hid (show (w2.setCell ⟨b, 1, none⟩ (.int .i64 (i : Int))).heap[w.heap.size]? = _ from (Below.heap_setCell _ _ _ w.heap.size (by simp only; omega)).trans HB2.out)
 clear HQ2 HB2 c1 f1
 refine (HF.out _ HQ3.out.ps).mono ?_
 rintro e w8 ⟨rfl, hq⟩
 have HQ8 := Lib.hid (HQ3.out.trans hq)
 have h8 := (hq.ap.block (k := w.heap.size) (by omega) (Array.getElem?_eq_some_iff.1 HB3.out).1).trans HB3.out
 have e8 := put_self h8
 clear hq HQ3 HB3
 go_wp2_with fail
 refine wp_load_set _ rfl w.heap.size rfl _ _ h8 ?_
 go_wp2_with fail
 exact itz_ret rfl h8 rfl rfl rfl HQ8.out (by decide) (fits_err (by decide))
set_option maxHeartbeats 8000000 in
set_option maxRecDepth 1000000 in
theorem itz_end (b : Nat) (l : List UInt8) (i : Nat) (sg : Bool) (w : World) (h : ZS b l i 0 w) (hc : Asc.at_ l i = 999) : Calls Tryz.prog 145 #[.pointer (some ⟨b, 0, none⟩), .bool sg] w (EscZ b l (.error (i, 1)) w) := by
 have hv := (zero_of_info infoS).1
 have hbb := h.st.lt
 have H := Lib.hid h
 have hc0 : nxN l i 0 ≠ 92 := by rw [nxN_ok, hc]; decide
 have HT := Lib.hid fun W (hW : ZS b l i 0 W) => ztakes_no b l i 0 W hW 92 hc0
 have HN := Lib.hid fun W (hW : ZS b l i 0 W) => znext_no b l i 0 W hW hc
 have HF := Lib.hid fun W (hW : ZS b l i 0 W) => zfail b l i 0 1 W hW
 rw [if_pos rfl] at HF
 clear hc hc0
 clear h
 go_enter Tryz.func145, Tryz.ntmps145
 go_wp2_with fail
 rw [← setA_false]
 have HQ0 := Lib.hid ((ZQ.refl H.out).on (al_below w (.cells (setA (fun _ => false)) 160)))
 have HB0 := Lib.hid (heap_alloc_new w (.cells (setA (fun _ => false)) 160))
 have hg0 : w.heap.size < (w.alloc (.cells (setA (fun _ => false)) 160)).heap.size := by simp
 refine (HT.out _ HQ0.out.ps).mono ?_
 rintro e w1 ⟨rfl, hq⟩
 have HQ1 := Lib.hid (HQ0.out.trans hq)
 have HB1 := Lib.hid ((hq.ap.block (k := w.heap.size) (by omega) (Array.getElem?_eq_some_iff.1 HB0.out).1).trans HB0.out)
 clear hq HQ0 HB0
 go_wp2_with fail
 refine (HN.out _ HQ1.out.ps).mono ?_
 rintro e w2 ⟨rfl, hq⟩
 have HQ2 := Lib.hid (HQ1.out.trans hq)
 have HB2 := Lib.hid ((hq.ap.block (k := w.heap.size) (by omega) (Array.getElem?_eq_some_iff.1 HB1.out).1).trans HB1.out)
 clear hq HQ1 HB1
 go_wp2_with fail
 refine (HF.out _ HQ2.out.ps).mono ?_
 rintro e w8 ⟨rfl, hq⟩
 have HQ8 := Lib.hid (HQ2.out.trans hq)
 have h8 := (hq.ap.block (k := w.heap.size) (by omega) (Array.getElem?_eq_some_iff.1 HB2.out).1).trans HB2.out
 have e8 := put_self h8
 clear hq HQ2 HB2
 go_wp2_with fail
 refine wp_load_set _ rfl w.heap.size rfl _ _ h8 ?_
 go_wp2_with fail
 exact itz_ret rfl h8 rfl rfl rfl HQ8.out (by decide) (fits_err (by decide))
set_option maxHeartbeats 8000000 in
set_option maxRecDepth 1000000 in
theorem itz_odd (b : Nat) (l : List UInt8) (i : Nat) (sg : Bool) (w : World) (h : ZS b l i 0 w) (c : UInt8) (hc : Asc.at_ l i = c.toNat) (hc1 : c.toNat ≠ 92) (h1 : c.toNat < 32 ∨ 126 < c.toNat) : Calls Tryz.prog 145 #[.pointer (some ⟨b, 0, none⟩), .bool sg] w (EscZ b l (.error (i, 1)) w) := by
 have hv := (zero_of_info infoS).1
 have hbb := h.st.lt
 have H := Lib.hid h
 have hc0 : nxN l i 0 ≠ 92 := by rw [nxN_ok, hc]; exact hc1
 have hc8 : c.toNat < 256 := UInt8.toNat_lt c
 have HC8 := Lib.hid hc8
 have HT := Lib.hid fun W (hW : ZS b l i 0 W) => ztakes_no b l i 0 W hW 92 hc0
 have HN := Lib.hid fun W (hW : ZS b l i 0 W) => znext_ok b l i W hW c.toNat hc hc8
 have HF := Lib.hid fun W (hW : ZS b l i 0 W) => zfail b l i 0 1 W hW
 rw [if_pos rfl] at HF
 have HPR := Lib.hid fun W => printable_no c.toNat W h1
 clear hc hc0 hc1 h1 hc8
 clear h
 go_enter Tryz.func145, Tryz.ntmps145
 go_wp2_with fail
 rw [← setA_false]
 have HQ0 := Lib.hid ((ZQ.refl H.out).on (al_below w (.cells (setA (fun _ => false)) 160)))
 have HB0 := Lib.hid (heap_alloc_new w (.cells (setA (fun _ => false)) 160))
 have hg0 : w.heap.size < (w.alloc (.cells (setA (fun _ => false)) 160)).heap.size := by simp
 refine (HT.out _ HQ0.out.ps).mono ?_
 rintro e w1 ⟨rfl, hq⟩
 have HQ1 := Lib.hid (HQ0.out.trans hq)
 have HB1 := Lib.hid ((hq.ap.block (k := w.heap.size) (by omega) (Array.getElem?_eq_some_iff.1 HB0.out).1).trans HB0.out)
 clear hq HQ0 HB0
 go_wp2_with fail
 refine (HN.out _ HQ1.out.ps).mono ?_
 rintro e w2 ⟨rfl, hq⟩
 have HQ2 := Lib.hid (HQ1.out.trans hq)
 have HB2 := Lib.hid ((hq.ap.block (k := w.heap.size) (by omega) (Array.getElem?_eq_some_iff.1 HB1.out).1).trans HB1.out)
 clear hq HQ1 HB1
 go_wp2_with fail
 refine (HPR.out _).mono ?_
 rintro e wp ⟨rfl, rfl⟩
 go_wp2_with fail
 refine (HF.out _ HQ2.out.ps).mono ?_
 rintro e w8 ⟨rfl, hq⟩
 have HQ8 := Lib.hid (HQ2.out.trans hq)
 have h8 := (hq.ap.block (k := w.heap.size) (by omega) (Array.getElem?_eq_some_iff.1 HB2.out).1).trans HB2.out
 have e8 := put_self h8
 clear hq HQ2 HB2
 go_wp2_with fail
 refine wp_load_set _ rfl w.heap.size rfl _ _ h8 ?_
 go_wp2_with fail
 exact itz_ret rfl h8 rfl rfl rfl HQ8.out (by decide) (fits_err (by decide))
set_option maxHeartbeats 8000000 in
set_option maxRecDepth 1000000 in
theorem itz_sign (b : Nat) (l : List UInt8) (i : Nat) (sg : Bool) (w : World) (h : ZS b l i 0 w) (c : UInt8) (hc : Asc.at_ l i = c.toNat) (hc1 : c.toNat ≠ 92) (h1 : 32 ≤ c.toNat) (h2 : c.toNat ≤ 126) (hn : c ∈ oddL) : Calls Tryz.prog 145 #[.pointer (some ⟨b, 0, none⟩), .bool sg] w (EscZ b l (.error (i, 1)) w) := by
 have hv := (zero_of_info infoS).1
 have hbb := h.st.lt
 have H := Lib.hid h
 have hc0 : nxN l i 0 ≠ 92 := by rw [nxN_ok, hc]; exact hc1
 have hc8 : c.toNat < 256 := UInt8.toNat_lt c
 have HC8 := Lib.hid hc8
 have HT := Lib.hid fun W (hW : ZS b l i 0 W) => ztakes_no b l i 0 W hW 92 hc0
 have HN := Lib.hid fun W (hW : ZS b l i 0 W) => znext_ok b l i W hW c.toNat hc hc8
 have HF := Lib.hid fun W (hW : ZS b l i 0 W) => zfail b l i 0 1 W hW
 rw [if_pos rfl] at HF
 have HPR := Lib.hid fun W => printable_yes c.toNat W h1 h2
 have HI := Lib.hid fun W => (show Calls Tryz.prog 131 #[.string ⟨#[93, 45, 94, 92]⟩, .int .u8 (c.toNat : Int)] W _ from ib_yes oddL c W hn)
 obtain ⟨K, hK⟩ : ∃ K, Asc.pos oddL c = K := ⟨_, rfl⟩
 rw [hK] at HI
 have z0 : decide ((0 : Int) ≤ (K : Int)) = true := decide_eq_true (by omega)
 clear hK
 clear hc hc0 hc1 h1 h2 hc8 hn
 clear h
 go_enter Tryz.func145, Tryz.ntmps145
 go_wp2_with fail
 rw [← setA_false]
 have HQ0 := Lib.hid ((ZQ.refl H.out).on (al_below w (.cells (setA (fun _ => false)) 160)))
 have HB0 := Lib.hid (heap_alloc_new w (.cells (setA (fun _ => false)) 160))
 have hg0 : w.heap.size < (w.alloc (.cells (setA (fun _ => false)) 160)).heap.size := by simp
 refine (HT.out _ HQ0.out.ps).mono ?_
 rintro e w1 ⟨rfl, hq⟩
 have HQ1 := Lib.hid (HQ0.out.trans hq)
 have HB1 := Lib.hid ((hq.ap.block (k := w.heap.size) (by omega) (Array.getElem?_eq_some_iff.1 HB0.out).1).trans HB0.out)
 clear hq HQ0 HB0
 go_wp2_with fail
 refine (HN.out _ HQ1.out.ps).mono ?_
 rintro e w2 ⟨rfl, hq⟩
 have HQ2 := Lib.hid (HQ1.out.trans hq)
 have HB2 := Lib.hid ((hq.ap.block (k := w.heap.size) (by omega) (Array.getElem?_eq_some_iff.1 HB1.out).1).trans HB1.out)
 clear hq HQ1 HB1
 go_wp2_with fail
 refine (HPR.out _).mono ?_
 rintro e wp ⟨rfl, rfl⟩
 go_wp2_with fail
 refine (HI.out _).mono ?_
 rintro e wp ⟨rfl, rfl⟩
 go_wp2_with fail
 refine (HF.out _ HQ2.out.ps).mono ?_
 rintro e w8 ⟨rfl, hq⟩
 have HQ8 := Lib.hid (HQ2.out.trans hq)
 have h8 := (hq.ap.block (k := w.heap.size) (by omega) (Array.getElem?_eq_some_iff.1 HB2.out).1).trans HB2.out
 have e8 := put_self h8
 clear hq HQ2 HB2
 go_wp2_with fail
 refine wp_load_set _ rfl w.heap.size rfl _ _ h8 ?_
 go_wp2_with fail
 exact itz_ret rfl h8 rfl rfl rfl HQ8.out (by decide) (fits_err (by decide))
set_option maxHeartbeats 8000000 in
set_option maxRecDepth 1000000 in
theorem itz_self (b : Nat) (l : List UInt8) (i : Nat) (sg : Bool) (w : World) (h : ZS b l i 0 w) (c : UInt8) (hc : Asc.at_ l i = c.toNat) (hc1 : c.toNat ≠ 92) (h1 : 32 ≤ c.toNat) (h2 : c.toNat ≤ 126) (hn : c ∉ oddL) : Calls Tryz.prog 145 #[.pointer (some ⟨b, 0, none⟩), .bool sg] w (EscZ b l (.ok ((spanF c.toNat (c.toNat + 1), c.toNat, true), i + 1)) w) := by
 have hv := (zero_of_info infoS).1
 have hbb := h.st.lt
 have H := Lib.hid h
 have hc0 : nxN l i 0 ≠ 92 := by rw [nxN_ok, hc]; exact hc1
 have hc8 : c.toNat < 256 := UInt8.toNat_lt c
 have HC8 := Lib.hid hc8
 have HT := Lib.hid fun W (hW : ZS b l i 0 W) => ztakes_no b l i 0 W hW 92 hc0
 have HN := Lib.hid fun W (hW : ZS b l i 0 W) => znext_ok b l i W hW c.toNat hc hc8
 have hl : i < l.length := Asc.at_lt (by omega)
 have hl2 := h.len
 have hw : IntKind.i64.wrap ((i : Int) + 1) = (i : Int) + 1 := IntWalk.i64_in _ (by omega)
 have HL := Lib.hid hl
 have HPR := Lib.hid fun W => printable_yes c.toNat W h1 h2
 have HI := Lib.hid fun W => (show Calls Tryz.prog 131 #[.string ⟨#[93, 45, 94, 92]⟩, .int .u8 (c.toNat : Int)] W _ from ib_no oddL c W hn)
 have HSN := Lib.hid fun W => span_any c c W
 obtain ⟨f, hf⟩ : ∃ f, spanF c.toNat (c.toNat + 1) = f := ⟨_, rfl⟩
 rw [hf] at HSN ⊢
 clear hc hc0 hc1 h1 h2 hc8 hn hl hf
 clear h
 go_enter Tryz.func145, Tryz.ntmps145
 go_wp2_with fail
 rw [← setA_false]
 have HQ0 := Lib.hid ((ZQ.refl H.out).on (al_below w (.cells (setA (fun _ => false)) 160)))
 have HB0 := Lib.hid (heap_alloc_new w (.cells (setA (fun _ => false)) 160))
 have hg0 : w.heap.size < (w.alloc (.cells (setA (fun _ => false)) 160)).heap.size := by simp
 refine (HT.out _ HQ0.out.ps).mono ?_
 rintro e w1 ⟨rfl, hq⟩
 have HQ1 := Lib.hid (HQ0.out.trans hq)
 have HB1 := Lib.hid ((hq.ap.block (k := w.heap.size) (by omega) (Array.getElem?_eq_some_iff.1 HB0.out).1).trans HB0.out)
 clear hq HQ0 HB0
 go_wp2_with fail
 refine (HN.out _ HQ1.out.ps).mono ?_
 rintro e w2 ⟨rfl, hq⟩
 have HQ2 := Lib.hid (HQ1.out.trans hq)
 have HB2 := Lib.hid ((hq.ap.block (k := w.heap.size) (by omega) (Array.getElem?_eq_some_iff.1 HB1.out).1).trans HB1.out)
 clear hq HQ1 HB1
 have c1 := HQ2.out.ps.c1
 have f1 := HQ2.out.ps.f1
 go_wp2_with fail
 refine (HPR.out _).mono ?_
 rintro e wp ⟨rfl, rfl⟩
 go_wp2_with fail
 refine (HI.out _).mono ?_
 rintro e wp ⟨rfl, rfl⟩
 go_wp2_with fail
 have HQ3 := Lib.hid (HQ2.out.trans (HQ2.out.ps.to (i + 1) HL.out))
 have HB3 := Lib.hid (show (w2.setCell ⟨b, 1, none⟩ (.int .i64 ((i : Int) + 1))).heap[w.heap.size]? = _ from (Below.heap_setCell _ _ _ w.heap.size (by simp only; omega)).trans HB2.out)
 refine (HSN.out _).mono ?_
 rintro e w4 ⟨rfl, hb4⟩
 have HQ4 := Lib.hid (HQ3.out.on hb4)
 have HB4 := Lib.hid ((hb4.block _ (Array.getElem?_eq_some_iff.1 HB3.out).1).trans HB3.out)
 clear hb4 HQ2 HB2 HQ3 HB3 c1 f1
 obtain ⟨w9, e9, h9, hb9, e9'⟩ := put_set2 HB4.out f
 have HQ9 := Lib.hid (HQ4.out.far (hb9.mono (Nat.le_refl _)) hbb)
 clear hb9
 go_wp2_with fail
 exact itz_ret rfl h9 rfl rfl rfl HQ9.out HC8.out fits_ok
theorem dws_iff (x : UInt8) : dws x.toNat = true ↔ x ∈ dwsL := by
 unfold dws dwsL
 simp only [Bool.or_eq_true, decide_eq_true_eq, List.mem_cons, List.not_mem_nil, or_false, ← UInt8.toNat_inj]
 simp [or_assoc]
theorem odd_iff (c : UInt8) : c ∈ oddL ↔ (c.toNat = 93 ∨ c.toNat = 45 ∨ c.toNat = 94 ∨ c.toNat = 92) := by
 unfold oddL
 simp only [List.mem_cons, List.not_mem_nil, or_false, ← UInt8.toNat_inj]
 simp
theorem item_any (b : Nat) (l : List UInt8) (sg : Bool) (i : Nat) (w : World) (h : ZS b l i 0 w) : Calls Tryz.prog 145 #[.pointer (some ⟨b, 0, none⟩), .bool sg] w (EscZ b l (itemM l sg i) w) := by
 unfold itemM
 by_cases h1 : Asc.at_ l i = 92
 ·rw [if_pos h1]
  rcases at_two l (i + 1) with h2 | h2
  ·obtain ⟨x, hx⟩ := at_u8 h2
   rw [hx]
   cases sg with
   | false => exact itz_bany b l i w h h1 x hx
   | true =>
    by_cases hd : x ∈ dwsL
    ·rw [if_pos (by simp [(dws_iff x).2 hd])]
     exact itz_bset b l i w h h1 x hx hd
    ·rw [if_neg (by simpa using fun e => hd ((dws_iff x).1 e))]
     exact itz_bone b l i w h h1 x hx hd
  ·rw [h2, if_neg (by cases sg <;> decide)]
   exact itz_bend b l i sg w h h1 h2
 rw [if_neg h1]
 rcases at_two l i with h2 | h2
 ·obtain ⟨c, hc⟩ := at_u8 h2
  rw [hc] at h1 ⊢
  by_cases ha : c.toNat < 32 ∨ 126 < c.toNat
  ·rw [if_neg (by simp only [selfI, Bool.and_eq_true, decide_eq_true_eq]; omega)]
   exact itz_odd b l i sg w h c hc h1 ha
  ·by_cases hd : c ∈ oddL
   ·have := (odd_iff c).1 hd
    rw [if_neg (by simp only [selfI, Bool.and_eq_true, decide_eq_true_eq]; omega)]
    exact itz_sign b l i sg w h c hc h1 (by omega) (by omega) hd
   ·have hd2 := fun e => hd ((odd_iff c).2 e)
    have hs : selfI c.toNat = true := by
     simp only [selfI, Bool.and_eq_true, decide_eq_true_eq]
     exact ⟨⟨⟨⟨by omega, by omega⟩, fun e => hd2 (.inl e)⟩, fun e => hd2 (.inr (.inl e))⟩, fun e => hd2 (.inr (.inr (.inl e)))⟩
    rw [if_pos hs]
    exact itz_self b l i sg w h c hc h1 (by omega) (by omega) hd
 ·rw [h2, if_neg (by decide)]
  exact itz_end b l i sg w h h2
end Go.Proofs.YtgcpinnnfoanjaaGreatDoor
